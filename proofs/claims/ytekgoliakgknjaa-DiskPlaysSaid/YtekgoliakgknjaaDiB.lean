import Derived.Test.YtekgoliakgknjaaDiA
import Derived.Test.YtekgoliakgknjaaSh
import Derived.Laws.CopyOwn
import Derived.Deep.RegionLaw
import Derived.Maps.RangeWalk
namespace Go.Proofs.Ytekgoliakgknjaa
open Go.RowKit
set_option linter.unusedVariables false
attribute [local go_sem] b_max2 b_min2 b_max b_min

/-- a row that is being filled with one string -/
def fillV (z : ByteArray) (i n : Nat) : List Value := List.replicate i (.string z) ++ List.replicate (n - i) (.string ⟨#[]⟩)
theorem fillV_len (z : ByteArray) (i n : Nat) (h : i ≤ n) : (fillV z i n).length = n := by simp [fillV]; omega
theorem fillV_get (z : ByteArray) (i n j : Nat) (h : j < i) : (fillV z i n)[j]? = some (.string z) := by
  rw [fillV, List.getElem?_append_left (by simpa using h), List.getElem?_replicate, if_pos h]
theorem fillV_splice (z : ByteArray) (i n m : Nat) (h : i + m ≤ n) : splice (fillV z i n) i (List.replicate m (.string z)) = fillV z (i + m) n := by
  unfold splice fillV
  have e1 : (List.replicate i (Value.string z) ++ List.replicate (n - i) (Value.string ⟨#[]⟩)).take i = List.replicate i (Value.string z) := by
    rw [List.take_append_of_le_length (by simp)]; simp
  have e2 : (List.replicate i (Value.string z) ++ List.replicate (n - i) (Value.string ⟨#[]⟩)).drop (i + m) = List.replicate (n - (i + m)) (Value.string ⟨#[]⟩) := by
    rw [List.drop_append]; simp; omega
  simp only [List.length_replicate]
  rw [e1, e2, ← List.append_assoc, List.replicate_append_replicate]
theorem own_full {w : World} {base e g n : Nat} {xs : List Value} (h : w.ownsRow base e 1 (.slice (some ⟨g, 0, none⟩) n n) n xs) : w.heap[g]? = some (.cells xs.toArray e (0, 0)) := by
  obtain ⟨h0, h1 | ⟨g', cap, cur, e1, h2, h3, h4, h5, h6, h7⟩⟩ := h
  · exact absurd h1.1 (by simp)
  · simp at e1
    obtain ⟨rfl, rfl⟩ := e1
    rw [h3]
    congr 2
    rw [← h7, List.take_of_length_le (by simp [h6])]

set_option maxRecDepth 100000 in
set_option maxHeartbeats 1000000 in
theorem rep_any (z : ByteArray) (n : Nat) (ad : Addr) (c : Nat) (w : World) (hcell : w.cell? ad = some (.string z)) (had : ad.block < w.heap.size) (hn0 : 1 ≤ n) (hn : n ≤ 1000) :
    Calls Try.prog 42 #[.slice (some ad) 1 c, .int .i64 n] w fun e w' => ∃ v, e = .returned v ∧ w'.ownsRow w.heap.size 9 1 v n (List.replicate n (.string z)) ∧ Below w.heap.size w w' := by
  obtain ⟨i0, hi, hz0, hz1, hz2⟩ := info_parts str_info
  go_enter Try.func42, Try.ntmps42
  go_wp2_with fail
  refine (bits_Mul 1 n (by omega) (by omega) _).mono ?_
  rintro e w1 ⟨rfl, rfl⟩
  have e1 : 1 * n / 18446744073709551616 = 0 := by omega
  have e2 : 1 * n % 18446744073709551616 = n := by omega
  rw [e1, e2]
  obtain ⟨w2, hmk, hown, hgr⟩ := run_make_full (P := Try.prog) w1 0 60 9 i0 (.string ⟨#[]⟩) 1 Try.underlying60 hi hz0 hz1 .i64 .i64 n (by rw [hz2]; omega) (by simp only [maxLen]; omega) (Nat.zero_le _)
  have hrow := own_full hown
  rw [show (madeCells (Value.string ⟨#[]⟩).cells (n * 1)).toList = fillV z 0 n from by
    rw [show (Value.string ⟨#[]⟩ : Value).cells = #[.string ⟨#[]⟩] from rfl, Nat.mul_one, toList_madeCells_one, fillV]; simp] at hrow
  have hb2 : Below w1.heap.size w1 w2 := ⟨hgr.os, hgr.tape, hgr.output, hgr.size, fun k hk => hgr.block k hk (by simp)⟩
  have hcell2 : w2.cell? ad = some (.string z) := by rw [hb2.cell had]; exact hcell
  have hsp := fillV_splice z 0 n 1 (by omega)
  clear hown hgr
  have hcp := run_copy_row (P := Try.prog) w2 60 60 3 9 w1.heap.size 0 n n ad 1 c (fillV z 0 n).toArray 9 [.string z] Try.underlying60 (by kernel_rfl) hrow (Nat.min_eq_left hn0).symm (fun j v hj => by
    cases j with
    | zero => simp at hj; subst hj; rw [show ad.add 0 = ad from rfl]; exact hcell2
    | succ j => simp at hj) (by simp [fillV_len]; omega) (by simp [Value.oneCell'])
  have hsp2 : ((fillV z 0 n).toArray.toList.take 0 ++ [Value.string z] ++ (fillV z 0 n).toArray.toList.drop (0 + [Value.string z].length)) = fillV z 1 n := by
    rw [← hsp, splice, List.append_assoc]; rfl
  rw [hsp2] at hcp
  have hrow3 := setRow_heap w2 w1.heap.size (fillV z 0 n).toArray (fillV z 1 n).toArray 9 (0, 0) hrow
  have hb3 := below_setRow hb2 (Nat.le_refl w1.heap.size) (fillV z 1 n).toArray
  generalize w2.setRow w1.heap.size (fillV z 1 n).toArray = w3 at *
  clear hrow hb2 hcell2 hcell hsp hsp2
  go_wp2_with fail
  generalize hg : w1.heap.size = g at *
  go_loopw [8] (fun p wr => ∃ i : Nat, p = .int .i64 i ∧ 1 ≤ i ∧ i ≤ n ∧ wr.heap[g]? = some (.cells (fillV z i n).toArray 9 (0, 0)) ∧ Below g w1 wr) (fun p _ => n - (intOf p).toNat)
  case atStart => exact ⟨1, rfl, by omega, by omega, hrow3, hb3⟩
  case round =>
    obtain ⟨i, rfl, hi1, hin, hr, hb⟩ := hrel
    by_cases hlt : i < n
    · have hm1 : min i (n - i) ≤ n - i := Nat.min_le_right _ _
      have hm0 : 1 ≤ min i (n - i) := by omega
      have hmi : min i (n - i) ≤ i := Nat.min_le_left _ _
      have hsp := fillV_splice z i n (min i (n - i)) (by omega)
      have hmn : (List.replicate (min i (n - i)) (Value.string z)).length = Nat.min i (n - i) := by simp
      generalize min i (n - i) = m at *
      have hsum : IntKind.i64.wrap ((i : Int) + (m : Int)) = ((i + m : Nat) : Int) := by rw [← Int.natCast_add]; exact IntWalk.i64_in _ (by omega)
      have HS := Lib.hid hsp; have HM := Lib.hid hmn; clear hsp hmn
      have hbd : Below g w1 (wr.drewN 1) := bdrewN hb 1
      have hni : ¬ n = i := by omega
      have hsrc : ∀ j v, (List.replicate m (Value.string z))[j]? = some v → (wr.drewN 1).cell? ((⟨g, 0, none⟩ : Addr).add j) = some v := by
        intro j v hj
        have hj2 := (List.getElem?_eq_some_iff.1 hj).1
        rw [List.length_replicate] at hj2
        rw [List.getElem?_replicate, if_pos hj2] at hj
        rw [← Option.some.inj hj, add_zero']
        refine (cell_of_row (wr.drewN 1) g j (fillV z i n).toArray 9 (0, 0) hr).trans ?_
        rw [List.getElem?_toArray]
        exact fillV_get z i n j (by omega)
      have hfit : i + (List.replicate m (Value.string z)).length ≤ (fillV z i n).length := by rw [fillV_len _ _ _ hin, List.length_replicate]; omega
      have hone : ∀ v ∈ List.replicate m (Value.string z), v.oneCell' = true := by intro v hv; rw [(List.mem_replicate.1 hv).2]; rfl
      have HSRC := Lib.hid hsrc; have HFIT := Lib.hid hfit; have HONE := Lib.hid hone; clear hsrc hfit hone
      go_wp2_with fail
      go_region_held3 (fun _ => True) (go_keep) (first | (refine step_copy_splice rfl (.tmp 41) (.tmp 44) 60 60 rfl 9 Try.underlying60 (by kernel_rfl) (some ⟨g, i, none⟩) (some ⟨g, 0, none⟩) (n - i) (n - i) i n (by simp [Act.eval]) (by simp [Act.eval]) g i (fillV z i n) 9 hr (List.replicate m (.string z)) HM.out (fun _ => ⟨rfl, _, rfl, HSRC.out⟩) HFIT.out HONE.out g w1 hbd (by omega) ?_; intro w4 hrow4 hb4))
      all_goals
        replace hrow4 := hrow4.out
        rw [HS.out] at hrow4
        go_wp2_with fail
        go_roundw
        case rel => exact ⟨i + m, vint (by omega), by omega, by omega, hrow4, hb4⟩
        case measure => simp [intOf]; omega
    · obtain rfl : i = n := by omega
      go_wp2_with fail
      go_ret
      refine ⟨_, rfl, ⟨by simp, .inr ⟨g, i, (fillV z i i).toArray, rfl, by omega, hr, by omega, by simp only [maxLen]; omega, by simp [fillV_len], ?_⟩⟩, by rw [hg]; exact hb⟩
      simp [fillV]

/-! ### the disk in memory -/
abbrev Put := Nat × ByteArray
def putc (p : Put) : List Value := [.int .i64 (p.1 : Nat), .string p.2]
def cellsW : List Put → List Value := fun l => l.flatMap putc
theorem cellsW_snoc (l : List Put) (p : Put) : cellsW (l ++ [p]) = cellsW l ++ putc p := by simp [cellsW]
theorem cellsW_len (l : List Put) : (cellsW l).length = l.length * 2 := by
  induction l with
  | nil => rfl
  | cons p l ih => rw [show cellsW (p :: l) = putc p ++ cellsW l from rfl, List.length_append, ih, List.length_cons]; simp only [putc, List.length_cons, List.length_nil]; omega
/-- what a disk holds: what lies; who ever was registered, and is; the caches; who is pending -/
structure DS where
  lies : List ByteArray
  keys : Int → Option Bool
  caches : Int → List Put
  pend : List Int
/-- a row that may begin behind its block's first cells -/
def ORow (w : World) (e : TypeId) (v : Value) (n : Nat) (xs : List Value) : Prop :=
  xs.length = n ∧ ((v = .slice none 0 0 ∧ n = 0) ∨ ∃ b o cap cur, v = .slice (some ⟨b, o, none⟩) n cap ∧ w.heap[b]? = some (.cells cur e (0, 0)) ∧ n ≤ cap ∧ cap ≤ maxLen ∧ o + cap ≤ cur.size ∧ (cur.toList.drop o).take n = xs)
theorem ORow.nil (w : World) (e : TypeId) : ORow w e (.slice none 0 0) 0 [] := ⟨rfl, .inl ⟨rfl, rfl⟩⟩
theorem ORow.keep {w w' : World} {e : TypeId} {v : Value} {n : Nat} {xs : List Value} {F : Nat → Prop} (h : ORow w e v n xs) (hf : Fr F w w') (hv : ∀ k, v.ownBlock = some k → ¬ F k) : ORow w' e v n xs := by
  obtain ⟨h0, h1 | ⟨b, o, cap, cur, rfl, h2, h3⟩⟩ := h
  · exact ⟨h0, .inl h1⟩
  · exact ⟨h0, .inr ⟨b, o, cap, cur, rfl, by rw [hf.block b (Array.getElem?_eq_some_iff.1 h2).1 (hv b rfl)]; exact h2, h3⟩⟩
theorem ORow.of_own {w : World} {base e n : Nat} {v : Value} {xs : List Value} (h : w.ownsRow base e 1 v n xs) : ORow w e v n xs := by
  obtain ⟨h0, h1 | ⟨b, cap, cur, rfl, _, h2, h3, h4, h5, h6⟩⟩ := h
  · exact ⟨by omega, .inl h1⟩
  · exact ⟨by omega, .inr ⟨b, 0, cap, cur, rfl, h2, h3, h4, by omega, by rw [List.drop_zero]; simpa using h6⟩⟩
theorem ORow.lt {w : World} {e : TypeId} {v : Value} {n : Nat} {xs : List Value} (h : ORow w e v n xs) : ∀ k, v.ownBlock = some k → k < w.heap.size := by
  obtain ⟨h0, ⟨rfl, _⟩ | ⟨b, o, cap, cur, rfl, h2, h3⟩⟩ := h
  · intro k hk; cases hk
  · intro k hk
    obtain rfl : b = k := Option.some.inj hk
    exact (Array.getElem?_eq_some_iff.1 h2).1
structure IsD (w : World) (g : Nat) (F : Nat → Prop) (d : DS) : Prop where
  form : ∃ (vl vp : Value) (kb cb : Nat) (cv : Int → Option Value),
    Blk w g 69 #[vl, .map (some kb), .map (some cb), vp] ∧ F g ∧ F kb ∧ F cb ∧ g ≠ kb ∧ g ≠ cb ∧ kb ≠ cb ∧
    w.ownsRow 0 9 1 vl d.lies.length (d.lies.map Value.string) ∧ ORow w 3 vp d.pend.length (d.pend.map (Value.int .i64)) ∧
    FM w kb (fun k => (d.keys k).map Value.bool) ∧ FM w cb cv ∧
    (∀ k, w.ownsRow 0 77 2 ((cv k).getD (.slice none 0 0)) (d.caches k).length (cellsW (d.caches k))) ∧
    (∀ k, vl.ownBlock = some k → F k ∧ k ≠ g ∧ k ≠ kb ∧ k ≠ cb) ∧ (∀ k, vp.ownBlock = some k → F k ∧ k ≠ g ∧ k ≠ kb ∧ k ≠ cb) ∧ (∀ k, vl.ownBlock = some k → vp.ownBlock ≠ some k) ∧
    (∀ x k, ((cv x).getD (.slice none 0 0)).ownBlock = some k → F k ∧ k ≠ g ∧ k ≠ kb ∧ k ≠ cb ∧ vl.ownBlock ≠ some k ∧ vp.ownBlock ≠ some k) ∧
    (∀ x y k, x ≠ y → ((cv x).getD (.slice none 0 0)).ownBlock = some k → ((cv y).getD (.slice none 0 0)).ownBlock ≠ some k) ∧ (∀ k, cv k ≠ none → d.caches k ≠ [])
  fb : ∀ k, F k → k < w.heap.size
  cap : d.lies.length ≤ 70000
section
variable {w w' : World} {g : Nat} {F : Nat → Prop} {d : DS}
theorem IsD.keep (h : IsD w g F d) {G : Nat → Prop} (hf : Fr G w w') (hG : ∀ k, G k → ¬ F k) : IsD w' g F d := by
  obtain ⟨vl, vp, kb, cb, cv, h1, h2, h3, h4, h5, h6, h7, h8, h9, h10, h11, h12, h13, h14, h15, h16, h17⟩ := h.form
  exact ⟨⟨vl, vp, kb, cb, cv, hf.blk h1 (fun e => hG _ e h2), h2, h3, h4, h5, h6, h7, hf.own h8 (fun k hk e => hG k e (h13 k hk).1), h9.keep hf (fun k hk e => hG k e (h14 k hk).1),
    h10.keep hf (fun e => hG _ e h3), h11.keep hf (fun e => hG _ e h4), fun x => hf.own (h12 x) (fun k hk e => hG k e (h16 x k hk).1), h13, h14, h15, h16, h17⟩,
    fun k hk => Nat.lt_of_lt_of_le (h.fb k hk) hf.size, h.cap⟩
theorem IsD.low (h : IsD w g F d) (hb : Below w.heap.size w w') : IsD w' g F d := h.keep (G := fun _ => False) (Fr.of_below hb _) (fun _ h => h.elim)
theorem IsD.drewN (h : IsD w g F d) (n : Nat) : IsD (w.drewN n) g F d := h.low (bdrewN (Below.refl _ _) n)
theorem IsD.alloc (h : IsD w g F d) (o : Obj) : IsD (w.alloc o) g F d := h.low ((Below.refl _ _).alloc (Nat.le_refl _) o)
end
/-- a new disk -/
def DS.new (n : Nat) : DS := ⟨List.replicate n (zeros 512), fun _ => none, fun _ => [], []⟩

set_option maxRecDepth 100000 in
set_option maxHeartbeats 1000000 in
theorem new_any (n : Nat) (w : World) (h1 : 1 ≤ n) (h2 : n ≤ 1000) :
    Calls Try.prog 11 #[.int .i64 n] w fun e w' => ∃ g F, e = .returned (.pointer (some ⟨g, 0, none⟩)) ∧ IsD w' g F (DS.new n) ∧ (∀ k, F k → w.heap.size ≤ k) ∧ Below w.heap.size w w' := by
  have hmm := @run_makeMap Try.prog
  have hmx : min (max (n : Int) 1) 65536 = (n : Int) := by omega
  go_enter Try.func11, Try.ntmps11
  go_wp2_with fail
  have k0 : FM (((w.alloc (.map #[] 0)).alloc (.map #[] 0)).alloc (.cells #[.slice none 0 0, .map (some w.heap.size), .map (some (w.heap.size + 1)), .slice none 0 0] 69)) w.heap.size (fun _ => none) :=
    ((FM.new w).keep (Fr.alloc (fun _ => False) _ _) (fun h => h)).keep (Fr.alloc (fun _ => False) _ _) (fun h => h)
  have k1 : FM (((w.alloc (.map #[] 0)).alloc (.map #[] 0)).alloc (.cells #[.slice none 0 0, .map (some w.heap.size), .map (some (w.heap.size + 1)), .slice none 0 0] 69)) (w.heap.size + 1) (fun _ => none) := by
    have h := (FM.new (w.alloc (.map #[] 0))).keep (Fr.alloc (fun _ => False) _ (.cells #[.slice none 0 0, .map (some w.heap.size), .map (some (w.heap.size + 1)), .slice none 0 0] 69)) (fun h => h)
    rw [sz_alloc] at h; exact h
  have k2 : Blk (((w.alloc (.map #[] 0)).alloc (.map #[] 0)).alloc (.cells #[.slice none 0 0, .map (some w.heap.size), .map (some (w.heap.size + 1)), .slice none 0 0] 69)) (w.heap.size + 1 + 1) 69 #[.slice none 0 0, .map (some w.heap.size), .map (some (w.heap.size + 1)), .slice none 0 0] := by
    have h := Blk.new ((w.alloc (.map #[] 0)).alloc (.map #[] 0)) 69 #[.slice none 0 0, .map (some w.heap.size), .map (some (w.heap.size + 1)), .slice none 0 0]
    rw [sz_alloc, sz_alloc] at h; exact h
  have kb : Below w.heap.size w (((w.alloc (.map #[] 0)).alloc (.map #[] 0)).alloc (.cells #[.slice none 0 0, .map (some w.heap.size), .map (some (w.heap.size + 1)), .slice none 0 0] 69)) :=
    (((Below.refl _ w).alloc (Nat.le_refl _) _).alloc (by simp) _).alloc (by simp; omega) _
  have ks : (((w.alloc (.map #[] 0)).alloc (.map #[] 0)).alloc (.cells #[.slice none 0 0, .map (some w.heap.size), .map (some (w.heap.size + 1)), .slice none 0 0] 69)).heap.size = w.heap.size + 3 := by simp
  generalize ((w.alloc (.map #[] 0)).alloc (.map #[] 0)).alloc (.cells #[.slice none 0 0, .map (some w.heap.size), .map (some (w.heap.size + 1)), .slice none 0 0] 69) = w3 at *
  refine (strings_Repeat ⟨#[0]⟩ 512 _ (by omega) (by show 1 * _ ≤ _; omega)).mono ?_
  rintro e w4 ⟨rfl, b4⟩
  rw [show (⟨(Lib.repeatL (⟨#[0]⟩ : ByteArray).data.toList 512).toArray⟩ : ByteArray) = zeros 512 from by
    rw [show (⟨#[0]⟩ : ByteArray).data.toList = List.replicate 1 0 from rfl, Lib.repeatL_replicate, Nat.mul_one]; rfl]
  have hB4 := b4.size
  have F4 := (Fr.of_below b4 (fun _ => False)).trans (Fr.alloc _ w4 (.cells #[.string (zeros 512)] 9))
  replace k0 := k0.keep F4 (fun h => h)
  replace k1 := k1.keep F4 (fun h => h)
  replace k2 := F4.blk k2 (fun h => h)
  have hz : (w4.alloc (.cells #[.string (zeros 512)] 9)).cell? ⟨w4.heap.size, 0, none⟩ = some (.string (zeros 512)) := (Blk.new w4 9 #[.string (zeros 512)]).cell 0
  replace kb : Below w.heap.size w (w4.alloc (.cells #[.string (zeros 512)] 9)) := (kb.trans (b4.mono (by omega))).alloc (by omega) _
  generalize hZ : zeros 512 = z at *
  replace hZ := Lib.hid hZ
  go_wp2_with fail
  refine (rep_any z n ⟨w4.heap.size, 0, none⟩ 1 _ hz (by simp) h1 h2).mono ?_
  rintro e w5 ⟨v, rfl, ho, b5⟩
  have F5 := Fr.of_below b5 (fun _ => False)
  replace k0 := k0.keep F5 (fun h => h)
  replace k1 := k1.keep F5 (fun h => h)
  replace k2 := F5.blk k2 (fun h => h)
  have hB5 := b5.size
  rw [sz_alloc] at hB5 ho
  replace kb : Below w.heap.size w w5 := kb.trans (b5.mono (by simp; omega))
  clear F4 F5 hz b4 b5
  have kc : w5.cell? ⟨w.heap.size + 1 + 1, 0, none⟩ = some (.slice none 0 0) := k2.cell 0
  have kf : w5.frozen? ⟨w.heap.size + 1 + 1, 0, none⟩ = false := k2.frozen 0
  obtain ⟨A, c, rfl, _, _⟩ := Reads.of_own ho
  go_wp2_with fail
  go_ret
  have hS : Fr (fun k => k = w.heap.size + 1 + 1) w5 (w5.setCell ⟨w.heap.size + 1 + 1, 0, none⟩ (.slice A n c)) := Fr.setCell w5 _ 0 _ rfl
  have hne : ∀ k, (Value.slice A n c).ownBlock = some k → w4.heap.size + 1 ≤ k ∧ k < w5.heap.size := fun k hk => World.ownsRow.lt ho k hk
  refine ⟨w.heap.size + 1 + 1, fun k => w.heap.size ≤ k ∧ k < w5.heap.size, rfl, ⟨⟨.slice A n c, .slice none 0 0, w.heap.size, w.heap.size + 1, fun _ => none, k2.set_ 0 _, by omega, by omega, by omega, by omega, by omega, by omega, ?_, ORow.nil _ _, ?_, ?_, fun k => World.ownsRow_nil _ _ _ _, ?_, fun k hk => (by cases hk), fun k _ hk => (by cases hk), fun x k hk => (by cases hk), fun x y k _ hk => (by cases hk), fun k hk => absurd rfl hk⟩, fun k hk => by simpa using hk.2, by simp [DS.new]; omega⟩, fun k hk => hk.1, kb.setCell (p := ⟨w.heap.size + 1 + 1, 0, none⟩) (by show _ ≤ w.heap.size + 1 + 1; omega) _⟩
  · have h := hS.own (World.ownsRow.mono ho (Nat.zero_le _)) (fun k hk e => by have := hne k hk; omega)
    show World.ownsRow _ 0 9 1 _ (List.replicate n (zeros 512)).length ((List.replicate n (zeros 512)).map Value.string)
    rw [List.length_replicate, List.map_replicate, hZ.out]; exact h
  · exact k0.keep hS (by omega)
  · exact k1.keep hS (by omega)
  · intro k hk
    have := hne k hk
    omega
end Go.Proofs.Ytekgoliakgknjaa
