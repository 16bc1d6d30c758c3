import Derived.Test.YtekgoliakgknjaaDj
namespace Go.Proofs.Ytekgoliakgknjaa
open Go.RowKit
set_option linter.unusedVariables false
attribute [local go_sem] b_max2 b_min2 b_max b_min

/-! ### the document's disk -/
abbrev KPut := Int × Put
def putk (p : KPut) : List Value := [.int .i64 p.1, .int .i64 (p.2.1 : Nat), .string p.2.2]
def cellsK : List KPut → List Value := fun l => l.flatMap putk
theorem cellsK_snoc (l : List KPut) (p : KPut) : cellsK (l ++ [p]) = cellsK l ++ putk p := by simp [cellsK]
structure RS where
  L : List ByteArray
  ks : List Int
  on : List Bool
  puts : List KPut
  pend : List Int
/-- what a key's cache is -/
def cacheOf (l : List KPut) (k : Int) : List Put := (l.filter fun p => p.1 == k).map (·.2)
def keyOf (ks : List Int) (on : List Bool) (k : Int) : Option Bool := if k ∈ ks then some (on.getD (ks.idxOf k) false) else none
/-- what the document's disk says -/
def RS.ds (R : RS) : DS := ⟨R.L, keyOf R.ks R.on, cacheOf R.puts, R.pend⟩
structure RS.ok (R : RS) : Prop where
  l0 : 0 < R.L.length
  on : R.on.length = R.ks.length
  puts : ∀ p ∈ R.puts, p.2.1 < R.L.length
  pend : ∀ k ∈ R.pend, k ∈ R.ks
/-- nothing is too long -/
structure RS.cap (R : RS) : Prop where
  l : R.L.length ≤ 20000
  ks : R.ks.length ≤ 20000
  puts : R.puts.length ≤ 20000
  pend : R.pend.length ≤ 20000
def RRow (w : World) (R : RS) (v : Value) : Nat → Prop
  | 0 => w.ownsRow 0 9 1 v R.L.length (R.L.map Value.string)
  | 1 => w.ownsRow 0 3 1 v R.ks.length (R.ks.map (Value.int .i64))
  | 2 => w.ownsRow 0 4 1 v R.on.length (R.on.map Value.bool)
  | 3 => w.ownsRow 0 89 3 v R.puts.length (cellsK R.puts)
  | _ => ORow w 3 v R.pend.length (R.pend.map (Value.int .i64))
theorem RRow.keep {w w' : World} {R : RS} {v : Value} {j : Nat} {G : Nat → Prop} (h : RRow w R v j) (hf : Fr G w w') (hG : ∀ k, v.ownBlock = some k → ¬ G k) : RRow w' R v j := by
  match j, h with
  | 0, h => exact hf.own h hG
  | 1, h => exact hf.own h hG
  | 2, h => exact hf.own h hG
  | 3, h => exact hf.own h hG
  | (n + 4), h => exact ORow.keep h hf hG
theorem RRow.lt {w : World} {R : RS} {v : Value} {j k : Nat} (h : RRow w R v j) (hk : v.ownBlock = some k) : k < w.heap.size := by
  match j, h with
  | 0, h => exact (World.ownsRow.lt h k hk).2
  | 1, h => exact (World.ownsRow.lt h k hk).2
  | 2, h => exact (World.ownsRow.lt h k hk).2
  | 3, h => exact (World.ownsRow.lt h k hk).2
  | (n + 4), h =>
    obtain ⟨_, ⟨rfl, _⟩ | ⟨b, o, cap, cur, rfl, h2, _⟩⟩ := h
    · cases hk
    · obtain rfl := Option.some.inj hk; exact (Array.getElem?_eq_some_iff.1 h2).1
/-- a row, seen by what is kept of blocks -/
theorem own_keeps {w w' : World} {Z : Nat → Prop} {base e size n : Nat} {v : Value} {xs : List Value} (hk : Keeps Z w w') (ho : w.ownsRow base e size v n xs) (hv : ∀ k, v.ownBlock = some k → Z k) : w'.ownsRow base e size v n xs := by
  refine ⟨ho.1, ?_⟩
  rcases ho.2 with hn | ⟨g, cap, cur, rfl, hb, hg, rest⟩
  · exact .inl hn
  · exact .inr ⟨g, cap, cur, rfl, hb, hk g e cur (hv g rfl) hg, rest⟩
theorem RRow.keeps {w w' : World} {R : RS} {v : Value} {j : Nat} {Z : Nat → Prop} (h : RRow w R v j) (hk : Keeps Z w w') (hv : ∀ k, v.ownBlock = some k → Z k) : RRow w' R v j := by
  match j, h with
  | 0, h => exact own_keeps hk h hv
  | 1, h => exact own_keeps hk h hv
  | 2, h => exact own_keeps hk h hv
  | 3, h => exact own_keeps hk h hv
  | (n + 4), h =>
    obtain ⟨h0, h1 | ⟨b, o, cap, cur, rfl, h2, h3⟩⟩ := h
    · exact ⟨h0, .inl h1⟩
    · exact ⟨h0, .inr ⟨b, o, cap, cur, rfl, hk b 3 cur (hv b rfl) h2, h3⟩⟩
structure RX (w : World) (g : Nat) (F : Nat → Prop) (R : RS) (vs : Nat → Value) : Prop where
  blk : Blk w g 64 #[vs 0, vs 1, vs 2, vs 3, vs 4]
  row : ∀ j, j < 5 → RRow w R (vs j) j
  fg : F g
  fo : ∀ j, j < 5 → ∀ k, (vs j).ownBlock = some k → F k ∧ k ≠ g
  ne : ∀ i j, i < 5 → j < 5 → i ≠ j → ∀ k, (vs i).ownBlock = some k → (vs j).ownBlock ≠ some k
  fb : ∀ k, F k → k < w.heap.size
/-- the document's disk in memory -/
structure IsR (w : World) (g : Nat) (F : Nat → Prop) (R : RS) : Prop where
  x : ∃ vs, RX w g F R vs
  ok : R.ok
  cap : R.cap
section
variable {w w' w1 : World} {g : Nat} {F G : Nat → Prop} {R R' : RS} {vs : Nat → Value}
theorem RX.keep (h : RX w g F R vs) (hf : Fr G w w') (hG : ∀ k, G k → ¬ F k) : RX w' g F R vs :=
  ⟨hf.blk h.blk (fun e => hG _ e h.fg), fun j hj => (h.row j hj).keep hf (fun k hk e => hG k e (h.fo j hj k hk).1), h.fg, h.fo, h.ne, fun k hk => Nat.lt_of_lt_of_le (h.fb k hk) hf.size⟩
theorem RX.low (h : RX w g F R vs) (hb : Below w.heap.size w w') : RX w' g F R vs := h.keep (G := fun _ => False) (Fr.of_below hb _) (fun _ h => h.elim)
theorem RX.keeps {Z : Nat → Prop} (h : RX w g F R vs) (hk : Keeps Z w w') (hs : ∀ k, F k → Z k) (hz : ∀ k, Z k → k < w'.heap.size) : RX w' g F R vs :=
  ⟨hk _ _ _ (hs _ h.fg) h.blk, fun j hj => (h.row j hj).keeps hk (fun k hk => hs _ (h.fo j hj k hk).1), h.fg, h.fo, h.ne, fun k hk => hz _ (hs _ hk)⟩
theorem RX.more (h : RX w g F R vs) (hF : ∀ k, F k → G k) (hG : ∀ k, G k → k < w.heap.size) : RX w g G R vs :=
  ⟨h.blk, h.row, hF _ h.fg, fun j hj k hk => ⟨hF _ (h.fo j hj k hk).1, (h.fo j hj k hk).2⟩, h.ne, hG⟩
theorem IsR.low (h : IsR w g F R) (hb : Below w.heap.size w w') : IsR w' g F R := ⟨h.x.elim fun vs h => ⟨vs, h.low hb⟩, h.ok, h.cap⟩
theorem set5 {a b c d e u : Value} : ∀ i, i < 5 → (#[a, b, c, d, e] : Array Value).setIfInBounds i u = #[if 0 = i then u else a, if 1 = i then u else b, if 2 = i then u else c, if 3 = i then u else d, if 4 = i then u else e]
  | 0, _ => rfl
  | 1, _ => rfl
  | 2, _ => rfl
  | 3, _ => rfl
  | 4, _ => rfl
  | n + 5, h => by omega
/-- a row is another one -/
theorem RX.upd (h : RX w g F R vs) (i : Nat) (hi : i < 5) {v' : Value} (hfr : Fr (fun k => (vs i).ownBlock = some k) w w1) (hrow : RRow w1 R' v' i) (hsame : ∀ j, j < 5 → j ≠ i → ∀ w v, RRow w R v j → RRow w R' v j)
    (hob : v'.ownBlock = (vs i).ownBlock ∨ v'.ownBlock = none ∨ ∃ K, v'.ownBlock = some K ∧ w.heap.size ≤ K) :
    RX (w1.setCell ⟨g, i, none⟩ v') g (Fup F w (w1.setCell ⟨g, i, none⟩ v')) R' (fun j => if j = i then v' else vs j) ∧ Fr F w (w1.setCell ⟨g, i, none⟩ v') := by
  have hgi : ¬ (vs i).ownBlock = some g := fun e => (h.fo i hi g e).2 rfl
  have hgl := h.blk.lt
  have hblk1 := hfr.blk h.blk hgi
  have hv'g : v'.ownBlock ≠ some g := by
    rcases hob with e | e | ⟨K, e, hK⟩
    · rw [e]; exact hgi
    · rw [e]; simp
    · rw [e]; intro e'; have := Option.some.inj e'; omega
  have hF1 : Fr (fun k => k = g) w1 (w1.setCell ⟨g, i, none⟩ v') := Fr.setCell w1 g i v' rfl
  have hFr : Fr F w (w1.setCell ⟨g, i, none⟩ v') := (hfr.mono (fun k hk _ => (h.fo i hi k hk).1)).trans (hF1.mono (fun k hk _ => by subst hk; exact h.fg))
  have hsz : (w1.setCell ⟨g, i, none⟩ v').heap.size = w1.heap.size := by simp
  have hother : ∀ j, j < 5 → j ≠ i → ∀ k, (vs j).ownBlock = some k → v'.ownBlock ≠ some k := by
    intro j hj hne k hk
    rcases hob with e | e | ⟨K, e, hK⟩
    · rw [e]; exact h.ne j i hj hi hne k hk
    · rw [e]; simp
    · rw [e]; intro e'; have := Option.some.inj e'; have := (h.row j hj).lt hk; omega
  refine ⟨⟨?_, fun j hj => ?_, .inl h.fg, fun j hj k hk => ?_, fun a b ha hb hne k hk => ?_, fun k hk => ?_⟩, hFr⟩
  · have := hblk1.set_ i v'
    rw [set5 i hi] at this
    exact this
  · by_cases hji : j = i
    · subst hji
      simp only [if_true]
      exact hrow.keep hF1 (fun k hk e => hv'g (by rw [hk, e]))
    · simp only [if_neg hji]
      exact (hsame j hj hji _ _ ((h.row j hj).keep hfr (fun k hk e => h.ne j i hj hi hji k hk e))).keep hF1 (fun k hk e => (h.fo j hj k hk).2 e)
  · by_cases hji : j = i
    · simp only [if_pos hji] at hk
      refine ⟨?_, fun e => hv'g (by rw [hk, e])⟩
      rcases hob with e | e | ⟨K, e, hK⟩
      · rw [e] at hk; exact .inl (h.fo i hi k hk).1
      · rw [e] at hk; cases hk
      · have := hrow.lt hk
        rw [e] at hk; obtain rfl := Option.some.inj hk
        exact .inr ⟨hK, by rw [hsz]; exact this⟩
    · simp only [if_neg hji] at hk
      exact ⟨.inl (h.fo j hj k hk).1, (h.fo j hj k hk).2⟩
  · by_cases hai : a = i
    · by_cases hbi : b = i
      · exact absurd (hai.trans hbi.symm) hne
      · simp only [if_pos hai] at hk; simp only [if_neg hbi]
        exact fun e => hother b hb hbi k e hk
    · by_cases hbi : b = i
      · simp only [if_neg hai] at hk; simp only [if_pos hbi]
        exact hother a ha hai k hk
      · simp only [if_neg hai] at hk; simp only [if_neg hbi]
        exact h.ne a b ha hb hne k hk
  · rcases hk with hk | ⟨_, hk⟩
    · exact Nat.lt_of_lt_of_le (h.fb k hk) hFr.size
    · exact hk
/-- a row is another one at the same place -/
theorem RX.same (h : RX w g F R vs) (i : Nat) (hi : i < 5) (hfr : Fr (fun k => (vs i).ownBlock = some k) w w1) (hrow : RRow w1 R' (vs i) i) (hsame : ∀ j, j < 5 → j ≠ i → ∀ w v, RRow w R v j → RRow w R' v j) :
    RX w1 g F R' vs ∧ Fr F w w1 := by
  refine ⟨⟨hfr.blk h.blk (fun e => (h.fo i hi g e).2 rfl), fun j hj => ?_, h.fg, h.fo, h.ne, fun k hk => Nat.lt_of_lt_of_le (h.fb k hk) hfr.size⟩, hfr.mono (fun k hk _ => (h.fo i hi k hk).1)⟩
  by_cases hji : j = i
  · subst hji; exact hrow
  · exact hsame j hj hji _ _ ((h.row j hj).keep hfr (fun k hk e => h.ne j i hj hi hji k hk e))
/-! ### what asks -/
/-- the place of a key -/
def fFind (ks : List Int) (k : Int) : Int := if k ∈ ks then (ks.idxOf k : Nat) else -1
set_option maxRecDepth 100000 in
set_option maxHeartbeats 400000 in
theorem rfind_any (h : IsR w g F R) (k : Int) : Calls Try.prog 54 #[.pointer (some ⟨g, 0, none⟩), .int .i64 k] w fun e w' => e = .returned (.int .i64 (fFind R.ks k)) ∧ w = w' := by
  have hcap := h.cap.ks
  obtain ⟨vs, h⟩ := h.x
  have c1 : w.cell? ⟨g, 1, none⟩ = some (vs 1) := by simpa using h.blk.cell 1
  obtain ⟨A, c, e1, _, hR⟩ := Reads.of_own (show w.ownsRow 0 3 1 (vs 1) R.ks.length (R.ks.map (Value.int .i64)) from h.row 1 (by omega))
  rw [e1] at c1
  clear h e1
  go_enter Try.func54, Try.ntmps54
  go_wp2_with fail
  go_loopw [5] (fun p wr => ∃ i : Nat, p = .int .i64 i ∧ i ≤ R.ks.length ∧ Hid (k ∉ R.ks.take i) ∧ w = wr) (fun p _ => R.ks.length - (intOf p).toNat)
  case atStart => exact ⟨0, rfl, by omega, Lib.hid (by simp), rfl⟩
  case round =>
    obtain ⟨i, rfl, hi, hpre, rfl⟩ := hrel
    by_cases hlt : i < R.ks.length
    · obtain ⟨ad, rfl, hb, hc⟩ := hR.2 (by omega)
      have hg := hc i _ (by rw [List.getElem?_map, List.getElem?_eq_getElem (by omega)]; rfl)
      have hs : R.ks.take (i + 1) = R.ks.take i ++ [R.ks[i]'(by omega)] := List.take_succ_eq_append_getElem (by omega)
      have hmem : R.ks[i]'(by omega) ∈ R.ks := List.getElem_mem _
      have hix : k = R.ks[i]'(by omega) → fFind R.ks k = i := by
        intro hk
        unfold fFind
        rw [if_pos (by rw [hk]; exact hmem)]
        have h1 : R.ks = R.ks.take i ++ k :: R.ks.drop (i + 1) := by
          conv => lhs; rw [← List.take_append_drop i R.ks, List.drop_eq_getElem_cons (by omega), ← hk]
        have h2 : List.idxOf k R.ks = i := by
          conv => lhs; rw [h1]
          rw [List.idxOf_append, if_neg hpre.out, List.length_take, List.idxOf_cons_self]; omega
        rw [h2]
      clear hc
      generalize R.ks[i]'(by omega) = y at *
      have HS := Lib.hid hs; clear hs hmem
      by_cases hk : k = y
      · have hc' : (y == k) = true := by rw [beq_iff_eq]; exact hk.symm
        have HM := Lib.hid (hix hk)
        clear hk hix
        go_wp2_with fail
        go_ret
        exact ⟨ret_int HM.out.symm, rfl⟩
      · have hc' : (y == k) = false := by rw [beq_eq_false_iff_ne]; exact fun e => hk e.symm
        have HK := Lib.hid hk; clear hk hix
        go_wp2_with fail
        go_roundw
        case rel => exact ⟨i + 1, vint (by omega), by omega, Lib.hid (by rw [HS.out, List.mem_append]; intro e; rcases e with e | e; exact hpre.out e; exact HK.out (by simpa using e)), by first | rfl | trivial⟩
        case measure => simp [intOf]; omega
    · obtain rfl : i = R.ks.length := by omega
      have hall : k ∉ R.ks := by have := hpre.out; rw [List.take_length] at this; exact this
      have HA := Lib.hid (show fFind R.ks k = -1 from if_neg hall); clear hall
      go_wp2_with fail
      go_ret
      exact ⟨ret_int HA.out.symm, rfl⟩
set_option maxRecDepth 100000 in
theorem rregistered_any (h : IsR w g F R) (k : Int) : Calls Try.prog 41 #[.pointer (some ⟨g, 0, none⟩), .int .i64 k] w fun e w' => e = .returned (.bool ((keyOf R.ks R.on k).getD false)) ∧ w = w' := by
  have hf := rfind_any h k
  have hon := h.ok.on
  obtain ⟨vs, h⟩ := h.x
  have c2 : w.cell? ⟨g, 2, none⟩ = some (vs 2) := by simpa using h.blk.cell 2
  obtain ⟨A, c, e1, _, hR⟩ := Reads.of_own (show w.ownsRow 0 4 1 (vs 2) R.on.length (R.on.map Value.bool) from h.row 2 (by omega))
  rw [e1] at c2
  clear h e1
  by_cases hk : k ∈ R.ks
  · have hi := List.idxOf_lt_length_iff.2 hk
    have e1 : fFind R.ks k = (R.ks.idxOf k : Nat) := if_pos hk
    have e2 : keyOf R.ks R.on k = some (R.on.getD (R.ks.idxOf k) false) := if_pos hk
    rw [e1] at hf
    rw [e2]
    obtain ⟨ad, rfl, hb, hc⟩ := hR.2 (by omega)
    have hgt : R.on[R.ks.idxOf k]? = some (R.on.getD (R.ks.idxOf k) false) := by rw [List.getD_eq_getElem?_getD, List.getElem?_eq_getElem (by omega)]; rfl
    have hg := hc (R.ks.idxOf k) _ (by rw [List.getElem?_map, hgt]; rfl)
    rw [show (some (R.on.getD (R.ks.idxOf k) false)).getD false = R.on.getD (R.ks.idxOf k) false from rfl]
    have hcap : (R.ks.idxOf k) < R.on.length := by omega
    clear e1 e2 hc hgt hi
    generalize R.on.getD (R.ks.idxOf k) false = b at *
    generalize R.ks.idxOf k = i at *
    go_enter Try.func41, Try.ntmps41
    go_wp2_with fail
    refine hf.mono ?_
    rintro e w' ⟨rfl, rfl⟩
    go_wp2_with fail
    go_ret
    exact ⟨rfl, rfl⟩
  · have e1 : fFind R.ks k = -1 := if_neg hk
    have e2 : keyOf R.ks R.on k = none := if_neg hk
    rw [e1] at hf
    rw [e2]
    clear hR
    go_enter Try.func41, Try.ntmps41
    go_wp2_with fail
    refine hf.mono ?_
    rintro e w' ⟨rfl, rfl⟩
    go_wp2_with fail
    go_ret
    exact ⟨rfl, rfl⟩
set_option maxRecDepth 100000 in
theorem rmay_any (h : IsR w g F R) (k s : Int) : Calls Try.prog 55 #[.pointer (some ⟨g, 0, none⟩), .int .i64 k, .int .i64 s] w fun e w' => e = .returned (.int .i64 (fMay R.ds k s false)) ∧ w = w' := by
  have hf := rregistered_any h k
  obtain ⟨vs, h⟩ := h.x
  have c0 : w.cell? ⟨g, 0, none⟩ = some (vs 0) := by simpa using h.blk.cell 0
  obtain ⟨A, c, e1, _, _⟩ := Reads.of_own (show w.ownsRow 0 9 1 (vs 0) R.L.length (R.L.map Value.string) from h.row 0 (by omega))
  rw [e1] at c0
  clear h e1
  unfold fMay RS.ds
  dsimp only
  generalize (keyOf R.ks R.on k).getD false = b at *
  by_cases h1 : s < 0
  · rw [if_pos (.inl h1)]
    go_enter Try.func55, Try.ntmps55
    go_wp2_with fail
    go_ret
    exact ⟨rfl, rfl⟩
  · by_cases h2 : (R.L.length : Int) ≤ s
    · rw [if_pos (.inr (.inl h2))]
      go_enter Try.func55, Try.ntmps55
      go_wp2_with fail
      go_ret
      exact ⟨rfl, rfl⟩
    · rw [if_neg (by simp; omega)]
      cases b with
      | true =>
        rw [if_pos rfl]
        go_enter Try.func55, Try.ntmps55
        go_wp2_with fail
        refine hf.mono ?_
        rintro e w' ⟨rfl, rfl⟩
        go_wp2_with fail
        go_ret
        exact ⟨rfl, rfl⟩
      | false =>
        rw [if_neg (by simp)]
        go_enter Try.func55, Try.ntmps55
        go_wp2_with fail
        refine hf.mono ?_
        rintro e w' ⟨rfl, rfl⟩
        go_wp2_with fail
        go_ret
        exact ⟨rfl, rfl⟩
end
end Go.Proofs.Ytekgoliakgknjaa
