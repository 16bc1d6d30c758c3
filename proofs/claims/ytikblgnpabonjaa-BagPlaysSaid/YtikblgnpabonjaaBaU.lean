import Derived.Test.YtikblgnpabonjaaBaT
namespace Go.Proofs.Ytikblgnpabonjaa
open Go.RowKit
set_option linter.unusedVariables false
attribute [local go_sem] b_max2 b_min2 b_max b_min

set_option maxRecDepth 100000 in
set_option maxHeartbeats 2000000 in
theorem rwithout_any {w : World} {g : Nat} {F : Nat → Prop} {l : List Pc} (h : RNet w g F l) (i : Nat) (hi : i < l.length) :
    Calls Try.prog 33 #[.pointer (some ⟨g, 0, none⟩), .int .i64 i] w fun e w' => e = .returned (.tuple #[]) ∧ RNet w' g (Fup F w w') (l.eraseIdx i) ∧ Fr F w w' := by
  obtain ⟨i0, hi0, hz0, hz1, hz2⟩ := info_parts pc_info
  obtain ⟨A, c, h⟩ := h
  have hcap := h.cap
  obtain ⟨A', c', hAA, hlc, hR⟩ := Reads.of_own h.own
  obtain ⟨rfl, rfl⟩ : A = A' ∧ c = c' := by simpa using hAA
  obtain ⟨hRt, ad, rfl, hRd⟩ := once_parts hR hi
  have hb := h.blk
  have hgl := hb.lt
  have hgne : (Value.slice (some ad) l.length c).ownBlock ≠ some g := own_blk_ne h.own hb (by decide)
  have hg : w.cell? ⟨g, 0, none⟩ = some (.slice (some ad) l.length c) := hb.cell 0
  have hE1 : cellsQ (l.eraseIdx i) = cellsQ (l.take i) ++ cellsQ (l.drop (i + 1)) := by rw [List.eraseIdx_eq_take_drop_succ]; simp [cellsQ]
  have hE2 : (l.eraseIdx i).length = i + (l.length - (i + 1)) := by rw [List.length_eraseIdx, if_pos hi]; omega
  have HE1 := Lib.hid hE1; have HE2 := Lib.hid hE2; have H := Lib.hid h; clear hE1 hE2 h hR hAA
  go_enter Try.func33, Try.ntmps33
  go_wp2_with (at_builtin; refine wpList_append_any _ rfl (.tmp 5) (.tmp 11) 27 rfl 0 32 i0 _ 3 32 Try.underlying27 hi0 hz0 hz1 hz2 rfl (by decide) (.slice none 0 0) 0 [] rfl (World.ownsRow_nil _ _ _ _) w.heap.size (some ad) i _ (cellsQ (l.take i)) rfl hRt (one_cellsQ _) (by simp only [maxLen]; omega) (by omega) (Nat.zero_le _) ?_)
  intro v7 w7 hown7 hgrow7 hob7
  have hb7 := hb.grown hgrow7 (by simp [Value.ownBlock])
  have hg7 : w7.cell? ⟨g, 0, none⟩ = some (.slice (some ad) l.length c) := hb7.cell 0
  have hRd7 := hRd w7 hgrow7
  have hs7 := hgrow7.size
  replace hown7 : w7.ownsRow 0 32 3 v7 i (cellsQ (l.take i)) := by simpa using hown7
  have hbel : Below w.heap.size w w7 := (Below.refl _ w).grown hgrow7 (Nat.le_refl _) (by simp [Value.ownBlock])
  have hv7 : ∀ k, v7.ownBlock = some k → w.heap.size ≤ k := by
    intro k hk
    rcases hob7 with e | e
    · rw [e] at hk; cases hk
    · rw [e] at hk; obtain rfl := Option.some.inj hk; exact Nat.le_refl _
  clear hgrow7 hRd hRt
  obtain ⟨A7, c7, rfl, _, _⟩ := Reads.of_own hown7
  have hv7g : some g ≠ (Value.slice A7 i c7).ownBlock := fun e => by have := hv7 g e.symm; omega
  have HOB := Lib.hid hob7; clear hob7
  by_cases hcap2 : c = i + 1
  · have hlen1 : i + 1 = l.length := by omega
    have HLEN := Lib.hid hlen1; clear hlen1
    have hRx := hRd7 (some ad) (.inl rfl) (fun _ => HLEN.out)
    go_wp2_with (at_builtin; refine wpList_append_any _ rfl (.tmp 14) (.tmp 21) 27 rfl 0 32 i0 _ 3 32 Try.underlying27 hi0 hz0 hz1 hz2 rfl (by decide) _ _ _ rfl hown7 w.heap.size (some ad) (l.length - (i + 1)) _ (cellsQ (l.drop (i + 1))) rfl hRx (one_cellsQ _) (by simp only [maxLen]; omega) (by omega) (Nat.zero_le _) ?_)
    intro v8 w8 hown8 hgrow8 hob8
    have hbel8 : Below w.heap.size w w8 := hbel.grown hgrow8 (by omega) (by intro k hk; exact hv7 k hk)
    have hb8 := hb7.grown hgrow8 hv7g
    have hg8 : w8.cell? ⟨g, 0, none⟩ = some (.slice (some ad) l.length c) := hb8.cell 0
    have hf8 := hb8.frozen 0
    have hu := H.out.upd (l' := l.eraseIdx i) (Fr.of_below hbel8 _) (by rw [HE1.out, HE2.out]; exact hown8) (by
      rcases hob8 with e | e
      · rcases HOB.out with e' | e'
        · exact .inr (.inl (e.trans e'))
        · exact .inr (.inr ⟨_, e.trans e', Nat.le_refl _⟩)
      · exact .inr (.inr ⟨_, e, by omega⟩)) (by rw [HE2.out]; omega)
    have HU := Lib.hid hu; clear hu
    obtain ⟨A8, c8, rfl, _, _⟩ := Reads.of_own hown8
    clear hown8 hgrow8 hob8 hRx hRd7 hown7
    go_wp2_with fail
    go_end0
    exact ⟨rfl, HU.out.1, HU.out.2⟩
  · have hcap3 : ¬ i + 1 = c := fun e => hcap2 e.symm
    have hRx := hRd7 (some (ad.add ((i + 1) * 3))) (.inr rfl) (fun e => by exfalso; have := congrArg (fun x => x.map Addr.off) e; simp [Addr.add] at this)
    go_wp2_with (at_builtin; refine wpList_append_any _ rfl (.tmp 14) (.tmp 21) 27 rfl 0 32 i0 _ 3 32 Try.underlying27 hi0 hz0 hz1 hz2 rfl (by decide) _ _ _ rfl hown7 w.heap.size (some (ad.add ((i + 1) * 3))) (l.length - (i + 1)) _ (cellsQ (l.drop (i + 1))) rfl hRx (one_cellsQ _) (by simp only [maxLen]; omega) (by omega) (Nat.zero_le _) ?_)
    intro v8 w8 hown8 hgrow8 hob8
    have hbel8 : Below w.heap.size w w8 := hbel.grown hgrow8 (by omega) (by intro k hk; exact hv7 k hk)
    have hb8 := hb7.grown hgrow8 hv7g
    have hg8 : w8.cell? ⟨g, 0, none⟩ = some (.slice (some ad) l.length c) := hb8.cell 0
    have hf8 := hb8.frozen 0
    have hu := H.out.upd (l' := l.eraseIdx i) (Fr.of_below hbel8 _) (by rw [HE1.out, HE2.out]; exact hown8) (by
      rcases hob8 with e | e
      · rcases HOB.out with e' | e'
        · exact .inr (.inl (e.trans e'))
        · exact .inr (.inr ⟨_, e.trans e', Nat.le_refl _⟩)
      · exact .inr (.inr ⟨_, e, by omega⟩)) (by rw [HE2.out]; omega)
    have HU := Lib.hid hu; clear hu
    obtain ⟨A8, c8, rfl, _, _⟩ := Reads.of_own hown8
    clear hown8 hgrow8 hob8 hRx hRd7 hown7
    go_wp2_with fail
    go_end0
    exact ⟨rfl, HU.out.1, HU.out.2⟩

/-- the place of a link's q-th one -/
def isAt (l : List Pc) (f t x : Int) (I : Nat) : Prop := ∃ hI : I < l.length, isP f t l[I] = true ∧ ((l.take I).filter (isP f t)).length = place x (l.filter (isP f t)).length
set_option maxRecDepth 100000 in
set_option maxHeartbeats 1000000 in
theorem rtake_none {w : World} {g : Nat} {F : Nat → Prop} {l : List Pc} (h : RNet w g F l) (f t x : Int) (h0 : (l.filter (isP f t)).length = 0) :
    Calls Try.prog 21 #[.pointer (some ⟨g, 0, none⟩), .int .i64 f, .int .i64 t, .int .i64 x] w fun e w' => e = .returned (.tuple #[.string ⟨#[]⟩, .bool false]) ∧ w = w' := by
  have c := rplace_none h f t x h0
  clear h
  go_enter Try.func21, Try.ntmps21
  go_wp2_with fail
  refine c.mono ?_
  rintro e w1 ⟨rfl, rfl⟩
  go_wp2_with fail
  go_ret2
  exact ⟨rfl, rfl⟩
set_option maxRecDepth 100000 in
set_option maxHeartbeats 1000000 in
theorem rtake_some {w : World} {g : Nat} {F : Nat → Prop} {l : List Pc} (h : RNet w g F l) (f t x : Int) (x0 : -9223372036854775808 ≤ x) (x1 : x ≤ 9223372036854775807) (hpos : 0 < (l.filter (isP f t)).length) :
    Calls Try.prog 21 #[.pointer (some ⟨g, 0, none⟩), .int .i64 f, .int .i64 t, .int .i64 x] w fun e w' => ∃ I, isAt l f t x I ∧ e = .returned (.tuple #[.string (l.getD I (0, 0, ⟨#[]⟩)).2.2, .bool true]) ∧ RNet w' g (Fup F w w') (l.eraseIdx I) ∧ Fr F w w' := by
  have c := rplace_some h f t x x0 x1 _ rfl hpos
  have cw := fun I hI => rwithout_any h I hI
  obtain ⟨A, c', h⟩ := h
  have hg : w.cell? ⟨g, 0, none⟩ = some (.slice A l.length c') := h.blk.cell 0
  obtain ⟨A', c'', hAA, _, hR⟩ := Reads.of_own h.own
  obtain ⟨rfl, rfl⟩ : A = A' ∧ c' = c'' := by simpa using hAA
  have hcap := h.cap
  clear h hAA hpos
  go_enter Try.func21, Try.ntmps21
  go_wp2_with fail
  refine c.mono ?_
  rintro e w1 ⟨I, ⟨rfl, rfl⟩, hI, hp, hc⟩
  obtain ⟨ad, rfl, _, _, _, k2⟩ := pcs_at hR hI
  have cI := cw I hI
  have hat : isAt l f t x I := ⟨hI, hp, hc⟩
  have hgd : (l.getD I (0, 0, ⟨#[]⟩)).2.2 = l[I].2.2 := by rw [List.getD_eq_getElem?_getD, List.getElem?_eq_getElem hI]; rfl
  have hd : decide ((I : Int) < 0) = false := by rw [decide_eq_false_iff_not]; omega
  have HG := Lib.hid hgd; have HA := Lib.hid hat; clear hgd hat hp hc c cw
  generalize l[I].2.2 = s at *
  go_wp2_with fail
  refine cI.mono ?_
  rintro e w2 ⟨rfl, n2, f2⟩
  go_wp2_with fail
  go_ret2
  exact ⟨I, HA.out, by rw [HG.out]; rfl, n2, f2⟩

set_option maxRecDepth 100000 in
set_option maxHeartbeats 1000000 in
theorem rvoid_any {w : World} {g : Nat} {F : Nat → Prop} {l : List Pc} (h : RNet w g F l) (x : Int) :
    Calls Try.prog 25 #[.pointer (some ⟨g, 0, none⟩), .int .i64 x] w fun e w' => e = .returned (.int .i64 ((l.length - (l.filter fun p => decide (((p.1 : Nat) : Int) ≠ x) && decide (((p.2.1 : Nat) : Int) ≠ x)).length : Nat))) ∧ RNet w' g (Fup F w w') (l.filter fun p => decide (((p.1 : Nat) : Int) ≠ x) && decide (((p.2.1 : Nat) : Int) ≠ x)) ∧ Fr F w w' := by
  obtain ⟨i0, hi0, hz0, hz1, hz2⟩ := info_parts pc_info
  obtain ⟨A, c, h⟩ := h
  have hcap := h.cap
  have hg : w.cell? ⟨g, 0, none⟩ = some (.slice A l.length c) := h.blk.cell 0
  obtain ⟨A', c', hAA, hlc, hR⟩ := Reads.of_own h.own
  obtain ⟨rfl, rfl⟩ : A = A' ∧ c = c' := by simpa using hAA
  have hb0 := h.blk
  have hgl := hb0.lt
  have H := Lib.hid h; clear h hAA
  generalize hq : (fun p : Pc => decide (((p.1 : Nat) : Int) ≠ x) && decide (((p.2.1 : Nat) : Int) ≠ x)) = Q at *
  have hQ : ∀ p : Pc, Q p = (decide (((p.1 : Nat) : Int) ≠ x) && decide (((p.2.1 : Nat) : Int) ≠ x)) := fun p => by rw [← hq]
  have HQ := Lib.hid hQ; clear hq hQ
  go_enter Try.func25, Try.ntmps25
  go_wp2_with fail
  go_loopw [5, 6] (fun v p wr => ∃ i : Nat, p = .int .i64 i ∧ i ≤ l.length ∧ wr.ownsRow w.heap.size 32 3 v ((l.take i).filter Q).length (cellsQ ((l.take i).filter Q)) ∧ Below w.heap.size w wr) (fun _ p _ => l.length - (intOf p).toNat)
  case atStart => exact ⟨0, rfl, by omega, World.ownsRow_nil _ _ _ _, Below.refl _ _⟩
  case round =>
    obtain ⟨i, rfl, hi, ho, hb⟩ := hrel
    have hgr : wr.cell? ⟨g, 0, none⟩ = some (.slice A l.length c) := (hb0.below hb hgl).cell 0
    have hBs := hb.size
    have hle : ((l.take i).filter Q).length ≤ 20000 := by
      have := List.length_filter_le Q (l.take i)
      rw [List.length_take] at this; omega
    by_cases hlt : i < l.length
    · obtain ⟨ad, rfl, _, k0, k1, k2⟩ := pcs_at (hR.below hb) hlt
      have hs := filter_take_succ Q l hlt
      generalize l[i] = p at *
      have hQp := HQ.out p
      generalize hX : (l.take i).filter Q = X at *
      have HX := Lib.hid hX; clear hX
      have HS := Lib.hid hs; clear hs
      by_cases h1 : ((p.1 : Nat) : Int) = x
      · have h3 : Q p = false := by rw [hQp]; simp [h1]
        have H3 := Lib.hid h3; clear h3 hQp
        have n1 : (((p.1 : Nat) : Int) != x) = false := by simp [h1]
        clear h1
        go_wp2_with fail
        go_roundw
        case rel => exact ⟨i + 1, vint (by omega), by omega, by rw [HS.out, H3.out, if_neg (by simp), List.append_nil]; exact ho, hb⟩
        case measure => simp [intOf]; omega
      · by_cases h2 : ((p.2.1 : Nat) : Int) = x
        · have h3 : Q p = false := by rw [hQp]; simp [h2]
          have H3 := Lib.hid h3; clear h3 hQp
          have n1 : (((p.1 : Nat) : Int) != x) = true := by simpa using h1
          have n2 : (((p.2.1 : Nat) : Int) != x) = false := by simp [h2]
          clear h1 h2
          go_wp2_with fail
          go_roundw
          case rel => exact ⟨i + 1, vint (by omega), by omega, by rw [HS.out, H3.out, if_neg (by simp), List.append_nil]; exact ho, hb⟩
          case measure => simp [intOf]; omega
        · have h3 : Q p = true := by rw [hQp]; simp [h1, h2]
          have H3 := Lib.hid h3; clear h3 hQp
          have n1 : (((p.1 : Nat) : Int) != x) = true := by simpa using h1
          have n2 : (((p.2.1 : Nat) : Int) != x) = true := by simpa using h2
          clear h1 h2
          go_wp2_with (at_builtin; refine wpList_append_any _ rfl (.tmp 39) (.tmp 47) 27 rfl w.heap.size 32 i0 _ 3 32 Try.underlying27 hi0 hz0 hz1 hz2 rfl (by decide) _ _ _ rfl (ho.alloc _) (wr.heap.size + 1) (some ⟨wr.heap.size, 0, none⟩) 1 1 (pcv p) rfl (Reads.new wr #[.int .i64 (p.1 : Nat), .int .i64 (p.2.1 : Nat), .string p.2.2] 32 1 rfl rfl) (by simp [pcv, Value.oneCell']) (by simp only [maxLen]; omega) (by omega) (by simp only [sz_alloc]; omega) ?_)
          intro v' w5 hown' hgrow hown''
          have hb5 : Below w.heap.size w w5 := (Fr.of_grown hgrow).below (hb.alloc (by omega) _) (fun k hk => (World.ownsRow.lt ho k hk).1)
          go_wp2_with fail
          go_roundw
          case rel => exact ⟨i + 1, vint (by omega), by omega, by rw [HS.out, H3.out, if_pos rfl, cellsQ_snoc, List.length_append]; exact hown', hb5⟩
          case measure => simp [intOf]; omega
    · obtain rfl : i = l.length := by omega
      rw [List.take_length] at ho hle
      have hll := List.length_filter_le Q l
      generalize hXX : l.filter Q = X at *
      have HXX := Lib.hid hXX; clear hXX
      have hbr := hb0.below hb hgl
      have hfr := hbr.frozen 0
      have hu := H.out.upd (l' := X) (Fr.of_below hb _) (own_mono ho) (by
        rcases hv : u5.ownBlock with _ | k
        · exact .inr (.inl rfl)
        · exact .inr (.inr ⟨k, rfl, (World.ownsRow.lt ho k hv).1⟩)) (by omega)
      have hsub : ((l.length : Int) - (X.length : Int)) = ((l.length - X.length : Nat) : Int) := by omega
      have HU := Lib.hid hu; clear hu
      obtain ⟨A8, c8, rfl, _, _⟩ := Reads.of_own ho
      clear ho
      go_wp2_with fail
      go_ret
      exact ⟨by rw [HXX.out]; rfl, by rw [HXX.out]; exact HU.out.1, HU.out.2⟩
end Go.Proofs.Ytikblgnpabonjaa
