import Derived.Test.YtglglbbjacgbdaaDoorTsN
namespace Go.Proofs.YtglglbbjacgbdaaDoor
open Go.RowKit
set_option linter.unusedVariables false
set_option linter.unusedSimpArgs false
attribute [local go_sem] b_max2 b_min2 b_max b_min

/-! ### the chapter's examples, in plain words -/
def aN : ByteArray := ⟨#[97]⟩
def bN : ByteArray := ⟨#[98]⟩
def dN : ByteArray := ⟨#[100]⟩
def eN : ByteArray := ⟨#[101]⟩
def xyB : ByteArray := ⟨#[120, 121]⟩
def call1 : CallV := ⟨1, ⟨#[47, 97]⟩, ⟨#[]⟩, 0, 0, ⟨#[]⟩⟩
def call2 : CallV := ⟨7, ⟨#[47, 97]⟩, ⟨#[]⟩, 0, 0, ⟨#[120, 121]⟩⟩
def call3 : CallV := ⟨12, ⟨#[]⟩, ⟨#[]⟩, 0, 0, ⟨#[]⟩⟩
def call4 : CallV := ⟨3, ⟨#[47, 97]⟩, ⟨#[47, 98]⟩, 0, 0, ⟨#[]⟩⟩
def call5 : CallV := ⟨10, ⟨#[47, 98]⟩, ⟨#[]⟩, 0, 0, ⟨#[]⟩⟩
def call6 : CallV := ⟨2, ⟨#[47, 100]⟩, ⟨#[]⟩, 0, 0, ⟨#[]⟩⟩
def call7 : CallV := ⟨5, ⟨#[47, 100]⟩, ⟨#[47, 100, 47, 101]⟩, 0, 0, ⟨#[]⟩⟩
def C0 : TS := newS 9 0
def C1 : TS := (C0.upd (1, 0) ⟨1, 1, ⟨#[]⟩, []⟩).upd (0, 5) ⟨0, 0, ⟨#[]⟩, [(aN, 1)]⟩
def C2 : TS := C1.upd (1, 0) ⟨1, 1, xyB, []⟩
def C3 : TS := (C2.upd (1, 0) ⟨1, 2, xyB, []⟩).upd (0, 9) ⟨0, 0, ⟨#[]⟩, [(bN, 1)]⟩
def C4 : TS := (C3.upd (2, 0) ⟨2, 1, ⟨#[]⟩, []⟩).upd (0, 1) ⟨0, 0, ⟨#[]⟩, [(dN, 2)]⟩
theorem ex1 : makesT C0 0 10 1 [aN] 1 = (C1, 0) := by kernel_rfl
theorem ex2 : bytesT C1 0 10 [aN] call2 = (C2, failR 0) := by kernel_rfl
theorem ex3 : freeT C2 0 10 = 6 := by kernel_rfl
theorem ex4 : linkT C2 0 10 [aN] [bN] = (C3, 0) := by kernel_rfl
theorem ex5 : walkT C3 0 none [bN] = (some 1, 0) := by kernel_rfl
theorem ex5r : C3.nd (1, 0) = some ⟨1, 2, xyB, []⟩ := by kernel_rfl
theorem ex6 : makesT C3 0 10 2 [dN] 2 = (C4, 0) := by kernel_rfl
theorem ex7 : walkT C4 0 none [dN] = (some 2, 0) := by kernel_rfl
theorem ex7r : C4.nd (2, 0) = some ⟨2, 1, ⟨#[]⟩, []⟩ := by kernel_rfl
theorem ex7l : lastT C4 0 [dN, eN] = (some (2, 0), eN, 0) := by kernel_rfl
theorem inv0 : Inv C0 0 ∧ InvL C0 0 := ⟨new_inv 9, new_invL 9⟩
theorem inv1 : Inv C1 1 ∧ InvL C1 1 := by
  have h := makes_inv (D := 10) (op := 1) (l := [aN]) inv0.1 (by omega) (.inl rfl) (by simp) (by intro s hs; rw [List.mem_singleton.1 hs]; decide)
  have h2 := makes_invL (D := 10) (op := 1) (l := [aN]) inv0.1 inv0.2 (by omega) (.inl rfl)
  rw [ex1] at h h2
  exact ⟨h, h2⟩
theorem inv2 : Inv C2 1 ∧ InvL C2 1 := by
  have h := bytes_inv (D := 10) (l := [aN]) (c := call2) inv1.1 inv1.2 (fun _ => by show (0 : Int) ≤ 0 ∧ (0 : Int) + ((2 : Nat) : Int) ≤ 6144; omega) (fun h => absurd rfl h)
  rw [ex2] at h
  exact h
theorem inv3 : Inv C3 1 ∧ InvL C3 1 := by
  have h := link_inv (D := 10) (l := [aN]) (l2 := [bN]) inv2.1 (by simp) (by simp) (by intro s hs; rw [List.mem_singleton.1 hs]; decide)
  have h2 := link_invL (D := 10) (l := [aN]) (l2 := [bN]) inv2.1 inv2.2 (by simp)
  rw [ex4] at h h2
  exact ⟨h, h2⟩
theorem inv4 : Inv C4 2 ∧ InvL C4 2 := by
  have h := makes_inv (D := 10) (op := 2) (l := [dN]) inv3.1 (by omega) (.inr rfl) (by simp) (by intro s hs; rw [List.mem_singleton.1 hs]; decide)
  have h2 := makes_invL (D := 10) (op := 2) (l := [dN]) inv3.1 inv3.2 (by omega) (.inr rfl)
  rw [ex6] at h h2
  exact ⟨h, h2⟩
theorem sp1 : fSplit ⟨#[47, 97]⟩ = some [aN] := by kernel_rfl
theorem sp2 : fSplit ⟨#[47, 98]⟩ = some [bN] := by kernel_rfl
theorem sp3 : fSplit ⟨#[47, 100]⟩ = some [dN] := by kernel_rfl
theorem sp4 : fSplit ⟨#[47, 100, 47, 101]⟩ = some [dN, eN] := by kernel_rfl
theorem sp0 : fSplit ⟨#[]⟩ = none := by kernel_rfl
theorem rd1 (mx : Int) : Reads0 call1 mx [aN] [] := reads_one call1 mx _ _ (by rw [show call1.path = ⟨#[47, 97]⟩ from rfl, sp1]; rfl) (by rw [show call1.dest = ⟨#[]⟩ from rfl, sp0]; rfl) fun W hm => read_a_okNE1 call1 mx hm rfl rfl rfl rfl rfl rfl rfl rfl rfl rfl _ sp1 (by simp)
theorem rd2 (mx : Int) : Reads0 call2 mx [aN] [] := reads_one call2 mx _ _ (by rw [show call2.path = ⟨#[47, 97]⟩ from rfl, sp1]; rfl) (by rw [show call2.dest = ⟨#[]⟩ from rfl, sp0]; rfl) fun W hm => read_w_ok call2 mx hm rfl rfl rfl rfl rfl rfl rfl rfl rfl rfl rfl rfl rfl (by show IntKind.i64.wrap ((0 : Int) + ((2 : Nat) : Int)) = (0 : Int) + ((2 : Nat) : Int); rw [IntKind.wrap_i64]; omega) _ sp1
theorem rd4 (mx : Int) : Reads0 call4 mx [aN] [bN] := reads_one call4 mx _ _ (by rw [show call4.path = ⟨#[47, 97]⟩ from rfl, sp1]; rfl) (by rw [show call4.dest = ⟨#[47, 98]⟩ from rfl, sp2]; rfl) fun W hm => read_b5_3NE1 call4 mx hm rfl rfl rfl rfl rfl rfl rfl rfl rfl _ _ sp1 sp2 (by simp) (by simp)
theorem rd5 (mx : Int) : Reads0 call5 mx [bN] [] := reads_one call5 mx _ _ (by rw [show call5.path = ⟨#[47, 98]⟩ from rfl, sp2]; rfl) (by rw [show call5.dest = ⟨#[]⟩ from rfl, sp0]; rfl) fun W hm => read_c_ok call5 mx hm rfl rfl rfl rfl rfl rfl rfl rfl rfl rfl _ sp2
theorem rd6 (mx : Int) : Reads0 call6 mx [dN] [] := reads_one call6 mx _ _ (by rw [show call6.path = ⟨#[47, 100]⟩ from rfl, sp3]; rfl) (by rw [show call6.dest = ⟨#[]⟩ from rfl, sp0]; rfl) fun W hm => read_a_okNE1 call6 mx hm rfl rfl rfl rfl rfl rfl rfl rfl rfl rfl _ sp3 (by simp)
theorem rd7 (mx : Int) : Reads0 call7 mx [dN] [dN, eN] := reads_one call7 mx _ _ (by rw [show call7.path = ⟨#[47, 100]⟩ from rfl, sp3]; rfl) (by rw [show call7.dest = ⟨#[47, 100, 47, 101]⟩ from rfl, sp4]; rfl) fun W hm => read_b5_5NE1 call7 mx hm rfl rfl rfl rfl rfl rfl rfl rfl rfl rfl _ _ sp3 sp4 (by simp) (by simp)
theorem small1 (x : ByteArray) (hx : x.size ≤ 100) : ∀ s ∈ [x], s.size ≤ 100 := by intro s hs; rw [List.mem_singleton.1 hs]; exact hx
/-- a reply that is kept -/
theorem rep_same {w : World} {b : Nat} {cs : Array Value} (h : Blk w b 29 cs) : ∀ j u, cs[j]? = some u → w.setCell ⟨b, j, none⟩ u = w := fun j u hu => blk_same h (by
  apply Array.ext_getElem?
  intro i
  rw [Array.getElem?_setIfInBounds]
  split
  · rename_i e
    subst e
    split
    · exact hu.symm
    · rename_i hn
      rw [Array.getElem?_eq_none (by omega)] at hu; cases hu
  · rfl)
theorem Fr.low_of {w w' : World} {base : Nat} {R : List Nat} {w0 : World} (h : Fr (fun k => base ≤ k ∧ k ∉ R) w w') (hb : Below w0.heap.size w0 w) (he : base = w0.heap.size) : Below w0.heap.size w0 w' := h.below hb (fun k hk => by omega)
section
variable {w : World} {base g : Nat} {R : List Nat}
theorem statfs_6 (h : TA w base g C2 R) (hR : ∀ b ∈ R, b < w.heap.size) (hb : base ≤ w.heap.size) (mx : Int) (hmx : w.cell? ⟨0, 0, none⟩ = some (.int .i64 mx)) :
    Calls Tryd.prog 7 #[.pointer (some ⟨g, 0, none⟩), callV call3] w fun e w' => e = .returned (repV ⟨0, ⟨#[]⟩, 0, 0, 0, 6⟩ (.slice none 0 0)) ∧ Below w.heap.size w w' := by
  have h1 := statfs_TA h hR hb inv2.1 (D := 10) (by omega) (by omega) call3 mx hmx rfl
  rwa [ex3] at h1
theorem stat_5 (h : TA w base g C3 R) (hR : ∀ b ∈ R, b < w.heap.size) (hb : base ≤ w.heap.size) (mx : Int) (hmx : w.cell? ⟨0, 0, none⟩ = some (.int .i64 mx)) :
    Calls Tryd.prog 7 #[.pointer (some ⟨g, 0, none⟩), callV call5] w fun e w' => ∃ A2 m k, e = .returned (repV ⟨0, ⟨#[]⟩, 1, 2, 2, 0⟩ (.slice A2 m k)) ∧ TA w' base g C3 R ∧ Fr (fun k => base ≤ k ∧ k ∉ R) w w' :=
  stat_TA h hR hb inv3.1 call5 mx hmx [bN] [] (rd5 mx) (by simp) (by intro s hs; have := small1 bN (by decide) s hs; omega) rfl 1 _ ex5 ex5r
set_option maxRecDepth 100000 in
set_option maxHeartbeats 8000000 in
theorem awake_any (mx : Int) (hmx : w.cell? ⟨0, 0, none⟩ = some (.int .i64 mx)) : Calls Tryd.prog 5 #[] w fun e w' => e = .returned (.bool true) ∧ Below w.heap.size w w' := by
  have HMX := Lib.hid hmx
  have h0lt : 0 < w.heap.size := World.block_lt_of_cell? _ _ hmx
  clear hmx
  go_enter Tryd.func5, Tryd.ntmps5
  go_wp2_with fail
  refine (new_TA 9 w w.heap.size [] (Nat.le_refl _) (by simp)).mono ?_
  rintro e w1 ⟨rfl, b1, ta⟩
  have TA1 : Hid (TA w1 w.heap.size w.heap.size C0 []) := Lib.hid ta
  have BL1 := Lib.hid b1
  have hs1 : w.heap.size < w1.heap.size := ta.lt
  clear b1 ta
  have hb1 : w.heap.size ≤ w1.heap.size := BL1.out.size
  have HR1 : Hid (∀ b ∈ [], b < w1.heap.size) := Lib.hid (by
    intro b hb
    simp only [List.mem_cons, List.not_mem_nil, or_false] at hb
    skip)
  have hm1 : w1.cell? ⟨0, 0, none⟩ = some (.int .i64 mx) := (BL1.out.cell (p := ⟨0, 0, none⟩) h0lt).trans HMX.out
  have hst1 := makes_TA TA1.out HR1.out hb1 inv0.1 (D := 10) (by omega) (by omega) call1 mx hm1 [aN] [] (rd1 mx) (by simp) (by simp) (small1 aN (by decide)) (.inl rfl) 0 ex1
  unfold failR repV at hst1
  unfold call1 callV at hst1
  dsimp only at hst1
  clear hm1
  go_wp2_with fail
  refine hst1.mono ?_
  rintro e w2 ⟨A1, m1, k1, rfl, ta, fr⟩
  have TB2 := Lib.hid ta
  have FR2 := Lib.hid fr
  have BB2 := Lib.hid (Fr.low_of fr BL1.out rfl)
  have hsz2 := fr.size
  clear hst1 ta fr
  obtain ⟨w3, hw3, bx, qx⟩ := open1 w2 #[.int .i64 0, .string ⟨#[]⟩, .slice A1 m1 k1, .int .i64 0, .int .i64 0, .int .i64 0, .int .i64 0] 29
  have hy0 : w3.setCell ⟨w2.heap.size, 0, none⟩ (.int .i64 0) = w3 := rep_same qx 0 _ rfl
  have hy1 : w3.setCell ⟨w2.heap.size, 1, none⟩ (.string ⟨#[]⟩) = w3 := rep_same qx 1 _ rfl
  have hy2 : w3.setCell ⟨w2.heap.size, 2, none⟩ (.slice A1 m1 k1) = w3 := rep_same qx 2 _ rfl
  have hy3 : w3.setCell ⟨w2.heap.size, 3, none⟩ (.int .i64 0) = w3 := rep_same qx 3 _ rfl
  have hy4 : w3.setCell ⟨w2.heap.size, 4, none⟩ (.int .i64 0) = w3 := rep_same qx 4 _ rfl
  have hy5 : w3.setCell ⟨w2.heap.size, 5, none⟩ (.int .i64 0) = w3 := rep_same qx 5 _ rfl
  have hy6 : w3.setCell ⟨w2.heap.size, 6, none⟩ (.int .i64 0) = w3 := rep_same qx 6 _ rfl
  have hz0 := qx.cell 0; have hz1 := qx.cell 1; have hz2 := qx.cell 2; have hz3 := qx.cell 3; have hz4 := qx.cell 4; have hz5 := qx.cell 5; have hz6 := qx.cell 6
  simp only [List.getElem?_toArray, List.getElem?_cons_zero, List.getElem?_cons_succ] at hz0 hz1 hz2 hz3 hz4 hz5 hz6
  have hzf : ∀ j, w3.frozen? ⟨w2.heap.size, j, none⟩ = false := fun j => qx.frozen j
  have TA3 : Hid (TA w3 w.heap.size w.heap.size C1 [w2.heap.size]) := Lib.hid (TB2.out.more.low bx)
  have BL3 := Lib.hid (BB2.out.trans (bx.mono BB2.out.size))
  have Q1_3 := Lib.hid qx
  have hs3 : w2.heap.size < w3.heap.size := qx.lt
  clear bx qx TA1 TB2 FR2 BL1 BB2
  go_wp2_with fail
  clear hw3 hy0 hy1 hy2 hy3 hy4 hy5 hy6 hz0 hz1 hz2 hz3 hz4 hz5 hz6 hzf
  have hb3 : w.heap.size ≤ w3.heap.size := BL3.out.size
  have HR3 : Hid (∀ b ∈ [w2.heap.size], b < w3.heap.size) := Lib.hid (by
    intro b hb
    simp only [List.mem_cons, List.not_mem_nil, or_false] at hb
    omega)
  have hm3 : w3.cell? ⟨0, 0, none⟩ = some (.int .i64 mx) := (BL3.out.cell (p := ⟨0, 0, none⟩) h0lt).trans HMX.out
  have hst3 := bytes_TA TA3.out HR3.out hb3 inv1.1 (D := 10) (by omega) (by omega) call2 mx hm3 [aN] [] (rd2 mx) (by simp) (by intro s hs; have := small1 aN (by decide) s hs; omega) (.inr (.inl rfl)) (fun h => by cases h) (fun _ => by show (0 : Int) ≤ 0 ∧ (0 : Int) + ((2 : Nat) : Int) ≤ 6144; omega) (fun _ h => absurd rfl h) (failR 0) ex2
  unfold failR repV at hst3
  unfold call2 callV at hst3
  dsimp only at hst3
  clear hm3
  go_wp2_with fail
  refine hst3.mono ?_
  rintro e w4 ⟨A2, m2, k2, rfl, ta, fr⟩
  have TB4 := Lib.hid ta
  have FR4 := Lib.hid fr
  have BB4 := Lib.hid (Fr.low_of fr BL3.out rfl)
  have hsz4 := fr.size
  clear hst3 ta fr
  have Q1_4 := Lib.hid (FR4.out.blk Q1_3.out (by simp))
  clear Q1_3
  obtain ⟨w5, hw5, bx, qx⟩ := open1 w4 #[.int .i64 0, .string ⟨#[]⟩, .slice A2 m2 k2, .int .i64 0, .int .i64 0, .int .i64 0, .int .i64 0] 29
  have hy0 : w5.setCell ⟨w4.heap.size, 0, none⟩ (.int .i64 0) = w5 := rep_same qx 0 _ rfl
  have hy1 : w5.setCell ⟨w4.heap.size, 1, none⟩ (.string ⟨#[]⟩) = w5 := rep_same qx 1 _ rfl
  have hy2 : w5.setCell ⟨w4.heap.size, 2, none⟩ (.slice A2 m2 k2) = w5 := rep_same qx 2 _ rfl
  have hy3 : w5.setCell ⟨w4.heap.size, 3, none⟩ (.int .i64 0) = w5 := rep_same qx 3 _ rfl
  have hy4 : w5.setCell ⟨w4.heap.size, 4, none⟩ (.int .i64 0) = w5 := rep_same qx 4 _ rfl
  have hy5 : w5.setCell ⟨w4.heap.size, 5, none⟩ (.int .i64 0) = w5 := rep_same qx 5 _ rfl
  have hy6 : w5.setCell ⟨w4.heap.size, 6, none⟩ (.int .i64 0) = w5 := rep_same qx 6 _ rfl
  have hz0 := qx.cell 0; have hz1 := qx.cell 1; have hz2 := qx.cell 2; have hz3 := qx.cell 3; have hz4 := qx.cell 4; have hz5 := qx.cell 5; have hz6 := qx.cell 6
  simp only [List.getElem?_toArray, List.getElem?_cons_zero, List.getElem?_cons_succ] at hz0 hz1 hz2 hz3 hz4 hz5 hz6
  have hzf : ∀ j, w5.frozen? ⟨w4.heap.size, j, none⟩ = false := fun j => qx.frozen j
  have TA5 : Hid (TA w5 w.heap.size w.heap.size C2 (w4.heap.size :: [w2.heap.size])) := Lib.hid (TB4.out.more.low bx)
  have BL5 := Lib.hid (BB4.out.trans (bx.mono BB4.out.size))
  have Q2_5 := Lib.hid qx
  have hs5 : w4.heap.size < w5.heap.size := qx.lt
  have Q1_5 := Lib.hid (Q1_4.out.below bx Q1_4.out.lt)
  clear Q1_4
  clear bx qx TA3 TB4 FR4 BL3 BB4
  go_wp2_with fail
  clear hw5 hy0 hy1 hy2 hy3 hy4 hy5 hy6 hz0 hz1 hz2 hz3 hz4 hz5 hz6 hzf
  have hb5 : w.heap.size ≤ w5.heap.size := BL5.out.size
  have HR5 : Hid (∀ b ∈ (w4.heap.size :: [w2.heap.size]), b < w5.heap.size) := Lib.hid (by
    intro b hb
    simp only [List.mem_cons, List.not_mem_nil, or_false] at hb
    omega)
  have hm5 : w5.cell? ⟨0, 0, none⟩ = some (.int .i64 mx) := (BL5.out.cell (p := ⟨0, 0, none⟩) h0lt).trans HMX.out
  have hst5 := statfs_6 TA5.out HR5.out hb5 mx hm5
  unfold repV at hst5
  unfold call3 callV at hst5
  dsimp only at hst5
  clear hm5
  go_wp2_with fail
  refine hst5.mono ?_
  rintro e w6 ⟨rfl, bb⟩
  have TB6 := Lib.hid (TA5.out.low bb)
  have FR6 : Hid (Fr (fun k => w.heap.size ≤ k ∧ k ∉ (w4.heap.size :: [w2.heap.size])) w5 w6) := Lib.hid (Fr.of_below bb _)
  have BB6 := Lib.hid (BL5.out.trans (bb.mono BL5.out.size))
  have hsz6 := bb.size
  clear hst5 bb
  have Q1_6 := Lib.hid (FR6.out.blk Q1_5.out (by simp))
  clear Q1_5
  have Q2_6 := Lib.hid (FR6.out.blk Q2_5.out (by simp))
  clear Q2_5
  obtain ⟨w7, hw7, bx, qx⟩ := open1 w6 #[.int .i64 0, .string ⟨#[]⟩, .slice none 0 0, .int .i64 0, .int .i64 0, .int .i64 0, .int .i64 6] 29
  have hy0 : w7.setCell ⟨w6.heap.size, 0, none⟩ (.int .i64 0) = w7 := rep_same qx 0 _ rfl
  have hy1 : w7.setCell ⟨w6.heap.size, 1, none⟩ (.string ⟨#[]⟩) = w7 := rep_same qx 1 _ rfl
  have hy2 : w7.setCell ⟨w6.heap.size, 2, none⟩ (.slice none 0 0) = w7 := rep_same qx 2 _ rfl
  have hy3 : w7.setCell ⟨w6.heap.size, 3, none⟩ (.int .i64 0) = w7 := rep_same qx 3 _ rfl
  have hy4 : w7.setCell ⟨w6.heap.size, 4, none⟩ (.int .i64 0) = w7 := rep_same qx 4 _ rfl
  have hy5 : w7.setCell ⟨w6.heap.size, 5, none⟩ (.int .i64 0) = w7 := rep_same qx 5 _ rfl
  have hy6 : w7.setCell ⟨w6.heap.size, 6, none⟩ (.int .i64 6) = w7 := rep_same qx 6 _ rfl
  have hz0 := qx.cell 0; have hz1 := qx.cell 1; have hz2 := qx.cell 2; have hz3 := qx.cell 3; have hz4 := qx.cell 4; have hz5 := qx.cell 5; have hz6 := qx.cell 6
  simp only [List.getElem?_toArray, List.getElem?_cons_zero, List.getElem?_cons_succ] at hz0 hz1 hz2 hz3 hz4 hz5 hz6
  have hzf : ∀ j, w7.frozen? ⟨w6.heap.size, j, none⟩ = false := fun j => qx.frozen j
  have TA7 : Hid (TA w7 w.heap.size w.heap.size C2 (w6.heap.size :: (w4.heap.size :: [w2.heap.size]))) := Lib.hid (TB6.out.more.low bx)
  have BL7 := Lib.hid (BB6.out.trans (bx.mono BB6.out.size))
  have Q3_7 := Lib.hid qx
  have hs7 : w6.heap.size < w7.heap.size := qx.lt
  have Q1_7 := Lib.hid (Q1_6.out.below bx Q1_6.out.lt)
  clear Q1_6
  have Q2_7 := Lib.hid (Q2_6.out.below bx Q2_6.out.lt)
  clear Q2_6
  clear bx qx TA5 TB6 FR6 BL5 BB6
  go_wp2_with fail
  clear hw7 hy0 hy1 hy2 hy3 hy4 hy5 hy6 hz0 hz1 hz2 hz3 hz4 hz5 hz6 hzf
  have hb7 : w.heap.size ≤ w7.heap.size := BL7.out.size
  have HR7 : Hid (∀ b ∈ (w6.heap.size :: (w4.heap.size :: [w2.heap.size])), b < w7.heap.size) := Lib.hid (by
    intro b hb
    simp only [List.mem_cons, List.not_mem_nil, or_false] at hb
    omega)
  have hm7 : w7.cell? ⟨0, 0, none⟩ = some (.int .i64 mx) := (BL7.out.cell (p := ⟨0, 0, none⟩) h0lt).trans HMX.out
  have hst7 := link_TA TA7.out HR7.out hb7 inv2.1 (D := 10) (by omega) (by omega) call4 mx hm7 [aN] [bN] (rd4 mx) (by simp) (by simp) (by intro s hs; have := small1 aN (by decide) s hs; omega) (by simp) (by simp) (small1 bN (by decide)) rfl 0 ex4
  unfold failR repV at hst7
  unfold call4 callV at hst7
  dsimp only at hst7
  clear hm7
  go_wp2_with fail
  refine hst7.mono ?_
  rintro e w8 ⟨A4, m4, k4, rfl, ta, fr⟩
  have TB8 := Lib.hid ta
  have FR8 := Lib.hid fr
  have BB8 := Lib.hid (Fr.low_of fr BL7.out rfl)
  have hsz8 := fr.size
  clear hst7 ta fr
  have Q1_8 := Lib.hid (FR8.out.blk Q1_7.out (by simp))
  clear Q1_7
  have Q2_8 := Lib.hid (FR8.out.blk Q2_7.out (by simp))
  clear Q2_7
  have Q3_8 := Lib.hid (FR8.out.blk Q3_7.out (by simp))
  clear Q3_7
  obtain ⟨w9, hw9, bx, qx⟩ := open1 w8 #[.int .i64 0, .string ⟨#[]⟩, .slice A4 m4 k4, .int .i64 0, .int .i64 0, .int .i64 0, .int .i64 0] 29
  have hy0 : w9.setCell ⟨w8.heap.size, 0, none⟩ (.int .i64 0) = w9 := rep_same qx 0 _ rfl
  have hy1 : w9.setCell ⟨w8.heap.size, 1, none⟩ (.string ⟨#[]⟩) = w9 := rep_same qx 1 _ rfl
  have hy2 : w9.setCell ⟨w8.heap.size, 2, none⟩ (.slice A4 m4 k4) = w9 := rep_same qx 2 _ rfl
  have hy3 : w9.setCell ⟨w8.heap.size, 3, none⟩ (.int .i64 0) = w9 := rep_same qx 3 _ rfl
  have hy4 : w9.setCell ⟨w8.heap.size, 4, none⟩ (.int .i64 0) = w9 := rep_same qx 4 _ rfl
  have hy5 : w9.setCell ⟨w8.heap.size, 5, none⟩ (.int .i64 0) = w9 := rep_same qx 5 _ rfl
  have hy6 : w9.setCell ⟨w8.heap.size, 6, none⟩ (.int .i64 0) = w9 := rep_same qx 6 _ rfl
  have hz0 := qx.cell 0; have hz1 := qx.cell 1; have hz2 := qx.cell 2; have hz3 := qx.cell 3; have hz4 := qx.cell 4; have hz5 := qx.cell 5; have hz6 := qx.cell 6
  simp only [List.getElem?_toArray, List.getElem?_cons_zero, List.getElem?_cons_succ] at hz0 hz1 hz2 hz3 hz4 hz5 hz6
  have hzf : ∀ j, w9.frozen? ⟨w8.heap.size, j, none⟩ = false := fun j => qx.frozen j
  have TA9 : Hid (TA w9 w.heap.size w.heap.size C3 (w8.heap.size :: (w6.heap.size :: (w4.heap.size :: [w2.heap.size])))) := Lib.hid (TB8.out.more.low bx)
  have BL9 := Lib.hid (BB8.out.trans (bx.mono BB8.out.size))
  have Q4_9 := Lib.hid qx
  have hs9 : w8.heap.size < w9.heap.size := qx.lt
  have Q1_9 := Lib.hid (Q1_8.out.below bx Q1_8.out.lt)
  clear Q1_8
  have Q2_9 := Lib.hid (Q2_8.out.below bx Q2_8.out.lt)
  clear Q2_8
  have Q3_9 := Lib.hid (Q3_8.out.below bx Q3_8.out.lt)
  clear Q3_8
  clear bx qx TA7 TB8 FR8 BL7 BB8
  go_wp2_with fail
  clear hw9 hy0 hy1 hy2 hy3 hy4 hy5 hy6 hz0 hz1 hz2 hz3 hz4 hz5 hz6 hzf
  have hb9 : w.heap.size ≤ w9.heap.size := BL9.out.size
  have HR9 : Hid (∀ b ∈ (w8.heap.size :: (w6.heap.size :: (w4.heap.size :: [w2.heap.size]))), b < w9.heap.size) := Lib.hid (by
    intro b hb
    simp only [List.mem_cons, List.not_mem_nil, or_false] at hb
    omega)
  have hm9 : w9.cell? ⟨0, 0, none⟩ = some (.int .i64 mx) := (BL9.out.cell (p := ⟨0, 0, none⟩) h0lt).trans HMX.out
  have hst9 := stat_5 TA9.out HR9.out hb9 mx hm9
  unfold failR repV at hst9
  unfold call5 callV at hst9
  dsimp only at hst9
  clear hm9
  go_wp2_with fail
  refine hst9.mono ?_
  rintro e w10 ⟨A5, m5, k5, rfl, ta, fr⟩
  have TB10 := Lib.hid ta
  have FR10 := Lib.hid fr
  have BB10 := Lib.hid (Fr.low_of fr BL9.out rfl)
  have hsz10 := fr.size
  clear hst9 ta fr
  have Q1_10 := Lib.hid (FR10.out.blk Q1_9.out (by simp))
  clear Q1_9
  have Q2_10 := Lib.hid (FR10.out.blk Q2_9.out (by simp))
  clear Q2_9
  have Q3_10 := Lib.hid (FR10.out.blk Q3_9.out (by simp))
  clear Q3_9
  have Q4_10 := Lib.hid (FR10.out.blk Q4_9.out (by simp))
  clear Q4_9
  obtain ⟨w11, hw11, bx, qx⟩ := open1 w10 #[.int .i64 0, .string ⟨#[]⟩, .slice A5 m5 k5, .int .i64 1, .int .i64 2, .int .i64 2, .int .i64 0] 29
  have hy0 : w11.setCell ⟨w10.heap.size, 0, none⟩ (.int .i64 0) = w11 := rep_same qx 0 _ rfl
  have hy1 : w11.setCell ⟨w10.heap.size, 1, none⟩ (.string ⟨#[]⟩) = w11 := rep_same qx 1 _ rfl
  have hy2 : w11.setCell ⟨w10.heap.size, 2, none⟩ (.slice A5 m5 k5) = w11 := rep_same qx 2 _ rfl
  have hy3 : w11.setCell ⟨w10.heap.size, 3, none⟩ (.int .i64 1) = w11 := rep_same qx 3 _ rfl
  have hy4 : w11.setCell ⟨w10.heap.size, 4, none⟩ (.int .i64 2) = w11 := rep_same qx 4 _ rfl
  have hy5 : w11.setCell ⟨w10.heap.size, 5, none⟩ (.int .i64 2) = w11 := rep_same qx 5 _ rfl
  have hy6 : w11.setCell ⟨w10.heap.size, 6, none⟩ (.int .i64 0) = w11 := rep_same qx 6 _ rfl
  have hz0 := qx.cell 0; have hz1 := qx.cell 1; have hz2 := qx.cell 2; have hz3 := qx.cell 3; have hz4 := qx.cell 4; have hz5 := qx.cell 5; have hz6 := qx.cell 6
  simp only [List.getElem?_toArray, List.getElem?_cons_zero, List.getElem?_cons_succ] at hz0 hz1 hz2 hz3 hz4 hz5 hz6
  have hzf : ∀ j, w11.frozen? ⟨w10.heap.size, j, none⟩ = false := fun j => qx.frozen j
  have TA11 : Hid (TA w11 w.heap.size w.heap.size C3 (w10.heap.size :: (w8.heap.size :: (w6.heap.size :: (w4.heap.size :: [w2.heap.size]))))) := Lib.hid (TB10.out.more.low bx)
  have BL11 := Lib.hid (BB10.out.trans (bx.mono BB10.out.size))
  have Q5_11 := Lib.hid qx
  have hs11 : w10.heap.size < w11.heap.size := qx.lt
  have Q1_11 := Lib.hid (Q1_10.out.below bx Q1_10.out.lt)
  clear Q1_10
  have Q2_11 := Lib.hid (Q2_10.out.below bx Q2_10.out.lt)
  clear Q2_10
  have Q3_11 := Lib.hid (Q3_10.out.below bx Q3_10.out.lt)
  clear Q3_10
  have Q4_11 := Lib.hid (Q4_10.out.below bx Q4_10.out.lt)
  clear Q4_10
  clear bx qx TA9 TB10 FR10 BL9 BB10
  go_wp2_with fail
  clear hw11 hy0 hy1 hy2 hy3 hy4 hy5 hy6 hz0 hz1 hz2 hz3 hz4 hz5 hz6 hzf
  have hb11 : w.heap.size ≤ w11.heap.size := BL11.out.size
  have HR11 : Hid (∀ b ∈ (w10.heap.size :: (w8.heap.size :: (w6.heap.size :: (w4.heap.size :: [w2.heap.size])))), b < w11.heap.size) := Lib.hid (by
    intro b hb
    simp only [List.mem_cons, List.not_mem_nil, or_false] at hb
    omega)
  have hm11 : w11.cell? ⟨0, 0, none⟩ = some (.int .i64 mx) := (BL11.out.cell (p := ⟨0, 0, none⟩) h0lt).trans HMX.out
  have hst11 := makes_TA TA11.out HR11.out hb11 inv3.1 (D := 10) (by omega) (by omega) call6 mx hm11 [dN] [] (rd6 mx) (by simp) (by simp) (small1 dN (by decide)) (.inr rfl) 0 ex6
  unfold failR repV at hst11
  unfold call6 callV at hst11
  dsimp only at hst11
  clear hm11
  go_wp2_with fail
  refine hst11.mono ?_
  rintro e w12 ⟨A6, m6, k6, rfl, ta, fr⟩
  have TB12 := Lib.hid ta
  have FR12 := Lib.hid fr
  have BB12 := Lib.hid (Fr.low_of fr BL11.out rfl)
  have hsz12 := fr.size
  clear hst11 ta fr
  have Q1_12 := Lib.hid (FR12.out.blk Q1_11.out (by simp))
  clear Q1_11
  have Q2_12 := Lib.hid (FR12.out.blk Q2_11.out (by simp))
  clear Q2_11
  have Q3_12 := Lib.hid (FR12.out.blk Q3_11.out (by simp))
  clear Q3_11
  have Q4_12 := Lib.hid (FR12.out.blk Q4_11.out (by simp))
  clear Q4_11
  have Q5_12 := Lib.hid (FR12.out.blk Q5_11.out (by simp))
  clear Q5_11
  obtain ⟨w13, hw13, bx, qx⟩ := open1 w12 #[.int .i64 0, .string ⟨#[]⟩, .slice A6 m6 k6, .int .i64 0, .int .i64 0, .int .i64 0, .int .i64 0] 29
  have hy0 : w13.setCell ⟨w12.heap.size, 0, none⟩ (.int .i64 0) = w13 := rep_same qx 0 _ rfl
  have hy1 : w13.setCell ⟨w12.heap.size, 1, none⟩ (.string ⟨#[]⟩) = w13 := rep_same qx 1 _ rfl
  have hy2 : w13.setCell ⟨w12.heap.size, 2, none⟩ (.slice A6 m6 k6) = w13 := rep_same qx 2 _ rfl
  have hy3 : w13.setCell ⟨w12.heap.size, 3, none⟩ (.int .i64 0) = w13 := rep_same qx 3 _ rfl
  have hy4 : w13.setCell ⟨w12.heap.size, 4, none⟩ (.int .i64 0) = w13 := rep_same qx 4 _ rfl
  have hy5 : w13.setCell ⟨w12.heap.size, 5, none⟩ (.int .i64 0) = w13 := rep_same qx 5 _ rfl
  have hy6 : w13.setCell ⟨w12.heap.size, 6, none⟩ (.int .i64 0) = w13 := rep_same qx 6 _ rfl
  have hz0 := qx.cell 0; have hz1 := qx.cell 1; have hz2 := qx.cell 2; have hz3 := qx.cell 3; have hz4 := qx.cell 4; have hz5 := qx.cell 5; have hz6 := qx.cell 6
  simp only [List.getElem?_toArray, List.getElem?_cons_zero, List.getElem?_cons_succ] at hz0 hz1 hz2 hz3 hz4 hz5 hz6
  have hzf : ∀ j, w13.frozen? ⟨w12.heap.size, j, none⟩ = false := fun j => qx.frozen j
  have TA13 : Hid (TA w13 w.heap.size w.heap.size C4 (w12.heap.size :: (w10.heap.size :: (w8.heap.size :: (w6.heap.size :: (w4.heap.size :: [w2.heap.size])))))) := Lib.hid (TB12.out.more.low bx)
  have BL13 := Lib.hid (BB12.out.trans (bx.mono BB12.out.size))
  have Q6_13 := Lib.hid qx
  have hs13 : w12.heap.size < w13.heap.size := qx.lt
  have Q1_13 := Lib.hid (Q1_12.out.below bx Q1_12.out.lt)
  clear Q1_12
  have Q2_13 := Lib.hid (Q2_12.out.below bx Q2_12.out.lt)
  clear Q2_12
  have Q3_13 := Lib.hid (Q3_12.out.below bx Q3_12.out.lt)
  clear Q3_12
  have Q4_13 := Lib.hid (Q4_12.out.below bx Q4_12.out.lt)
  clear Q4_12
  have Q5_13 := Lib.hid (Q5_12.out.below bx Q5_12.out.lt)
  clear Q5_12
  clear bx qx TA11 TB12 FR12 BL11 BB12
  go_wp2_with fail
  clear hw13 hy0 hy1 hy2 hy3 hy4 hy5 hy6 hz0 hz1 hz2 hz3 hz4 hz5 hz6 hzf
  have hb13 : w.heap.size ≤ w13.heap.size := BL13.out.size
  have HR13 : Hid (∀ b ∈ (w12.heap.size :: (w10.heap.size :: (w8.heap.size :: (w6.heap.size :: (w4.heap.size :: [w2.heap.size]))))), b < w13.heap.size) := Lib.hid (by
    intro b hb
    simp only [List.mem_cons, List.not_mem_nil, or_false] at hb
    omega)
  have hm13 : w13.cell? ⟨0, 0, none⟩ = some (.int .i64 mx) := (BL13.out.cell (p := ⟨0, 0, none⟩) h0lt).trans HMX.out
  have hst13 := rename_TA TA13.out HR13.out hb13 inv4.1 call7 mx hm13 [dN] [dN, eN] (rd7 mx) (by simp) (by simp) (by intro s hs; have := small1 dN (by decide) s hs; omega) (by simp) (by simp) (by intro s hs; rcases List.mem_cons.1 hs with rfl | hs; decide; exact small1 eN (by decide) s hs) rfl 2 _ ex7 ex7r rfl (by rw [ex7l]) (2, 0) _ (by rw [ex7l]) ex7r rfl rfl rfl
  unfold failR repV at hst13
  unfold call7 callV at hst13
  dsimp only at hst13
  clear hm13
  go_wp2_with fail
  refine hst13.mono ?_
  rintro e w14 ⟨A7, m7, k7, rfl, ta, fr⟩
  have TB14 := Lib.hid ta
  have FR14 := Lib.hid fr
  have BB14 := Lib.hid (Fr.low_of fr BL13.out rfl)
  have hsz14 := fr.size
  clear hst13 ta fr
  have Q1_14 := Lib.hid (FR14.out.blk Q1_13.out (by simp))
  clear Q1_13
  have Q2_14 := Lib.hid (FR14.out.blk Q2_13.out (by simp))
  clear Q2_13
  have Q3_14 := Lib.hid (FR14.out.blk Q3_13.out (by simp))
  clear Q3_13
  have Q4_14 := Lib.hid (FR14.out.blk Q4_13.out (by simp))
  clear Q4_13
  have Q5_14 := Lib.hid (FR14.out.blk Q5_13.out (by simp))
  clear Q5_13
  have Q6_14 := Lib.hid (FR14.out.blk Q6_13.out (by simp))
  clear Q6_13
  obtain ⟨w15, hw15, bx, qx⟩ := open1 w14 #[.int .i64 1, .string ⟨#[]⟩, .slice A7 m7 k7, .int .i64 0, .int .i64 0, .int .i64 0, .int .i64 0] 29
  have hy0 : w15.setCell ⟨w14.heap.size, 0, none⟩ (.int .i64 1) = w15 := rep_same qx 0 _ rfl
  have hy1 : w15.setCell ⟨w14.heap.size, 1, none⟩ (.string ⟨#[]⟩) = w15 := rep_same qx 1 _ rfl
  have hy2 : w15.setCell ⟨w14.heap.size, 2, none⟩ (.slice A7 m7 k7) = w15 := rep_same qx 2 _ rfl
  have hy3 : w15.setCell ⟨w14.heap.size, 3, none⟩ (.int .i64 0) = w15 := rep_same qx 3 _ rfl
  have hy4 : w15.setCell ⟨w14.heap.size, 4, none⟩ (.int .i64 0) = w15 := rep_same qx 4 _ rfl
  have hy5 : w15.setCell ⟨w14.heap.size, 5, none⟩ (.int .i64 0) = w15 := rep_same qx 5 _ rfl
  have hy6 : w15.setCell ⟨w14.heap.size, 6, none⟩ (.int .i64 0) = w15 := rep_same qx 6 _ rfl
  have hz0 := qx.cell 0; have hz1 := qx.cell 1; have hz2 := qx.cell 2; have hz3 := qx.cell 3; have hz4 := qx.cell 4; have hz5 := qx.cell 5; have hz6 := qx.cell 6
  simp only [List.getElem?_toArray, List.getElem?_cons_zero, List.getElem?_cons_succ] at hz0 hz1 hz2 hz3 hz4 hz5 hz6
  have hzf : ∀ j, w15.frozen? ⟨w14.heap.size, j, none⟩ = false := fun j => qx.frozen j
  have TA15 : Hid (TA w15 w.heap.size w.heap.size C4 (w14.heap.size :: (w12.heap.size :: (w10.heap.size :: (w8.heap.size :: (w6.heap.size :: (w4.heap.size :: [w2.heap.size]))))))) := Lib.hid (TB14.out.more.low bx)
  have BL15 := Lib.hid (BB14.out.trans (bx.mono BB14.out.size))
  have Q7_15 := Lib.hid qx
  have hs15 : w14.heap.size < w15.heap.size := qx.lt
  have Q1_15 := Lib.hid (Q1_14.out.below bx Q1_14.out.lt)
  clear Q1_14
  have Q2_15 := Lib.hid (Q2_14.out.below bx Q2_14.out.lt)
  clear Q2_14
  have Q3_15 := Lib.hid (Q3_14.out.below bx Q3_14.out.lt)
  clear Q3_14
  have Q4_15 := Lib.hid (Q4_14.out.below bx Q4_14.out.lt)
  clear Q4_14
  have Q5_15 := Lib.hid (Q5_14.out.below bx Q5_14.out.lt)
  clear Q5_14
  have Q6_15 := Lib.hid (Q6_14.out.below bx Q6_14.out.lt)
  clear Q6_14
  have e1_0 := Q1_15.out.cell 0
  simp only [List.getElem?_toArray, List.getElem?_cons_zero, List.getElem?_cons_succ] at e1_0
  have e2_0 := Q2_15.out.cell 0
  simp only [List.getElem?_toArray, List.getElem?_cons_zero, List.getElem?_cons_succ] at e2_0
  have e3_6 := Q3_15.out.cell 6
  simp only [List.getElem?_toArray, List.getElem?_cons_zero, List.getElem?_cons_succ] at e3_6
  have e4_0 := Q4_15.out.cell 0
  simp only [List.getElem?_toArray, List.getElem?_cons_zero, List.getElem?_cons_succ] at e4_0
  have e5_4 := Q5_15.out.cell 4
  simp only [List.getElem?_toArray, List.getElem?_cons_zero, List.getElem?_cons_succ] at e5_4
  have e5_5 := Q5_15.out.cell 5
  simp only [List.getElem?_toArray, List.getElem?_cons_zero, List.getElem?_cons_succ] at e5_5
  have e6_0 := Q6_15.out.cell 0
  simp only [List.getElem?_toArray, List.getElem?_cons_zero, List.getElem?_cons_succ] at e6_0
  clear bx qx TB14 FR14 BB14
  go_wp2_with fail
  go_ret
  exact ⟨rfl, BL15.out⟩
end
end Go.Proofs.YtglglbbjacgbdaaDoor
