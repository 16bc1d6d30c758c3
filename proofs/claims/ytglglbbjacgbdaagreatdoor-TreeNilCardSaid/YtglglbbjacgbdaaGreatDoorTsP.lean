import Derived.Test.YtglglbbjacgbdaaGreatDoorTsO
namespace Go.Proofs.YtglglbbjacgbdaaGreatDoor
open Go.RowKit
set_option linter.unusedVariables false
set_option linter.unusedSimpArgs false
attribute [local go_sem] b_max2 b_min2 b_max b_min

/-! ### TreeNil -/
def zeroA : Array Value := #[.int .i64 0, .int .i64 0, .int .i64 0, .string ⟨#[]⟩, .slice none 0 0, .int .i64 0, .int .i64 0, .string ⟨#[]⟩, .slice none 0 0, .int .i64 0, .int .i64 0, .string ⟨#[]⟩, .slice none 0 0, .int .i64 0, .int .i64 0, .string ⟨#[]⟩, .slice none 0 0]
theorem zeroA_eq : zeroA = newA 0 := rfl
theorem exz : makesT (newS 0 0) 0 10 2 [aN] 1 = (newS 0 0, 15) := by kernel_rfl
theorem exz2 : freeT (newS 0 0) 0 10 = 0 := by kernel_rfl
def callZ : CallV := ⟨2, ⟨#[47, 97]⟩, ⟨#[]⟩, 0, 0, ⟨#[]⟩⟩
theorem rdZ (mx : Int) : Reads0 callZ mx [aN] [] := reads_one callZ mx _ _ (by rw [show callZ.path = ⟨#[47, 97]⟩ from rfl, sp1]; rfl) (by rw [show callZ.dest = ⟨#[]⟩ from rfl, sp0]; rfl) fun W hm => read_a_okNE1 callZ mx hm rfl rfl rfl rfl rfl rfl rfl rfl rfl rfl _ sp1 (by simp)
section
variable {w : World}
set_option maxRecDepth 100000 in
set_option maxHeartbeats 1000000 in
theorem all_nil : Calls Tryz.prog 18 #[.pointer none] w fun e w' => e = .returned (.slice none 0 0) ∧ Below w.heap.size w w' := by
  go_enter Tryz.func18, Tryz.ntmps18
  go_wp2_with fail
  go_ret
  exact ⟨rfl, Below.refl _ _⟩
set_option maxRecDepth 100000 in
set_option maxHeartbeats 1000000 in
theorem free_nil : Calls Tryz.prog 20 #[.pointer none] w fun e w' => e = .returned (.int .i64 0) ∧ Below w.heap.size w w' := by
  go_enter Tryz.func20, Tryz.ntmps20
  go_wp2_with fail
  go_ret
  exact ⟨rfl, Below.refl _ _⟩
set_option maxRecDepth 100000 in
set_option maxHeartbeats 1000000 in
theorem copy_nil : Calls Tryz.prog 22 #[.pointer none] w fun e w' => e = .returned (.pointer none) ∧ Below w.heap.size w w' := by
  go_enter Tryz.func22, Tryz.ntmps22
  go_wp2_with fail
  go_ret
  exact ⟨rfl, Below.refl _ _⟩
theorem zero_TA (w : World) (base : Nat) (R : List Nat) (hb : base ≤ w.heap.size) (hR : ∀ b ∈ R, b < w.heap.size) (w' : World) (hB : Below w.heap.size w w') (hK : Blk w' w.heap.size 54 zeroA) : TA w' base w.heap.size (newS 0 0) R := by
  rw [zeroA_eq] at hK
  obtain ⟨h2, h3⟩ := new_tree 0 hK
  refine ⟨_, _, _, new_ren 0 w.heap.size, rfl, h2, h3, fun k hk => ?_⟩
  have := new_own (w := w) hk
  subst this
  exact ⟨hb, fun hm => by have := hR _ hm; omega⟩
set_option maxRecDepth 100000 in
set_option maxHeartbeats 8000000 in
theorem law_nil (op : Int) (mx : Int) (hmx : w.cell? ⟨0, 0, none⟩ = some (.int .i64 mx)) : Calls Tryz.prog 9 #[.int .i64 op] w fun e w' => e = .returned (.bool true) ∧ Below w.heap.size w w' := by
  have HMX := Lib.hid hmx
  have h0lt : 0 < w.heap.size := World.block_lt_of_cell? _ _ hmx
  clear hmx
  obtain ⟨w1, hw1, b1, kz⟩ := open1 w zeroA 54
  have TA1 : Hid (TA w1 w.heap.size w.heap.size (newS 0 0) []) := Lib.hid (zero_TA w w.heap.size [] (Nat.le_refl _) (by simp) w1 b1 kz)
  have BL1 := Lib.hid b1
  have hs1 : w.heap.size < w1.heap.size := kz.lt
  unfold zeroA at hw1
  clear b1 kz
  have hd := do_nil (w := w1) ⟨op, ⟨#[]⟩, ⟨#[]⟩, 0, 0, ⟨#[]⟩⟩
  unfold callV repV at hd
  dsimp only at hd
  go_enter Tryz.func9, Tryz.ntmps9
  go_wp2_with fail
  refine hd.mono ?_
  rintro e w2 ⟨rfl, b2⟩
  have TA2 := Lib.hid (TA1.out.low b2)
  have BL2 := Lib.hid (BL1.out.trans (b2.mono BL1.out.size))
  have hs2 := b2.size
  clear hd hw1 b2 TA1 BL1
  obtain ⟨w3, hw3, bx, qx⟩ := open1 w2 #[.int .i64 1, .string ⟨#[]⟩, .slice none 0 0, .int .i64 0, .int .i64 0, .int .i64 0, .int .i64 0] 35
  have hy1 : w3.setCell ⟨w2.heap.size, 1, none⟩ (.string ⟨#[]⟩) = w3 := rep_same qx 1 _ rfl
  have hy2 : w3.setCell ⟨w2.heap.size, 2, none⟩ (.slice none 0 0) = w3 := rep_same qx 2 _ rfl
  have hy3 : w3.setCell ⟨w2.heap.size, 3, none⟩ (.int .i64 0) = w3 := rep_same qx 3 _ rfl
  have hy4 : w3.setCell ⟨w2.heap.size, 4, none⟩ (.int .i64 0) = w3 := rep_same qx 4 _ rfl
  have hy5 : w3.setCell ⟨w2.heap.size, 5, none⟩ (.int .i64 0) = w3 := rep_same qx 5 _ rfl
  have hy6 : w3.setCell ⟨w2.heap.size, 6, none⟩ (.int .i64 0) = w3 := rep_same qx 6 _ rfl
  have hz1 := qx.cell 1; have hz2 := qx.cell 2; have hz3 := qx.cell 3; have hz4 := qx.cell 4; have hz5 := qx.cell 5; have hz6 := qx.cell 6
  simp only [List.getElem?_toArray, List.getElem?_cons_zero, List.getElem?_cons_succ] at hz1 hz2 hz3 hz4 hz5 hz6
  have hzf : ∀ j, w3.frozen? ⟨w2.heap.size, j, none⟩ = false := fun j => qx.frozen j
  have TA3 : Hid (TA w3 w.heap.size w.heap.size (newS 0 0) [w2.heap.size]) := Lib.hid (TA2.out.more.low bx)
  have BL3 := Lib.hid (BL2.out.trans (bx.mono BL2.out.size))
  have Q1_3 := Lib.hid qx
  have hs3 : w2.heap.size < w3.heap.size := qx.lt
  have hm3 : w3.cell? ⟨0, 0, none⟩ = some (.int .i64 mx) := (BL3.out.cell (p := ⟨0, 0, none⟩) h0lt).trans HMX.out
  have HR3 : Hid (∀ b ∈ [w2.heap.size], b < w3.heap.size) := Lib.hid (by
    intro b hb
    simp only [List.mem_cons, List.not_mem_nil, or_false] at hb
    omega)
  have hst := makes_TA TA3.out HR3.out BL3.out.size (new_inv 0) (D := 10) (by omega) (by omega) callZ mx hm3 [aN] [] (rdZ mx) (by simp) (by simp) (small1 aN (by decide)) (.inr rfl) 15 exz
  unfold failR repV at hst
  unfold callZ callV at hst
  dsimp only at hst
  clear bx qx TA2 BL2 hm3
  go_wp2_with fail
  refine hst.mono ?_
  rintro e w4 ⟨A2, m2, k2, rfl, ta, fr⟩
  have TB4 := Lib.hid ta
  have Q1_4 := Lib.hid (fr.blk Q1_3.out (by simp))
  have BB4 := Lib.hid (Fr.low_of fr BL3.out rfl)
  have hs4 := fr.size
  clear hst ta fr hw3 hy1 hy2 hy3 hy4 hy5 hy6 hz1 hz2 hz3 hz4 hz5 hz6 hzf TA3 BL3 Q1_3
  obtain ⟨w5, hw5, bx, qx⟩ := open1 w4 #[.int .i64 15, .string ⟨#[]⟩, .slice A2 m2 k2, .int .i64 0, .int .i64 0, .int .i64 0, .int .i64 0] 35
  have hy3 : w5.setCell ⟨w4.heap.size, 3, none⟩ (.int .i64 0) = w5 := rep_same qx 3 _ rfl
  have hy4 : w5.setCell ⟨w4.heap.size, 4, none⟩ (.int .i64 0) = w5 := rep_same qx 4 _ rfl
  have hy5 : w5.setCell ⟨w4.heap.size, 5, none⟩ (.int .i64 0) = w5 := rep_same qx 5 _ rfl
  have hy6 : w5.setCell ⟨w4.heap.size, 6, none⟩ (.int .i64 0) = w5 := rep_same qx 6 _ rfl
  have hz3 := qx.cell 3; have hz4 := qx.cell 4; have hz5 := qx.cell 5; have hz6 := qx.cell 6
  simp only [List.getElem?_toArray, List.getElem?_cons_zero, List.getElem?_cons_succ] at hz3 hz4 hz5 hz6
  have hzf : ∀ j, w5.frozen? ⟨w4.heap.size, j, none⟩ = false := fun j => qx.frozen j
  have TA5 : Hid (TA w5 w.heap.size w.heap.size (newS 0 0) [w4.heap.size, w2.heap.size]) := Lib.hid (TB4.out.more.low bx)
  have BL5 := Lib.hid (BB4.out.trans (bx.mono BB4.out.size))
  have Q2_5 := Lib.hid qx
  have Q1_5 := Lib.hid (Q1_4.out.below bx Q1_4.out.lt)
  have hs5 : w4.heap.size < w5.heap.size := qx.lt
  have hm5 : w5.cell? ⟨0, 0, none⟩ = some (.int .i64 mx) := (BL5.out.cell (p := ⟨0, 0, none⟩) h0lt).trans HMX.out
  clear bx qx TB4 BB4 Q1_4
  have haw := awake_any mx hm5
  go_wp2_with fail
  refine haw.mono ?_
  rintro e w6 ⟨rfl, b6⟩
  have TA6 := Lib.hid (TA5.out.low b6)
  have BL6 := Lib.hid (BL5.out.trans (b6.mono BL5.out.size))
  have Q1_6 := Lib.hid (Q1_5.out.below b6 Q1_5.out.lt)
  have Q2_6 := Lib.hid (Q2_5.out.below b6 Q2_5.out.lt)
  have hs6 := b6.size
  have e1 := Q1_6.out.cell 0
  simp only [List.getElem?_toArray, List.getElem?_cons_zero] at e1
  clear haw hw5 hy3 hy4 hy5 hy6 hz3 hz4 hz5 hz6 hzf b6 hm5 TA5 BL5 Q1_5 Q2_5
  go_wp2_with fail
  refine all_nil.mono ?_
  rintro e w7 ⟨rfl, b7⟩
  have TA7 := Lib.hid (TA6.out.low b7)
  have BL7 := Lib.hid (BL6.out.trans (b7.mono BL6.out.size))
  have Q2_7 := Lib.hid (Q2_6.out.below b7 Q2_6.out.lt)
  clear b7 TA6 BL6 Q2_6 e1
  go_wp2_with fail
  refine free_nil.mono ?_
  rintro e w8 ⟨rfl, b8⟩
  have TA8 := Lib.hid (TA7.out.low b8)
  have BL8 := Lib.hid (BL7.out.trans (b8.mono BL7.out.size))
  have Q2_8 := Lib.hid (Q2_7.out.below b8 Q2_7.out.lt)
  clear b8 TA7 BL7 Q2_7
  go_wp2_with fail
  refine copy_nil.mono ?_
  rintro e w9 ⟨rfl, b9⟩
  have TA9 := Lib.hid (TA8.out.low b9)
  have BL9 := Lib.hid (BL8.out.trans (b9.mono BL8.out.size))
  have Q2_9 := Lib.hid (Q2_8.out.below b9 Q2_8.out.lt)
  have e2 := Q2_9.out.cell 0
  simp only [List.getElem?_toArray, List.getElem?_cons_zero] at e2
  have hf := free_TA TA9.out (new_inv 0) (D := 10) (by omega) (by omega)
  rw [exz2] at hf
  clear b9 TA8 BL8 Q2_8
  go_wp2_with fail
  refine hf.mono ?_
  rintro e wz ⟨rfl, bz⟩
  have BLz := Lib.hid (BL9.out.trans (bz.mono BL9.out.size))
  clear hf bz
  go_wp2_with fail
  go_ret
  exact ⟨rfl, BLz.out⟩
end
end Go.Proofs.YtglglbbjacgbdaaGreatDoor
