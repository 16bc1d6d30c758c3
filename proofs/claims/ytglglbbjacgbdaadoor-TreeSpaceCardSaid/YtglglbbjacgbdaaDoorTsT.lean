import Derived.Test.YtglglbbjacgbdaaDoorTsO
import Derived.Test.YtglglbbjacgbdaaDoorTsS
namespace Go.Proofs.YtglglbbjacgbdaaDoor
open Go.RowKit
set_option linter.unusedVariables false
set_option linter.unusedSimpArgs false
attribute [local go_sem] b_max2 b_min2 b_max b_min

/-! ### TreeSpace, in plain words -/
def fileN : ByteArray := ⟨#[102, 105, 108, 101]⟩
def fileP : ByteArray := ⟨#[47, 102, 105, 108, 101]⟩
def S1 (k : Int) : TS := ((newS k 0).upd (1, 0) ⟨1, 1, ⟨#[]⟩, []⟩).upd (0, 1) ⟨0, 0, ⟨#[]⟩, [(fileN, 1)]⟩
def S2 (k : Int) (d : ByteArray) : TS := (S1 k).upd (1, 0) ⟨1, 1, d, []⟩
def S3 (k : Int) (d : ByteArray) : TS := ((S2 k d).upd (0, 1) ⟨0, 0, ⟨#[]⟩, []⟩).upd (1, 0) ⟨1, 0, d, []⟩
theorem fr0 (k : Int) : freeT (newS k 0) 0 10 = min (max k 0) 1099511627776 - 0 - 0 := by kernel_rfl
theorem fr1 (k : Int) : freeT (S1 k) 0 10 = min (max k 0) 1099511627776 - 1 - 1 := by kernel_rfl
theorem fr2 (k : Int) (d : ByteArray) : freeT (S2 k d) 0 10 = min (max k 0) 1099511627776 - 1 - (1 + need d.size + 0) := by kernel_rfl
theorem fr3 (k : Int) (d : ByteArray) : freeT (S3 k d) 0 10 = min (max k 0) 1099511627776 - 0 - 0 := by kernel_rfl
theorem mk1 (k : Int) : makesT (newS k 0) 0 10 1 [fileN] 1 = if (if min (max k 0) 1099511627776 - 0 - 0 < 2 then (15 : Int) else 0) ≠ 0 then (newS k 0, if min (max k 0) 1099511627776 - 0 - 0 < 2 then (15 : Int) else 0) else (S1 k, 0) := by kernel_rfl
def cut8 (n : Int) : CallV := ⟨8, fileP, ⟨#[]⟩, 0, n, ⟨#[]⟩⟩
def mkF : CallV := ⟨1, fileP, ⟨#[]⟩, 0, 0, ⟨#[]⟩⟩
def rmF : CallV := ⟨4, fileP, ⟨#[]⟩, 0, 0, ⟨#[]⟩⟩
theorem by2 (k n : Int) : bytesT (S1 k) 0 10 [fileN] (cut8 n) = if freeT (S1 k) 0 10 < need n - need 0 then (S1 k, failR 15) else (S2 k (newB (cut8 n) ⟨#[]⟩), failR 0) := by kernel_rfl
theorem ul3 (k : Int) (d : ByteArray) : unlinkT (S2 k d) 0 [fileN] = (S3 k d, 0) := by kernel_rfl
theorem spF : fSplit fileP = some [fileN] := by kernel_rfl
theorem mk_no (k : Int) (h0 : 0 ≤ k) (h1 : k < 2) : makesT (newS k 0) 0 10 1 [fileN] 1 = (newS k 0, 15) := by
  rw [mk1, if_pos (show min (max k 0) 1099511627776 - 0 - 0 < 2 by omega)]; rfl
theorem mk_ok (k : Int) (h0 : 2 ≤ k) (h1 : k ≤ 30) : makesT (newS k 0) 0 10 1 [fileN] 1 = (S1 k, 0) := by
  rw [mk1, if_neg (show ¬ min (max k 0) 1099511627776 - 0 - 0 < 2 by omega)]; rfl
theorem cut_no (k n : Int) (h0 : 2 ≤ k) (h1 : k ≤ 30) (h : k - 2 < need n) : bytesT (S1 k) 0 10 [fileN] (cut8 n) = (S1 k, failR 15) := by
  rw [by2, fr1, if_pos (by have : need 0 = 0 := rfl; omega)]
theorem cut_ok (k n : Int) (h0 : 2 ≤ k) (h1 : k ≤ 30) (h : need n ≤ k - 2) : bytesT (S1 k) 0 10 [fileN] (cut8 n) = (S2 k (newB (cut8 n) ⟨#[]⟩), failR 0) := by
  rw [by2, fr1, if_neg (by have : need 0 = 0 := rfl; omega)]
theorem invS1 (k : Int) (h0 : 2 ≤ k) (h1 : k ≤ 30) : Inv (S1 k) 1 ∧ InvL (S1 k) 1 := by
  have h := makes_inv (D := 10) (op := 1) (l := [fileN]) (new_inv k) (by omega) (.inl rfl) (by simp) (by intro s hs; rw [List.mem_singleton.1 hs]; decide)
  have h2 := makes_invL (D := 10) (op := 1) (l := [fileN]) (new_inv k) (new_invL k) (by omega) (.inl rfl)
  rw [mk_ok k h0 h1] at h h2
  exact ⟨h, h2⟩
theorem invS2 (k n : Int) (h0 : 2 ≤ k) (h1 : k ≤ 30) (h : need n ≤ k - 2) (hn : 0 ≤ n ∧ n ≤ 6144) : Inv (S2 k (newB (cut8 n) ⟨#[]⟩)) 1 ∧ InvL (S2 k (newB (cut8 n) ⟨#[]⟩)) 1 := by
  have h2 := bytes_inv (D := 10) (l := [fileN]) (c := cut8 n) (invS1 k h0 h1).1 (invS1 k h0 h1).2 (fun h => by cases h) (fun _ _ => hn)
  rw [cut_ok k n h0 h1 h] at h2
  exact h2
theorem invS3 (k n : Int) (h0 : 2 ≤ k) (h1 : k ≤ 30) (h : need n ≤ k - 2) (hn : 0 ≤ n ∧ n ≤ 6144) : Inv (S3 k (newB (cut8 n) ⟨#[]⟩)) 1 := by
  have h2 := (unlink_inv (l := [fileN]) (invS2 k n h0 h1 h hn).1 (invS2 k n h0 h1 h hn).2 (by simp)).1
  rw [ul3] at h2
  exact h2
theorem rdF1 (mx : Int) : Reads0 mkF mx [fileN] [] := reads_one mkF mx _ _ (by rw [show mkF.path = fileP from rfl, spF]; rfl) (by rw [show mkF.dest = ⟨#[]⟩ from rfl, sp0]; rfl) fun W hm => read_a_okNE1 mkF mx hm rfl rfl rfl rfl rfl rfl rfl rfl rfl rfl _ spF (by simp)
theorem rdF8 (mx n : Int) (hn : 0 ≤ n ∧ n ≤ 6144) : Reads0 (cut8 n) mx [fileN] [] := reads_one (cut8 n) mx _ _ (by rw [show (cut8 n).path = fileP from rfl, spF]; rfl) (by rw [show (cut8 n).dest = ⟨#[]⟩ from rfl, sp0]; rfl) fun W hm => read_u_ok (cut8 n) mx hm rfl rfl rfl rfl rfl rfl rfl rfl rfl rfl (decide_eq_false (by show ¬ n < 0; omega)) (decide_eq_false (by show ¬ 6144 < n; omega)) _ spF
theorem rdF4 (mx : Int) : Reads0 rmF mx [fileN] [] := reads_one rmF mx _ _ (by rw [show rmF.path = fileP from rfl, spF]; rfl) (by rw [show rmF.dest = ⟨#[]⟩ from rfl, sp0]; rfl) fun W hm => read_a_okNE1 rmF mx hm rfl rfl rfl rfl rfl rfl rfl rfl rfl rfl _ spF (by simp)
theorem need_tdiv (n : Nat) (h : n ≤ 6144) : need n = Int.tdiv n 512 + (if Int.tmod n 512 > 0 then 1 else 0) := by
  rw [Int.tdiv_eq_ediv_of_nonneg (by omega), Int.tmod_eq_emod_of_nonneg (by omega)]
  unfold need
  split <;> split <;> omega
theorem small2 : ∀ s ∈ [fileN], s.size ≤ 100 := small1 fileN (by decide)
theorem small3 : ∀ s ∈ [fileN], s.size ≤ 1000000 := fun s hs => by have := small2 s hs; omega
section
variable {w : World}
set_option maxRecDepth 100000 in
set_option maxHeartbeats 8000000 in
theorem law_space (size room : Int) (hz : -9223372036854775808 ≤ size ∧ size ≤ 9223372036854775807) (hr : -9223372036854775808 ≤ room ∧ room ≤ 9223372036854775807) (mx : Int) (hmx : w.cell? ⟨0, 0, none⟩ = some (.int .i64 mx)) : Calls Tryd.prog 4 #[.int .i64 size, .int .i64 room] w fun e w' => e = .returned (.bool true) ∧ Below w.heap.size w w' := by
  have HMX := Lib.hid hmx
  have h0lt : 0 < w.heap.size := World.block_lt_of_cell? _ _ hmx
  have haw := awake_any mx hmx
  have ta1 := Int.tmod_lt_of_pos size (show (0:Int) < 6145 by omega)
  have ta2 := Int.lt_tmod_of_pos size (show (0:Int) < 6145 by omega)
  have tb1 := Int.tmod_lt_of_pos room (show (0:Int) < 31 by omega)
  have tb2 := Int.lt_tmod_of_pos room (show (0:Int) < 31 by omega)
  clear hmx
  go_enter Tryd.func4, Tryd.ntmps4
  go_wp2_with fail
  refine haw.mono ?_
  rintro e w1 ⟨rfl, b1⟩
  have BL1 := Lib.hid b1
  have hsz1 := b1.size
  clear haw b1
  go_upto_if 18 with (fail)
  go_cut [6] (fun s w' => ∃ x : Nat, s = .int .i64 x ∧ x ≤ 6144 ∧ w1 = w')
  case first =>
    go_wp2_with fail
    all_goals go_meet
    · exact ⟨(-size.tmod 6145).toNat, vint (by omega), by omega, rfl⟩
    · exact ⟨(size.tmod 6145).toNat, vint (by omega), by omega, rfl⟩
  case rest =>
  obtain ⟨n, rfl, hn, rfl⟩ := hcut
  go_upto_if 24 with (fail)
  go_cut [7] (fun s w' => ∃ x : Nat, s = .int .i64 x ∧ x ≤ 30 ∧ w1 = w')
  case first =>
    go_wp2_with fail
    all_goals go_meet
    · exact ⟨(-room.tmod 31).toNat, vint (by omega), by omega, rfl⟩
    · exact ⟨(room.tmod 31).toNat, vint (by omega), by omega, rfl⟩
  case rest =>
  obtain ⟨k, rfl, hk, rfl⟩ := hcut
  clear ta1 ta2 tb1 tb2 hz hr
  have hnew := new_TA (k : Int) w1 w.heap.size [] hsz1 (by simp)
  go_wp2_with fail
  refine hnew.mono ?_
  rintro e w2 ⟨rfl, b2, ta⟩
  have TA2 : Hid (TA w2 w.heap.size w1.heap.size (newS k 0) []) := Lib.hid ta
  have BL2 := Lib.hid (BL1.out.trans (b2.mono hsz1))
  have hs2 : w1.heap.size < w2.heap.size := ta.lt
  clear hnew b2 ta
  by_cases hk2 : k < 2
  · have HR2 : Hid (∀ b ∈ [], b < w2.heap.size) := Lib.hid (by
      intro b hb
      simp only [List.mem_cons, List.not_mem_nil, or_false] at hb
      skip)
    have hm2 : w2.cell? ⟨0, 0, none⟩ = some (.int .i64 mx) := (BL2.out.cell (p := ⟨0, 0, none⟩) h0lt).trans HMX.out
    have hst2 := makes_TA TA2.out HR2.out BL2.out.size (new_inv k) (D := 10) (by omega) (by omega) mkF mx hm2 [fileN] [] (rdF1 mx) (by simp) (by simp) small2 (.inl rfl) 15 (mk_no k (by omega) (by omega))
    unfold failR repV at hst2
    unfold mkF fileP callV at hst2
    dsimp only at hst2
    clear hm2
    go_wp2_with fail
    refine hst2.mono ?_
    rintro e w3 ⟨A3, m3, k3, rfl, ta, fr⟩
    have TB3 := Lib.hid ta
    have BB3 := Lib.hid (Fr.low_of fr BL2.out rfl)
    have FR3 := Lib.hid fr
    have hsz3 := fr.size
    clear hst2 ta fr
    obtain ⟨w4, hw4, bx, qx⟩ := open1 w3 #[.int .i64 15, .string ⟨#[]⟩, .slice A3 m3 k3, .int .i64 0, .int .i64 0, .int .i64 0, .int .i64 0] 29
    have hy3 : w4.setCell ⟨w3.heap.size, 3, none⟩ (.int .i64 0) = w4 := rep_same qx 3 _ rfl
    have hy4 : w4.setCell ⟨w3.heap.size, 4, none⟩ (.int .i64 0) = w4 := rep_same qx 4 _ rfl
    have hy5 : w4.setCell ⟨w3.heap.size, 5, none⟩ (.int .i64 0) = w4 := rep_same qx 5 _ rfl
    have hy6 : w4.setCell ⟨w3.heap.size, 6, none⟩ (.int .i64 0) = w4 := rep_same qx 6 _ rfl
    have hz3 := qx.cell 3; have hz4 := qx.cell 4; have hz5 := qx.cell 5; have hz6 := qx.cell 6
    simp only [List.getElem?_toArray, List.getElem?_cons_zero, List.getElem?_cons_succ] at hz3 hz4 hz5 hz6
    have hzf : ∀ j, w4.frozen? ⟨w3.heap.size, j, none⟩ = false := fun j => qx.frozen j
    have TA4 : Hid (TA w4 w.heap.size w1.heap.size (newS k 0) [w3.heap.size]) := Lib.hid (TB3.out.more.low bx)
    have BL4 := Lib.hid (BB3.out.trans (bx.mono BB3.out.size))
    have Q3_4 := Lib.hid qx
    have hs4 : w3.heap.size < w4.heap.size := qx.lt
    clear bx qx TA2 TB3 FR3 BL2 BB3
    have e3 := Q3_4.out.cell 0
    simp only [List.getElem?_toArray, List.getElem?_cons_zero] at e3
    have hk2' : decide ((k : Int) < 2) = true := by rw [decide_eq_true_eq]; omega
    have hf := free_TA TA4.out (new_inv k) (D := 10) (by omega) (by omega)
    rw [fr0, show min (max (k : Int) 0) 1099511627776 - 0 - 0 = (k : Int) by omega] at hf
    go_wp2_with fail
    refine hf.mono ?_
    rintro e wz ⟨rfl, bz⟩
    have BLz := Lib.hid (BL4.out.trans (bz.mono BL4.out.size))
    clear hf bz
    go_wp2_with fail
    go_ret
    exact ⟨rfl, BLz.out⟩
  · have HR2 : Hid (∀ b ∈ [], b < w2.heap.size) := Lib.hid (by
      intro b hb
      simp only [List.mem_cons, List.not_mem_nil, or_false] at hb
      skip)
    have hm2 : w2.cell? ⟨0, 0, none⟩ = some (.int .i64 mx) := (BL2.out.cell (p := ⟨0, 0, none⟩) h0lt).trans HMX.out
    have hst2 := makes_TA TA2.out HR2.out BL2.out.size (new_inv k) (D := 10) (by omega) (by omega) mkF mx hm2 [fileN] [] (rdF1 mx) (by simp) (by simp) small2 (.inl rfl) 0 (mk_ok k (by omega) (by omega))
    unfold failR repV at hst2
    unfold mkF fileP callV at hst2
    dsimp only at hst2
    clear hm2
    go_wp2_with fail
    refine hst2.mono ?_
    rintro e w3 ⟨A3, m3, k3, rfl, ta, fr⟩
    have TB3 := Lib.hid ta
    have BB3 := Lib.hid (Fr.low_of fr BL2.out rfl)
    have FR3 := Lib.hid fr
    have hsz3 := fr.size
    clear hst2 ta fr
    obtain ⟨w4, hw4, bx, qx⟩ := open1 w3 #[.int .i64 0, .string ⟨#[]⟩, .slice A3 m3 k3, .int .i64 0, .int .i64 0, .int .i64 0, .int .i64 0] 29
    have hy3 : w4.setCell ⟨w3.heap.size, 3, none⟩ (.int .i64 0) = w4 := rep_same qx 3 _ rfl
    have hy4 : w4.setCell ⟨w3.heap.size, 4, none⟩ (.int .i64 0) = w4 := rep_same qx 4 _ rfl
    have hy5 : w4.setCell ⟨w3.heap.size, 5, none⟩ (.int .i64 0) = w4 := rep_same qx 5 _ rfl
    have hy6 : w4.setCell ⟨w3.heap.size, 6, none⟩ (.int .i64 0) = w4 := rep_same qx 6 _ rfl
    have hz3 := qx.cell 3; have hz4 := qx.cell 4; have hz5 := qx.cell 5; have hz6 := qx.cell 6
    simp only [List.getElem?_toArray, List.getElem?_cons_zero, List.getElem?_cons_succ] at hz3 hz4 hz5 hz6
    have hzf : ∀ j, w4.frozen? ⟨w3.heap.size, j, none⟩ = false := fun j => qx.frozen j
    have TA4 : Hid (TA w4 w.heap.size w1.heap.size (S1 k) [w3.heap.size]) := Lib.hid (TB3.out.more.low bx)
    have BL4 := Lib.hid (BB3.out.trans (bx.mono BB3.out.size))
    have Q3_4 := Lib.hid qx
    have hs4 : w3.heap.size < w4.heap.size := qx.lt
    clear bx qx TA2 TB3 FR3 BL2 BB3
    have hk2' : decide ((k : Int) < 2) = false := by rw [decide_eq_false_iff_not]; omega
    have hk0 : (2 : Int) ≤ k := by omega
    have hk30 : (k : Int) ≤ 30 := by omega
    have hnd := need_tdiv n hn
    have htd : Int.tdiv (n : Int) 512 = (n : Int) / 512 := Int.tdiv_eq_ediv_of_nonneg (by omega)
    have htm : Int.tmod (n : Int) 512 = (n : Int) % 512 := Int.tmod_eq_emod_of_nonneg (by omega)
    have hn6 : (0 : Int) ≤ n ∧ (n : Int) ≤ 6144 := by omega
    have hnb := need_bd (n : Int) (by omega)
    go_upto_if 52 with (fail)
    clear hw4 hy3 hy4 hy5 hy6 hz3 hz4 hz5 hz6 hzf
    go_cut [10] (fun s w' => s = .int .i64 (need n) ∧ w4 = w')
    case first =>
      go_wp2_with fail
      all_goals go_meet
      · exact ⟨vint (by rw [hnd]; split <;> omega), rfl⟩
      · exact ⟨vint (by rw [hnd]; split <;> omega), rfl⟩
    case rest =>
    obtain ⟨rfl, rfl⟩ := hcut
    clear hnd htd htm
    generalize hnn : need (n : Int) = nn at *
    have HNN := Lib.hid hnn
    clear hnn
    by_cases hful : (k : Int) - 2 < nn
    · have HR4 : Hid (∀ b ∈ [w3.heap.size], b < w4.heap.size) := Lib.hid (by
        intro b hb
        simp only [List.mem_cons, List.not_mem_nil, or_false] at hb
        omega)
      have hm4 : w4.cell? ⟨0, 0, none⟩ = some (.int .i64 mx) := (BL4.out.cell (p := ⟨0, 0, none⟩) h0lt).trans HMX.out
      have hst4 := bytes_TA TA4.out HR4.out BL4.out.size (invS1 k hk0 hk30).1 (D := 10) (by omega) (by omega) (cut8 n) mx hm4 [fileN] [] (rdF8 mx n hn6) (by simp) small3 (.inr (.inr rfl)) (fun h => by cases h) (fun h => by cases h) (fun _ _ => hn6) (failR 15) (cut_no k n hk0 hk30 (by rw [HNN.out]; exact hful))
      unfold failR repV at hst4
      unfold cut8 fileP callV at hst4
      dsimp only at hst4
      clear hm4
      go_wp2_with fail
      refine hst4.mono ?_
      rintro e w5 ⟨A5, m5, k5, rfl, ta, fr⟩
      have TB5 := Lib.hid ta
      have BB5 := Lib.hid (Fr.low_of fr BL4.out rfl)
      have FR5 := Lib.hid fr
      have hsz5 := fr.size
      clear hst4 ta fr
      have Q3_5 := Lib.hid (FR5.out.blk Q3_4.out (by simp))
      clear Q3_4
      obtain ⟨w6, hw6, bx, qx⟩ := open1 w5 #[.int .i64 15, .string ⟨#[]⟩, .slice A5 m5 k5, .int .i64 0, .int .i64 0, .int .i64 0, .int .i64 0] 29
      have hy3 : w6.setCell ⟨w5.heap.size, 3, none⟩ (.int .i64 0) = w6 := rep_same qx 3 _ rfl
      have hy4 : w6.setCell ⟨w5.heap.size, 4, none⟩ (.int .i64 0) = w6 := rep_same qx 4 _ rfl
      have hy5 : w6.setCell ⟨w5.heap.size, 5, none⟩ (.int .i64 0) = w6 := rep_same qx 5 _ rfl
      have hy6 : w6.setCell ⟨w5.heap.size, 6, none⟩ (.int .i64 0) = w6 := rep_same qx 6 _ rfl
      have hz3 := qx.cell 3; have hz4 := qx.cell 4; have hz5 := qx.cell 5; have hz6 := qx.cell 6
      simp only [List.getElem?_toArray, List.getElem?_cons_zero, List.getElem?_cons_succ] at hz3 hz4 hz5 hz6
      have hzf : ∀ j, w6.frozen? ⟨w5.heap.size, j, none⟩ = false := fun j => qx.frozen j
      have TA6 : Hid (TA w6 w.heap.size w1.heap.size (S1 k) (w5.heap.size :: [w3.heap.size])) := Lib.hid (TB5.out.more.low bx)
      have BL6 := Lib.hid (BB5.out.trans (bx.mono BB5.out.size))
      have Q5_6 := Lib.hid qx
      have hs6 : w5.heap.size < w6.heap.size := qx.lt
      have Q3_6 := Lib.hid (Q3_5.out.below bx Q3_5.out.lt)
      clear Q3_5
      clear bx qx TA4 TB5 FR5 BL4 BB5
      have e3 := Q3_6.out.cell 0
      simp only [List.getElem?_toArray, List.getElem?_cons_zero] at e3
      have e5 := Q5_6.out.cell 0
      simp only [List.getElem?_toArray, List.getElem?_cons_zero] at e5
      have hd2 : decide ((k : Int) - 2 < nn) = true := decide_eq_true hful
      have hwk : IntKind.i64.wrap ((k : Int) - 2) = (k : Int) - 2 := by rw [IntKind.wrap_i64]; omega
      have hf := free_TA TA6.out (invS1 k hk0 hk30).1 (D := 10) (by omega) (by omega)
      rw [fr1, show min (max (k : Int) 0) 1099511627776 - 1 - 1 = (k : Int) - 2 by omega] at hf
      go_wp2_with fail
      refine hf.mono ?_
      rintro e wz ⟨rfl, bz⟩
      have BLz := Lib.hid (BL6.out.trans (bz.mono BL6.out.size))
      clear hf bz
      go_wp2_with fail
      go_ret
      exact ⟨rfl, BLz.out⟩
    · have HR4 : Hid (∀ b ∈ [w3.heap.size], b < w4.heap.size) := Lib.hid (by
        intro b hb
        simp only [List.mem_cons, List.not_mem_nil, or_false] at hb
        omega)
      have hm4 : w4.cell? ⟨0, 0, none⟩ = some (.int .i64 mx) := (BL4.out.cell (p := ⟨0, 0, none⟩) h0lt).trans HMX.out
      have hst4 := bytes_TA TA4.out HR4.out BL4.out.size (invS1 k hk0 hk30).1 (D := 10) (by omega) (by omega) (cut8 n) mx hm4 [fileN] [] (rdF8 mx n hn6) (by simp) small3 (.inr (.inr rfl)) (fun h => by cases h) (fun h => by cases h) (fun _ _ => hn6) (failR 0) (cut_ok k n hk0 hk30 (by rw [HNN.out]; omega))
      unfold failR repV at hst4
      unfold cut8 fileP callV at hst4
      dsimp only at hst4
      clear hm4
      go_wp2_with fail
      refine hst4.mono ?_
      rintro e w5 ⟨A5, m5, k5, rfl, ta, fr⟩
      have TB5 := Lib.hid ta
      have BB5 := Lib.hid (Fr.low_of fr BL4.out rfl)
      have FR5 := Lib.hid fr
      have hsz5 := fr.size
      clear hst4 ta fr
      have Q3_5 := Lib.hid (FR5.out.blk Q3_4.out (by simp))
      clear Q3_4
      obtain ⟨w6, hw6, bx, qx⟩ := open1 w5 #[.int .i64 0, .string ⟨#[]⟩, .slice A5 m5 k5, .int .i64 0, .int .i64 0, .int .i64 0, .int .i64 0] 29
      have hy3 : w6.setCell ⟨w5.heap.size, 3, none⟩ (.int .i64 0) = w6 := rep_same qx 3 _ rfl
      have hy4 : w6.setCell ⟨w5.heap.size, 4, none⟩ (.int .i64 0) = w6 := rep_same qx 4 _ rfl
      have hy5 : w6.setCell ⟨w5.heap.size, 5, none⟩ (.int .i64 0) = w6 := rep_same qx 5 _ rfl
      have hy6 : w6.setCell ⟨w5.heap.size, 6, none⟩ (.int .i64 0) = w6 := rep_same qx 6 _ rfl
      have hz3 := qx.cell 3; have hz4 := qx.cell 4; have hz5 := qx.cell 5; have hz6 := qx.cell 6
      simp only [List.getElem?_toArray, List.getElem?_cons_zero, List.getElem?_cons_succ] at hz3 hz4 hz5 hz6
      have hzf : ∀ j, w6.frozen? ⟨w5.heap.size, j, none⟩ = false := fun j => qx.frozen j
      have TA6 : Hid (TA w6 w.heap.size w1.heap.size (S2 k (newB (cut8 n) ⟨#[]⟩)) (w5.heap.size :: [w3.heap.size])) := Lib.hid (TB5.out.more.low bx)
      have BL6 := Lib.hid (BB5.out.trans (bx.mono BB5.out.size))
      have Q5_6 := Lib.hid qx
      have hs6 : w5.heap.size < w6.heap.size := qx.lt
      have Q3_6 := Lib.hid (Q3_5.out.below bx Q3_5.out.lt)
      clear Q3_5
      clear bx qx TA4 TB5 FR5 BL4 BB5
      have hneed : need n ≤ (k : Int) - 2 := by rw [HNN.out]; omega
      have HND := Lib.hid hneed
      clear hneed
      have hd2 : decide ((k : Int) - 2 < nn) = false := by rw [decide_eq_false_iff_not]; omega
      have hwk : IntKind.i64.wrap ((k : Int) - 2) = (k : Int) - 2 := by rw [IntKind.wrap_i64]; omega
      have hdz : ((newB (cut8 n) ⟨#[]⟩).size : Int) = n := by
        rw [newB_size (cut8 n) ⟨#[]⟩ (fun h => by cases h) (fun _ => hn6)]; rfl
      have hf := free_TA TA6.out (invS2 k n hk0 hk30 HND.out hn6).1 (D := 10) (by omega) (by omega)
      rw [fr2, hdz, HNN.out, show min (max (k : Int) 0) 1099511627776 - 1 - (1 + nn + 0) = (k : Int) - 2 - nn by omega] at hf
      clear hdz
      go_wp2_with fail
      clear hw6 hy3 hy4 hy5 hy6 hz3 hz4 hz5 hz6 hzf
      refine hf.mono ?_
      rintro e w7 ⟨rfl, bz⟩
      have TA7 := Lib.hid (TA6.out.low bz)
      have BL7 := Lib.hid (BL6.out.trans (bz.mono BL6.out.size))
      have Q3_7 := Lib.hid (Q3_6.out.below bz Q3_6.out.lt)
      have Q5_7 := Lib.hid (Q5_6.out.below bz Q5_6.out.lt)
      have hs7 := bz.size
      clear hf bz TA6 BL6 Q3_6 Q5_6
      have HR7 : Hid (∀ b ∈ (w5.heap.size :: [w3.heap.size]), b < w7.heap.size) := Lib.hid (by
        intro b hb
        simp only [List.mem_cons, List.not_mem_nil, or_false] at hb
        omega)
      have hm7 : w7.cell? ⟨0, 0, none⟩ = some (.int .i64 mx) := (BL7.out.cell (p := ⟨0, 0, none⟩) h0lt).trans HMX.out
      have hst7 := unlink_TA TA7.out HR7.out BL7.out.size (invS2 k n hk0 hk30 HND.out hn6).1 (invS2 k n hk0 hk30 HND.out hn6).2 (by omega) rmF mx hm7 [fileN] [] (rdF4 mx) (by simp) (by simp) small3 rfl 0 (ul3 k _)
      unfold failR repV at hst7
      unfold rmF fileP callV at hst7
      dsimp only at hst7
      clear hm7
      go_wp2_with fail
      refine hst7.mono ?_
      rintro e w8 ⟨A8, m8, k8, rfl, ta, fr⟩
      have TB8 := Lib.hid ta
      have BB8 := Lib.hid (Fr.low_of fr BL7.out rfl)
      have FR8 := Lib.hid fr
      have hsz8 := fr.size
      clear hst7 ta fr
      have Q3_8 := Lib.hid (FR8.out.blk Q3_7.out (by simp))
      clear Q3_7
      have Q5_8 := Lib.hid (FR8.out.blk Q5_7.out (by simp))
      clear Q5_7
      obtain ⟨w9, hw9, bx, qx⟩ := open1 w8 #[.int .i64 0, .string ⟨#[]⟩, .slice A8 m8 k8, .int .i64 0, .int .i64 0, .int .i64 0, .int .i64 0] 29
      have hy3 : w9.setCell ⟨w8.heap.size, 3, none⟩ (.int .i64 0) = w9 := rep_same qx 3 _ rfl
      have hy4 : w9.setCell ⟨w8.heap.size, 4, none⟩ (.int .i64 0) = w9 := rep_same qx 4 _ rfl
      have hy5 : w9.setCell ⟨w8.heap.size, 5, none⟩ (.int .i64 0) = w9 := rep_same qx 5 _ rfl
      have hy6 : w9.setCell ⟨w8.heap.size, 6, none⟩ (.int .i64 0) = w9 := rep_same qx 6 _ rfl
      have hz3 := qx.cell 3; have hz4 := qx.cell 4; have hz5 := qx.cell 5; have hz6 := qx.cell 6
      simp only [List.getElem?_toArray, List.getElem?_cons_zero, List.getElem?_cons_succ] at hz3 hz4 hz5 hz6
      have hzf : ∀ j, w9.frozen? ⟨w8.heap.size, j, none⟩ = false := fun j => qx.frozen j
      have TA9 : Hid (TA w9 w.heap.size w1.heap.size (S3 k (newB (cut8 n) ⟨#[]⟩)) (w8.heap.size :: (w5.heap.size :: [w3.heap.size]))) := Lib.hid (TB8.out.more.low bx)
      have BL9 := Lib.hid (BB8.out.trans (bx.mono BB8.out.size))
      have Q8_9 := Lib.hid qx
      have hs9 : w8.heap.size < w9.heap.size := qx.lt
      have Q3_9 := Lib.hid (Q3_8.out.below bx Q3_8.out.lt)
      clear Q3_8
      have Q5_9 := Lib.hid (Q5_8.out.below bx Q5_8.out.lt)
      clear Q5_8
      clear bx qx TA7 TB8 FR8 BL7 BB8
      have e3 := Q3_9.out.cell 0
      simp only [List.getElem?_toArray, List.getElem?_cons_zero] at e3
      have e5 := Q5_9.out.cell 0
      simp only [List.getElem?_toArray, List.getElem?_cons_zero] at e5
      have e8 := Q8_9.out.cell 0
      simp only [List.getElem?_toArray, List.getElem?_cons_zero] at e8
      have hwn : IntKind.i64.wrap ((k : Int) - 2 - nn) = (k : Int) - 2 - nn := by rw [IntKind.wrap_i64]; omega
      have hf := free_TA TA9.out (invS3 k n hk0 hk30 HND.out hn6) (D := 10) (by omega) (by omega)
      rw [fr3, show min (max (k : Int) 0) 1099511627776 - 0 - 0 = (k : Int) by omega] at hf
      go_wp2_with fail
      refine hf.mono ?_
      rintro e wz ⟨rfl, bz⟩
      have BLz := Lib.hid (BL9.out.trans (bz.mono BL9.out.size))
      clear hf bz
      go_wp2_with fail
      go_ret
      exact ⟨rfl, BLz.out⟩
end
end Go.Proofs.YtglglbbjacgbdaaDoor
