import Derived.Test.YtikblgnpabonjaaBaJ
namespace Go.Proofs.Ytikblgnpabonjaa
open Go.RowKit
set_option linter.unusedVariables false
attribute [local go_sem] b_max2 b_min2 b_max b_min

/-- only the link from 3 to 4 has messages: n empty ones -/
def L34 (n : Nat) : List (List ByteArray) := (List.replicate 64 []).set 28 (List.replicate n ⟨#[]⟩)
theorem L34_lk (n : Nat) : lk (L34 n) 3 4 = List.replicate n ⟨#[]⟩ := by simp [lk, L34, List.getD_eq_getElem?_getD]
theorem u8_info : (Try.prog.info? 5).map (fun i => (i.zero, i.size, i.bytes)) = some (some (.int .u8 0), 1, 1) := by kernel_rfl
theorem L34_send (n : Nat) (h : n < 200) : fSend (L34 n) 3 4 ⟨#[]⟩ = L34 (n + 1) ∧ canSend (L34 n) 3 4 ⟨#[]⟩ = true := by
  have hc : canSend (L34 n) 3 4 ⟨#[]⟩ = true := by
    simp only [canSend, show (3 : Int).toNat = 3 from rfl, show (4 : Int).toNat = 4 from rfl, L34_lk, List.length_replicate, Bool.and_eq_true, decide_eq_true_eq]
    exact ⟨⟨by decide, by decide⟩, h⟩
  refine ⟨?_, hc⟩
  rw [fSend, hc, if_pos rfl]
  simp only [show (3 : Int).toNat = 3 from rfl, show (4 : Int).toNat = 4 from rfl, L34_lk]
  unfold L34
  rw [show 3 * 8 + 4 = 28 from rfl, List.set_set, List.replicate_succ' (n := n)]
theorem L34_full : canSend (L34 200) 3 4 ⟨#[]⟩ = false ∧ fSend (L34 200) 3 4 ⟨#[]⟩ = L34 200 := by
  have hc : canSend (L34 200) 3 4 ⟨#[]⟩ = false := by
    simp only [canSend, show (3 : Int).toNat = 3 from rfl, show (4 : Int).toNat = 4 from rfl, L34_lk, List.length_replicate]
    simp
  exact ⟨hc, by rw [fSend, hc, if_neg (by simp)]⟩
theorem L34_double (n : Nat) (hn : 0 < n) : canDouble (L34 n) 3 4 = decide (n < 200) := by
  simp only [canDouble, show (3 : Int).toNat = 3 from rfl, show (4 : Int).toNat = 4 from rfl, L34_lk, List.length_replicate]
  rw [show decide (isL 3 4) = true by decide, Bool.true_and]
  simp [hn]

set_option maxRecDepth 100000 in
set_option maxHeartbeats 1000000 in
theorem law_full (a b : Int) (w : World) (h0 : -9223372036854775808 ≤ a) (h0' : a ≤ 9223372036854775807) (h1 : -9223372036854775808 ≤ b) (h1' : b ≤ 9223372036854775807) :
    Calls Try.prog 4 #[.int .i64 a, .int .i64 b] w fun e w' => e = .returned (.bool true) ∧ Below w.heap.size w w' := by
  have ta1 := Int.tmod_lt_of_pos a (show (0:Int) < 20 by omega)
  have ta2 := Int.lt_tmod_of_pos a (show (0:Int) < 20 by omega)
  have tb1 := Int.tmod_lt_of_pos b (show (0:Int) < 21 by omega)
  have tb2 := Int.lt_tmod_of_pos b (show (0:Int) < 21 by omega)
  go_enter Try.func4, Try.ntmps4
  go_wp2_with fail
  refine (awake_any _).mono ?_
  rintro e w1 ⟨rfl, hb1⟩
  go_wp2_with fail
  refine (new_ls w _ hb1).mono ?_
  rintro e w2 ⟨g, rfl, s2, _, _, _⟩
  go_upto_if 20 with (fail)
  go_cut [7] (fun s w' => ∃ K : Nat, s = .int .i64 K ∧ K ≤ 19 ∧ w2 = w')
  case first =>
    go_wp2_with fail
    all_goals go_meet
    · exact ⟨(-a.tmod 20).toNat, vint (by omega), by omega, rfl⟩
    · exact ⟨(a.tmod 20).toNat, vint (by omega), by omega, rfl⟩
  case rest =>
  obtain ⟨K, rfl, hK, rfl⟩ := hcut
  clear ta1 ta2 h0 h0' hb1
  go_wp2_with fail
  go_loopw [8, 9] (fun v p wr => ∃ (i : Nat) (F : Nat → Prop), p = .int .i64 i ∧ i ≤ 190 + K ∧ v = .int .i64 (min i 200 : Nat) ∧ LS w wr g F (L34 (min i 200))) (fun _ p _ => 190 + K - (intOf p).toNat)
  case atStart => exact ⟨0, _, rfl, by omega, rfl, s2⟩
  case round =>
    clear s2
    obtain ⟨i, F, rfl, hi, rfl, hs⟩ := hrel
    by_cases hlt : i < 190 + K
    · by_cases hf : i < 200
      · obtain ⟨e1, e2⟩ := L34_send i hf
        rw [show min i 200 = i by omega] at hs ⊢
        have E1 := Lib.hid e1; have E2 := Lib.hid e2; clear e1 e2
        go_wp2_with fail
        refine (send_ls hs 3 4 ⟨#[]⟩ (by decide) true E2.out E1.out).mono ?_
        rintro e w4 ⟨rfl, s4, _⟩
        go_wp2_with fail
        go_roundw
        case rel => exact ⟨i + 1, _, vint (by omega), by omega, vint (by omega), by rw [show min (i + 1) 200 = i + 1 by omega]; exact s4⟩
        case measure => simp [intOf]; omega
      · obtain ⟨e1, e2⟩ := L34_full
        rw [show min i 200 = 200 by omega] at hs ⊢
        have E1 := Lib.hid e1; have E2 := Lib.hid e2; clear e1 e2
        go_wp2_with fail
        refine (send_ls hs 3 4 ⟨#[]⟩ (by decide) false E1.out E2.out).mono ?_
        rintro e w4 ⟨rfl, s4, _⟩
        go_wp2_with fail
        go_roundw
        case rel => exact ⟨i + 1, _, vint (by omega), by omega, vint (by omega), by rw [show min (i + 1) 200 = 200 by omega]; exact s4⟩
        case measure => simp [intOf]; omega
    · obtain rfl : i = 190 + K := by omega
      generalize hn : min (190 + K) 200 = n at *
      have hn2 : 190 ≤ n ∧ n ≤ 200 := by omega
      obtain ⟨n1, n2⟩ := hn2
      have HN := Lib.hid hn; clear hn
      go_upto_if 36 with (fail)
      go_cut [10] (fun s w' => s = .int .i64 n ∧ wr = w')
      case first =>
        have hn := HN.out; clear HN
        go_wp2_with fail
        all_goals go_meet
        · exact ⟨vint (by omega), rfl⟩
        · exact ⟨vint (by omega), rfl⟩
      case rest =>
      obtain ⟨rfl, rfl⟩ := hcut
      have ed := L34_double n (by omega)
      have ED := Lib.hid ed; clear ed
      go_wp2_with fail
      refine (double_ls hs 3 4 0 (by omega) (by omega) _ ED.out rfl).mono ?_
      rintro e w4 ⟨rfl, s4, _⟩
      go_upto_if 42 with (fail)
      go_cut [12] (fun s w' => ∃ M : Nat, s = .int .i64 M ∧ M ≤ 20 ∧ w4 = w')
      case first =>
        go_wp2_with fail
        all_goals go_meet
        · exact ⟨(-b.tmod 21).toNat, vint (by omega), by omega, rfl⟩
        · exact ⟨(b.tmod 21).toNat, vint (by omega), by omega, rfl⟩
      case rest =>
      obtain ⟨M, rfl, hM, rfl⟩ := hcut
      clear tb1 tb2 h1 h1'
      have q1 : ((n : Int) == (n : Int)) = true := by simp
      have q2 : (decide (n < 200) == decide ((n : Int) < 200)) = true := by rw [beq_iff_eq, decide_eq_decide]; omega
      go_wp2_with fail
      obtain ⟨i5, hi, hz0, hz1, hz2⟩ := info_parts u8_info
      obtain ⟨w5, hrun, hown, hgr⟩ := run_make_full (P := Try.prog) w4 0 40 5 i5 (.int .u8 0) 1 Try.underlying40 hi hz0 hz1 .i64 .i64 (1990 + M) (by rw [hz2]; omega) (by simp only [maxLen]; omega) (Nat.zero_le _)
      rw [show ((1990 + M : Nat) : Int) = 1990 + (M : Int) by omega] at hrun
      have hcell : ∀ i, i < 1990 + M → w5.cell? ⟨w4.heap.size, 0 + i, none⟩ = some (.int .u8 ((List.replicate (1990 + M) 0).getD i 0)) := by
        intro i hi
        rw [Nat.zero_add, hown.cellAt i (by omega)]
        rw [show (Value.int IntKind.u8 0).cells = #[.int .u8 0] from rfl, toList_madeCells_one, List.getElem?_replicate, if_pos (by omega)]
        simp [hi]
      have hconv := run_convert_bytes_arg (P := Try.prog) w5 40 5 Try.underlying40 (by kernel_rfl) w4.heap.size 0 (1990 + M) (1990 + M) (List.replicate (1990 + M) 0) (by simp) hcell 9 (by kernel_rfl)
      have hsz : (strOfNums (List.replicate (1990 + M) 0)).size = 1990 + M := by
        show ((List.replicate (1990 + M) 0).map _).toArray.size = _
        simp
      generalize strOfNums (List.replicate (1990 + M) 0) = S at *
      have s5 : LS w w5 g (Fup F wr w4) (fDouble (L34 n) 3 4 0) := s4.low ⟨hgr.os, hgr.tape, hgr.output, hgr.size, fun k hk => hgr.block k hk (by simp)⟩
      have hc : canSend (fDouble (L34 n) 3 4 0) 4 3 S = decide (M ≤ 10) := by
        have h1 : lk (fDouble (L34 n) 3 4 0) 4 3 = [] := by
          unfold fDouble
          split
          · rw [show (3 : Int).toNat * 8 + (4 : Int).toNat = 3 * 8 + 4 from rfl, lk_set' (by omega)]
            unfold L34 lk
            rw [List.getD_eq_getElem?_getD, List.getElem?_set, if_neg (by omega)]; rfl
          · unfold L34 lk
            rw [List.getD_eq_getElem?_getD, List.getElem?_set, if_neg (by omega)]; rfl
        simp only [canSend, show (3 : Int).toNat = 3 from rfl, show (4 : Int).toNat = 4 from rfl, h1, hsz]
        rw [show decide (isL 4 3) = true by decide]
        simp; omega
      have q3 : (decide (M ≤ 10) == decide ((M : Int) ≤ 10)) = true := by rw [beq_iff_eq, decide_eq_decide]; omega
      have HC := Lib.hid hc; have HS := Lib.hid hsz; clear hc hsz hcell hown hgr
      rw [hrun]
      clear hrun
      go_wp2_with fail
      refine (send_ls s5 4 3 S (by rw [HS.out]; omega) _ HC.out rfl).mono ?_
      rintro e w6 ⟨rfl, s6, _⟩
      go_wp2_with fail
      go_ret
      exact ⟨rfl, s6.b⟩
end Go.Proofs.Ytikblgnpabonjaa
