import Derived.Test.YtepmgcgpioljiaaInD
namespace Go.Proofs.Ytepmgcgpioljiaa
open Go.RowKit
set_option linter.unusedVariables false
attribute [local go_sem] b_max2 b_min2 b_max b_min

theorem pcs_count (e : Nat) : ∀ (d a : Nat), e - a = d → a < e → (pcs e a).length = (e - 1) / 512 - a / 512 + 1 := by
  intro d
  induction d using Nat.strongRecOn with
  | ind d ih =>
    intro a hd h
    rw [pcs_step h, List.length_cons]
    by_cases h2 : a + (min (a % 512 + (e - a)) 512 - a % 512) < e
    · rw [ih _ (by omega) _ rfl h2]; omega
    · rw [pcs_end h2]; simp; omega
theorem pieces_need (y : Nat) (h : y ≤ 6144) : (((pieces 0 y).length : Nat) : Int) = need y := by
  unfold pieces need
  rw [show (min (max (0 : Int) 0) 6144).toNat = 0 by decide, show (min (y : Int) 6144).toNat = y by omega]
  by_cases hy : y = 0
  · subst hy; rw [pcs_end (by omega)]; simp
  · rw [pcs_count y _ 0 rfl (by omega), if_neg (by omega)]; omega

set_option maxRecDepth 100000 in
set_option maxHeartbeats 400000 in
theorem law_needs (a b : Int) (w : World) (h0 : -9223372036854775808 ≤ a) (h0' : a ≤ 9223372036854775807) (h1 : -9223372036854775808 ≤ b) (h1' : b ≤ 9223372036854775807) :
    Calls Try.prog 4 #[.int .i64 a, .int .i64 b] w fun e w' => e = .returned (.bool true) ∧ Below w.heap.size w w' := by
  have ta1 := Int.tmod_lt_of_pos a (show (0:Int) < 6145 by omega)
  have ta2 := Int.lt_tmod_of_pos a (show (0:Int) < 6145 by omega)
  have tb1 := Int.tmod_lt_of_pos b (show (0:Int) < 6145 by omega)
  have tb2 := Int.lt_tmod_of_pos b (show (0:Int) < 6145 by omega)
  go_enter Try.func4, Try.ntmps4
  go_wp2_with fail
  refine (awake_any _).mono ?_
  rintro e w1 ⟨rfl, hb1⟩
  go_upto_if 14 with (fail)
  go_cut [6] (fun s w' => ∃ x : Nat, s = .int .i64 x ∧ x ≤ 6144 ∧ w1 = w')
  case first =>
    go_wp2
    all_goals go_meet
    · exact ⟨(-a.tmod 6145).toNat, vint (by omega), by omega, rfl⟩
    · exact ⟨(a.tmod 6145).toNat, vint (by omega), by omega, rfl⟩
  case rest =>
  obtain ⟨x, rfl, hx, rfl⟩ := hcut
  go_upto_if 20 with (fail)
  go_cut [7] (fun s w' => ∃ x : Nat, s = .int .i64 x ∧ x ≤ 6144 ∧ w1 = w')
  case first =>
    go_wp2
    all_goals go_meet
    · exact ⟨(-b.tmod 6145).toNat, vint (by omega), by omega, rfl⟩
    · exact ⟨(b.tmod 6145).toNat, vint (by omega), by omega, rfl⟩
  case rest =>
  obtain ⟨y, rfl, hy, rfl⟩ := hcut
  go_upto_if 25 with (fail)
  go_cut [6, 7, 8] (fun s t _ w' => ∃ x y : Nat, s = .int .i64 x ∧ t = .int .i64 y ∧ x ≤ y ∧ y ≤ 6144 ∧ w1 = w')
  case first =>
    go_wp2
    all_goals go_meet
    · exact ⟨y, x, rfl, rfl, by omega, by omega, rfl⟩
    · exact ⟨x, y, rfl, rfl, by omega, by omega, rfl⟩
  case rest =>
  obtain ⟨x', y', rfl, rfl, hxy, hy', rfl⟩ := hcut
  clear hx hy x y
  go_wp2_with fail
  refine (pieces_any 0 y' _ (by omega) (by omega) (by omega) (by omega)).mono ?_
  rintro e w2 ⟨v2, rfl, hown2, hb2⟩
  obtain ⟨A2, c2, rfl, hc2, hr2⟩ := Reads.of_own hown2
  have hl := Lib.hid (pieces_need y' hy')
  have e1 : decide (need ↑x' ≤ need ↑y') = true := by unfold need; rw [decide_eq_true_eq]; split <;> split <;> omega
  have e2 : (need (↑x' + 512) == need ↑x' + 1) = true := by unfold need; rw [beq_iff_eq]; split <;> split <;> omega
  generalize (pieces 0 y').length = L at *
  go_wp2_with fail
  refine (need_any _ _ (by omega) (by omega)).mono ?_
  rintro e w4 ⟨rfl, rfl⟩
  go_wp2_with fail
  refine (need_any _ _ (by omega) (by omega)).mono ?_
  rintro e w4 ⟨rfl, rfl⟩
  go_wp2_with fail
  refine (need_any _ _ (by omega) (by omega)).mono ?_
  rintro e w4 ⟨rfl, rfl⟩
  go_wp2_with fail
  refine (need_any _ _ (by omega) (by omega)).mono ?_
  rintro e w4 ⟨rfl, rfl⟩
  have nb : 0 ≤ need ↑x' ∧ need ↑x' ≤ 6144 := by unfold need; split <;> omega
  have nb1 := nb.1
  have nb2 := nb.2
  clear nb
  go_wp2_with fail
  refine (need_any _ _ (by omega) (by omega)).mono ?_
  rintro e w4 ⟨rfl, rfl⟩
  have e3 : ((L : Int) == need ↑y') = true := by rw [beq_iff_eq]; exact hl.out
  go_wp2
  go_ret
  exact ⟨rfl, hb1.trans (hb2.mono hb1.size)⟩
end Go.Proofs.Ytepmgcgpioljiaa
