import Derived.Test.YtdjdplalifngmaaPuC
namespace Go.Proofs.Ytdjdplalifngmaa
open Go.RowKit
set_option linter.unusedVariables false
attribute [local go_sem] b_max2 b_min2 b_max b_min

theorem nil_bool (f : FuncId) : True := trivial
theorem watch_nil (n : Int) (w : World) : Calls Try.prog 10 #[.pointer none, .int .i64 n] w fun e w' => e = .returned (.bool false) ∧ w = w' := by
  go_enter Try.func10, Try.ntmps10
  go_wp2_with fail
  refine (get_out none n _ (.inr (.inr rfl))).mono ?_
  rintro e w1 ⟨rfl, rfl⟩
  go_wp2
  go_ret
  exact ⟨rfl, rfl⟩
theorem heard_nil (n : Int) (w : World) : Calls Try.prog 13 #[.pointer none, .int .i64 n] w fun e w' => e = .returned (.bool false) ∧ w = w' := by
  go_enter Try.func13, Try.ntmps13
  go_wp2_with fail
  refine (seen_out none n _ (.inr (.inr rfl))).mono ?_
  rintro e w1 ⟨rfl, rfl⟩
  go_wp2
  go_ret
  exact ⟨rfl, rfl⟩
theorem forget_nil (n : Int) (w : World) : Calls Try.prog 15 #[.pointer none, .int .i64 n] w fun e w' => e = .returned (.bool false) ∧ w = w' := by
  go_enter Try.func15, Try.ntmps15
  go_wp2_with fail
  refine (seen_out none n _ (.inr (.inr rfl))).mono ?_
  rintro e w1 ⟨rfl, rfl⟩
  go_wp2
  go_ret
  exact ⟨rfl, rfl⟩
theorem quiet_nil (n : Int) (w : World) : Calls Try.prog 14 #[.pointer none, .int .i64 n] w fun e w' => e = .returned (.int .i64 (-1)) ∧ w = w' := by
  go_enter Try.func14, Try.ntmps14
  go_wp2_with fail
  refine (seen_out none n _ (.inr (.inr rfl))).mono ?_
  rintro e w1 ⟨rfl, rfl⟩
  go_wp2
  go_ret
  exact ⟨rfl, rfl⟩
theorem tick_nil (w : World) : Calls Try.prog 11 #[.pointer none] w fun e w' => e = .returned (.tuple #[]) ∧ w = w' := by
  go_enter Try.func11, Try.ntmps11
  go_wp2_with fail
  go_loopw [2, 3, 4] (fun _ _ p wr => ∃ i : Nat, p = .int .i64 i ∧ i ≤ 8 ∧ w = wr) (fun _ _ p _ => 8 - (intOf p).toNat)
  case atStart => exact ⟨0, rfl, by omega, rfl⟩
  case round =>
    obtain ⟨i, rfl, hi, rfl⟩ := hrel
    by_cases hlt : i < 8
    · go_wp2_with fail
      refine (seen_out none i _ (.inr (.inr rfl))).mono ?_
      rintro e w1 ⟨rfl, rfl⟩
      go_wp2_with fail
      go_roundw
      case rel => exact ⟨i + 1, vint (by omega), by omega, by first | rfl | trivial⟩
      case measure => simp [intOf]; omega
    · go_wp2
      go_end0
      exact ⟨rfl, rfl⟩
theorem those_nil (w : World) (f : Value) : Calls Try.prog 25 #[.pointer none, f] w fun e w' => e = .returned (.slice none 0 0) ∧ w = w' := by
  go_enter Try.func25, Try.ntmps25
  go_wp2_with fail
  go_loopw [5, 6, 7, 8] (fun v _ _ p wr => ∃ i : Nat, p = .int .i64 i ∧ i ≤ 8 ∧ v = .slice none 0 0 ∧ w = wr) (fun _ _ _ p _ => 8 - (intOf p).toNat)
  case atStart => exact ⟨0, rfl, by omega, rfl, rfl⟩
  case round =>
    obtain ⟨i, rfl, hi, rfl, rfl⟩ := hrel
    by_cases hlt : i < 8
    · go_wp2_with fail
      refine (seen_out none i _ (.inr (.inr rfl))).mono ?_
      rintro e w1 ⟨rfl, rfl⟩
      go_wp2_with fail
      go_roundw
      case rel => exact ⟨i + 1, vint (by omega), by omega, by first | rfl | trivial, by first | rfl | trivial⟩
      case measure => simp [intOf]; omega
    · go_wp2
      go_ret
      exact ⟨rfl, rfl⟩
theorem watched_nil (w : World) : Calls Try.prog 21 #[.pointer none] w fun e w' => e = .returned (.slice none 0 0) ∧ w = w' := by
  go_enter Try.func21, Try.ntmps21
  go_wp2_with fail
  refine (those_nil _ _).mono ?_
  rintro e w1 ⟨rfl, rfl⟩
  go_wp2_with fail
  go_ret
  exact ⟨rfl, rfl⟩
theorem late_nil (w : World) : Calls Try.prog 12 #[.pointer none] w fun e w' => e = .returned (.slice none 0 0) ∧ Below w.heap.size w w' := by
  go_enter Try.func12, Try.ntmps12
  go_wp2_with fail
  refine (those_nil _ _).mono ?_
  rintro e w1 ⟨rfl, rfl⟩
  go_wp2_with fail
  go_ret
  exact ⟨rfl, (Below.refl _ _).alloc (Nat.le_refl _) _⟩

set_option maxRecDepth 100000 in
set_option maxHeartbeats 400000 in
theorem law_nil (n : Int) (w : World) (h0 : -9223372036854775808 ≤ n) (h1 : n ≤ 9223372036854775807) : Calls Try.prog 6 #[.int .i64 n] w fun e w' => e = .returned (.bool true) ∧ Below w.heap.size w w' := by
  go_enter Try.func6, Try.ntmps6
  go_wp2_with fail
  refine (tick_nil _).mono ?_
  rintro e w1 ⟨rfl, rfl⟩
  have z0 : St w (w.alloc (.cells #[.int .i64 0, .bool false, .int .i64 0, .bool false, .int .i64 0, .bool false, .int .i64 0, .bool false, .int .i64 0, .bool false, .int .i64 0, .bool false, .int .i64 0, .bool false, .int .i64 0, .bool false, .int .i64 0] 47)) w.heap.size 0 s0 := by
    refine ⟨⟨rfl, Blk.new _ _ _, by omega, by omega, ?_⟩, (Below.refl _ _).alloc (Nat.le_refl _) _, Nat.le_refl _⟩
    intro o ho
    obtain rfl : o = (false, 0) := by simpa [s0] using ho
    simp only []; omega
  go_wp2_with fail
  refine (watch_st z0 1 true [(false, 0), (true, 0), (false, 0), (false, 0), (false, 0), (false, 0), (false, 0), (false, 0)] rfl rfl).mono ?_
  rintro e w2 ⟨rfl, h2, _⟩
  go_wp2_with fail
  refine (late_st h2 [] 0 rfl rfl).mono ?_
  rintro e w3 ⟨A3, c3, rfl, _, h3, _⟩
  go_wp2_with fail
  refine (tick_st h3 [(false, 0), (true, 1), (false, 0), (false, 0), (false, 0), (false, 0), (false, 0), (false, 0)] rfl).mono ?_
  rintro e w4 ⟨rfl, h4⟩
  go_wp2_with fail
  refine (awake_any _).mono ?_
  rintro e w5 ⟨rfl, hb5⟩
  have h5 := h4.low hb5
  go_wp2_with fail
  refine (watch_nil 1 _).mono ?_
  rintro e w6 ⟨rfl, rfl⟩
  go_wp2_with fail
  refine (forget_nil 1 _).mono ?_
  rintro e w6 ⟨rfl, rfl⟩
  go_wp2_with fail
  refine (heard_nil 1 _).mono ?_
  rintro e w6 ⟨rfl, rfl⟩
  go_wp2_with fail
  refine (quiet_nil n _).mono ?_
  rintro e w6 ⟨rfl, rfl⟩
  go_wp2_with fail
  refine (late_nil _).mono ?_
  rintro e w6 ⟨rfl, hb6⟩
  have h6 := h5.low hb6
  go_wp2_with fail
  refine (watched_nil _).mono ?_
  rintro e w7 ⟨rfl, rfl⟩
  go_wp2_with fail
  refine (late_st h6 [1] 1 rfl rfl).mono ?_
  rintro e w7 ⟨A7, c7, rfl, _, h7, _⟩
  go_wp2_with fail
  refine (quiet_st h7 1 1 rfl).mono ?_
  rintro e w8 ⟨rfl, rfl⟩
  go_wp2_with fail
  go_ret
  exact ⟨rfl, h7.b⟩
end Go.Proofs.Ytdjdplalifngmaa
