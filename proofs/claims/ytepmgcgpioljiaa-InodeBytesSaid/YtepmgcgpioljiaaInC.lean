import Derived.Test.YtepmgcgpioljiaaInB
namespace Go.Proofs.Ytepmgcgpioljiaa
open Go.RowKit
attribute [local go_sem] b_max2 b_min2 b_max b_min

def need (n : Int) : Int := if n < 1 then 0 else min ((n - 1) / 512 + 1) 1125899906842624

set_option maxRecDepth 100000 in
set_option maxHeartbeats 400000 in
theorem need_any (n : Int) (w : World) (h0 : -9223372036854775808 ≤ n) (h1 : n ≤ 9223372036854775807) :
    Calls Try.prog 13 #[.int .i64 n] w fun e w' => e = .returned (.int .i64 (need n)) ∧ w = w' := by
  unfold need
  by_cases hn : n < 1
  · rw [if_pos hn]
    go_enter Try.func13, Try.ntmps13
    go_wp2
    go_ret
    exact ⟨rfl, rfl⟩
  · rw [if_neg hn]
    go_enter Try.func13, Try.ntmps13
    go_wp2
    go_ret
    exact ⟨rfl, rfl⟩

set_option maxRecDepth 100000 in
set_option maxHeartbeats 400000 in
theorem rneed_any (n : Int) (w : World) (h0 : -9223372036854775808 ≤ n) (h1 : n ≤ 9223372036854775807) :
    Calls Try.prog 14 #[.int .i64 n] w fun e w' => e = .returned (.int .i64 (need n)) ∧ w = w' := by
  unfold need
  by_cases hn : n < 1
  · rw [if_pos hn]
    go_enter Try.func14, Try.ntmps14
    go_wp2
    go_ret
    exact ⟨rfl, rfl⟩
  · rw [if_neg hn]
    go_enter Try.func14, Try.ntmps14
    go_wp2
    all_goals
      go_ret
      exact ⟨ret_int (by omega), rfl⟩

theorem pieces_awake : pieces 510 514 = [(0, 510, 512), (1, 0, 2)] := by
  unfold pieces
  rw [show (min (514 : Int) 6144).toNat = 514 from rfl, show (min (max (510 : Int) 0) 6144).toNat = 510 from rfl, pcs_step (by decide), pcs_step (by decide), pcs_end (by decide)]
  rfl

set_option maxRecDepth 100000 in
set_option maxHeartbeats 400000 in
theorem awake_any (w : World) : Calls Try.prog 10 #[] w fun e w' => e = .returned (.bool true) ∧ Below w.heap.size w w' := by
  go_enter Try.func10, Try.ntmps10
  go_wp2_with fail
  refine (pieces_any 510 514 _ (by omega) (by omega) (by omega) (by omega)).mono ?_
  rintro e w1 ⟨v, rfl, hown, hb⟩
  rw [pieces_awake] at hown
  rw [show cellsP [(0, 510, 512), (1, 0, 2)] = [.int .i64 0, .int .i64 510, .int .i64 512, .int .i64 1, .int .i64 0, .int .i64 2] from rfl, show [((0 : Nat), (510 : Nat), (512 : Nat)), (1, 0, 2)].length = 2 from rfl] at hown
  obtain ⟨g, cap, rfl, hg, hgs⟩ := hown.form (by simp)
  have c0 : w1.cell? ⟨g, 0, none⟩ = some (.int .i64 0) := hown.cellAt 0 (by omega)
  have c1 : w1.cell? ⟨g, 1, none⟩ = some (.int .i64 510) := hown.cellAt 1 (by omega)
  have c2 : w1.cell? ⟨g, 2, none⟩ = some (.int .i64 512) := hown.cellAt 2 (by omega)
  have c3 : w1.cell? ⟨g, 3, none⟩ = some (.int .i64 1) := hown.cellAt 3 (by omega)
  have c4 : w1.cell? ⟨g, 4, none⟩ = some (.int .i64 0) := hown.cellAt 4 (by omega)
  have c5 : w1.cell? ⟨g, 5, none⟩ = some (.int .i64 2) := hown.cellAt 5 (by omega)
  go_wp2_with fail
  refine (need_any 512 _ (by omega) (by omega)).mono ?_
  rw [show need 512 = 1 from rfl]
  rintro e w2 ⟨rfl, rfl⟩
  go_wp2_with fail
  refine (need_any 513 _ (by omega) (by omega)).mono ?_
  rw [show need 513 = 2 from rfl]
  rintro e w2 ⟨rfl, rfl⟩
  go_wp2_with fail
  go_ret
  exact ⟨rfl, hb⟩
end Go.Proofs.Ytepmgcgpioljiaa
