import Derived.Test.YtdjdplalifngmaaPuD
namespace Go.Proofs.Ytdjdplalifngmaa
open Go.RowKit
set_option linter.unusedVariables false
attribute [local go_sem] b_max2 b_min2 b_max b_min

/-- node 5 watched, all others not -/
def on5 (q : Int) : List (Bool × Int) := [(false, 0), (false, 0), (false, 0), (false, 0), (false, 0), (true, q), (false, 0), (false, 0)]
theorem on5_tick (m q : Int) : fTick m (on5 q) = on5 (min (q + 1) (m + 1)) := rfl
theorem on5_seen (q : Int) : seenB (on5 q) 5 = true := rfl
theorem on5_heard (q : Int) : fHeard (on5 q) 5 = on5 0 := rfl
theorem on5_quiet (q : Int) : fQuiet (on5 q) 5 = q := rfl

set_option maxRecDepth 100000 in
set_option maxHeartbeats 1000000 in
theorem law_counts (a b c : Int) (w : World) (h0 : -9223372036854775808 ≤ a) (h0' : a ≤ 9223372036854775807) (h1 : -9223372036854775808 ≤ b) (h1' : b ≤ 9223372036854775807) (h2 : -9223372036854775808 ≤ c) (h2' : c ≤ 9223372036854775807) :
    Calls Try.prog 7 #[.int .i64 a, .int .i64 b, .int .i64 c] w fun e w' => e = .returned (.bool true) ∧ Below w.heap.size w w' := by
  have ta1 := Int.tmod_lt_of_pos a (show (0:Int) < 50 by omega)
  have ta2 := Int.lt_tmod_of_pos a (show (0:Int) < 50 by omega)
  have tb1 := Int.tmod_lt_of_pos b (show (0:Int) < 101 by omega)
  have tb2 := Int.lt_tmod_of_pos b (show (0:Int) < 101 by omega)
  go_enter Try.func7, Try.ntmps7
  go_wp2_with fail
  refine (awake_any _).mono ?_
  rintro e w1 ⟨rfl, hb1⟩
  go_upto_if 18 with (fail)
  go_cut [8] (fun s w' => ∃ x : Nat, s = .int .i64 x ∧ x ≤ 49 ∧ w1 = w')
  case first =>
    go_wp2_with fail
    all_goals go_meet
    · exact ⟨(-a.tmod 50).toNat, vint (by omega), by omega, rfl⟩
    · exact ⟨(a.tmod 50).toNat, vint (by omega), by omega, rfl⟩
  case rest =>
  obtain ⟨x, rfl, hx, rfl⟩ := hcut
  go_upto_if 26 with (fail)
  go_cut [9] (fun s w' => ∃ y : Nat, s = .int .i64 y ∧ y ≤ 100 ∧ w1 = w')
  case first =>
    go_wp2_with fail
    all_goals go_meet
    · exact ⟨(-b.tmod 101).toNat, vint (by omega), by omega, rfl⟩
    · exact ⟨(b.tmod 101).toNat, vint (by omega), by omega, rfl⟩
  case rest =>
  obtain ⟨y, rfl, hy, rfl⟩ := hcut
  have tc1 := Int.tmod_lt_of_pos c (show (0:Int) < (y : Int) + 1 by omega)
  have tc2 := Int.lt_tmod_of_pos c (show (0:Int) < (y : Int) + 1 by omega)
  go_upto_if 34 with (fail)
  go_cut [10] (fun s w' => ∃ z : Nat, s = .int .i64 z ∧ z ≤ y ∧ w1 = w')
  case first =>
    go_wp2_with fail
    all_goals go_meet
    · exact ⟨(-c.tmod (y + 1)).toNat, vint (by omega), by omega, rfl⟩
    · exact ⟨(c.tmod (y + 1)).toNat, vint (by omega), by omega, rfl⟩
  case rest =>
  obtain ⟨z, rfl, hz, rfl⟩ := hcut
  clear ta1 ta2 tb1 tb2 tc1 tc2 h0 h0' h1 h1' h2 h2'
  go_wp2_with fail
  refine (new_st _ x _ (by omega) (by omega) (by omega) w hb1).mono ?_
  rintro e w2 ⟨g, rfl, s2⟩
  go_wp2_with fail
  refine (watch_st s2 5 true (on5 0) rfl rfl).mono ?_
  rintro e w3 ⟨rfl, s3, _⟩
  go_wp2_with fail
  go_loopw [12] (fun p wr => ∃ (i : Nat) (q : Int), p = .int .i64 i ∧ i ≤ y ∧ ((i ≤ y - z ∧ q = min (i : Int) (x + 1)) ∨ (y - z < i ∧ q = min ((i : Int) - (y - z)) (x + 1))) ∧ St w wr g x (on5 q)) (fun p _ => y - (intOf p).toNat)
  case atStart => exact ⟨0, 0, rfl, by omega, by omega, s3⟩
  case round =>
    obtain ⟨i, q, rfl, hi, hq, hs⟩ := hrel
    have HQ := Lib.hid hq; clear hq
    by_cases hlt : i < y
    · by_cases heq : i = y - z
      · have he : ((i : Int) == (y : Int) - (z : Int)) = true := by simp; omega
        have HE := Lib.hid heq; clear heq
        go_wp2_with fail
        refine (heard_st hs 5 true (on5 0) rfl rfl).mono ?_
        rintro e w4 ⟨rfl, s4, _⟩
        go_wp2_with fail
        refine (tick_st s4 (on5 1) (by rw [on5_tick]; congr 1; omega)).mono ?_
        rintro e w5 ⟨rfl, s5⟩
        go_wp2_with fail
        go_roundw
        case rel => exact ⟨i + 1, 1, vint (by omega), by omega, by have := HE.out; omega, s5⟩
        case measure => simp [intOf]; omega
      · have he : ((i : Int) == (y : Int) - (z : Int)) = false := by simp; omega
        have HE := Lib.hid heq; clear heq
        go_wp2_with fail
        refine (tick_st hs (on5 (min (q + 1) (x + 1))) (on5_tick _ _)).mono ?_
        rintro e w5 ⟨rfl, s5⟩
        go_wp2_with fail
        go_roundw
        case rel => exact ⟨i + 1, min (q + 1) (x + 1), vint (by omega), by omega, by have := HE.out; have := HQ.out; omega, s5⟩
        case measure => simp [intOf]; omega
    · have hfin : (z = 0 ∧ q = min (y : Int) (x + 1)) ∨ (0 < z ∧ q = min (z : Int) (x + 1)) := by have := HQ.out; omega
      have HF := Lib.hid hfin; clear hfin
      by_cases hz0 : z = 0
      · subst hz0
        go_wp2_with fail
        refine (heard_st hs 5 true (on5 0) rfl rfl).mono ?_
        rintro e w4 ⟨rfl, s4, _⟩
        go_wp2_with fail
        refine (quiet_st s4 5 0 rfl).mono ?_
        rintro e w5 ⟨rfl, rfl⟩
        go_wp2_with fail
        refine (forget_st s4 5 true s0 rfl rfl).mono ?_
        rintro e w5 ⟨rfl, s5, _⟩
        go_wp2_with fail
        refine (quiet_st s5 5 (-1) rfl).mono ?_
        rintro e w6 ⟨rfl, rfl⟩
        go_wp2_with fail
        refine (watched_st s5 [] 0 rfl rfl).mono ?_
        rintro e w6 ⟨A6, c6, rfl, _, s6, _⟩
        go_wp2_with fail
        go_ret
        exact ⟨rfl, s6.b⟩
      · have hq : q = min (z : Int) (x + 1) := by have := HF.out; omega
        by_cases hz1 : x + 1 < z
        · obtain rfl : q = (x : Int) + 1 := by omega
          have HZ := Lib.hid hz1; clear hz1
          have hg1 : (x : Int) + 1 < (z : Int) := by have := HZ.out; omega
          have hz2 : ((z : Int) == 0) = false := by simp; omega
          have HQ := Lib.hid hq; clear hq
          go_wp2_with fail
          refine (quiet_st hs 5 (x + 1) rfl).mono ?_
          rintro e w5 ⟨rfl, rfl⟩
          go_wp2_with fail
          refine (forget_st hs 5 true s0 rfl rfl).mono ?_
          rintro e w5 ⟨rfl, s5, _⟩
          go_wp2_with fail
          refine (quiet_st s5 5 (-1) rfl).mono ?_
          rintro e w6 ⟨rfl, rfl⟩
          go_wp2_with fail
          refine (watched_st s5 [] 0 rfl rfl).mono ?_
          rintro e w6 ⟨A6, c6, rfl, _, s6, _⟩
          go_wp2_with fail
          go_ret
          exact ⟨rfl, s6.b⟩
        · obtain rfl : q = (z : Int) := by omega
          have HZ := Lib.hid hz1; clear hz1
          have hg1 : (z : Int) ≤ (x : Int) + 1 := by have := HZ.out; omega
          have hz2 : ((z : Int) == 0) = false := by simp; omega
          have HQ := Lib.hid hq; clear hq
          go_wp2_with fail
          refine (quiet_st hs 5 z rfl).mono ?_
          rintro e w5 ⟨rfl, rfl⟩
          go_wp2_with fail
          refine (forget_st hs 5 true s0 rfl rfl).mono ?_
          rintro e w5 ⟨rfl, s5, _⟩
          go_wp2_with fail
          refine (quiet_st s5 5 (-1) rfl).mono ?_
          rintro e w6 ⟨rfl, rfl⟩
          go_wp2_with fail
          refine (watched_st s5 [] 0 rfl rfl).mono ?_
          rintro e w6 ⟨A6, c6, rfl, _, s6, _⟩
          go_wp2_with fail
          go_ret
          exact ⟨rfl, s6.b⟩
end Go.Proofs.Ytdjdplalifngmaa
