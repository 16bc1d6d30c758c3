import Derived.Test.YtdjdplalifngmaaPuD
namespace Go.Proofs.Ytdjdplalifngmaa
open Go.RowKit
set_option linter.unusedVariables false
attribute [local go_sem] b_max2 b_min2 b_max b_min

/-- node 3 watched, all others not -/
def on3 (q : Int) : List (Bool × Int) := [(false, 0), (false, 0), (false, 0), (true, q), (false, 0), (false, 0), (false, 0), (false, 0)]
theorem on3_tick (m q : Int) : fTick m (on3 q) = on3 (min (q + 1) (m + 1)) := rfl
theorem on3_late_no (m q : Int) (h : q ≤ m) : fLate m (on3 q) = [] := by
  have e : isLate m (true, q) = false := by simp [isLate]; omega
  unfold fLate those
  simp [List.range_succ, List.range_zero, on3, e]
theorem on3_late_yes (m q : Int) (h : m < q) : fLate m (on3 q) = [3] := by
  have e : isLate m (true, q) = true := by simp [isLate]; omega
  unfold fLate those
  simp [List.range_succ, List.range_zero, on3, e]

set_option maxRecDepth 100000 in
set_option maxHeartbeats 1000000 in
theorem law_lasts (a : Int) (A : Option Addr) (len cap : Nat) (zs : List Int) (c : Int) (w : World) (h0 : -9223372036854775808 ≤ a) (h0' : a ≤ 9223372036854775807)
    (zl : zs.length = len) (zb : ∀ z ∈ zs, -9223372036854775808 ≤ z ∧ z ≤ 9223372036854775807) (zr : Reads w w.heap.size 1 A len (zs.map (Value.int .i64))) (h2 : -9223372036854775808 ≤ c) (h2' : c ≤ 9223372036854775807) :
    Calls Try.prog 3 #[.int .i64 a, .slice A len cap, .int .i64 c] w fun e w' => e = .returned (.bool true) ∧ Below w.heap.size w w' := by
  have ta1 := Int.tmod_lt_of_pos a (show (0:Int) < 50 by omega)
  have ta2 := Int.lt_tmod_of_pos a (show (0:Int) < 50 by omega)
  have tc1 := Int.tmod_lt_of_pos c (show (0:Int) < 101 by omega)
  have tc2 := Int.lt_tmod_of_pos c (show (0:Int) < 101 by omega)
  have ZL := Lib.hid zl; have ZB := Lib.hid zb
  clear zl zb
  go_enter Try.func3, Try.ntmps3
  go_wp2_with fail
  refine (awake_any _).mono ?_
  rintro e w1 ⟨rfl, hb1⟩
  go_upto_if 20 with (fail)
  go_cut [8] (fun s w' => ∃ x : Nat, s = .int .i64 x ∧ x ≤ 49 ∧ w1 = w')
  case first =>
    go_wp2_with fail
    all_goals go_meet
    · exact ⟨(-a.tmod 50).toNat, vint (by omega), by omega, rfl⟩
    · exact ⟨(a.tmod 50).toNat, vint (by omega), by omega, rfl⟩
  case rest =>
  obtain ⟨x, rfl, hx, rfl⟩ := hcut
  clear ta1 ta2
  go_wp2_with fail
  refine (new_st _ x _ (by omega) (by omega) (by omega) w hb1).mono ?_
  rintro e w2 ⟨g, rfl, s2⟩
  go_wp2_with fail
  refine (watch_st s2 3 true (on3 0) rfl rfl).mono ?_
  rintro e w3 ⟨rfl, s3, _⟩
  clear hb1 s2
  go_wp2_with fail
  go_loopw [10, 11, 12] (fun p _ _ wr => ∃ (i : Nat), p = .int .i64 i ∧ i ≤ len ∧ i ≤ 20 ∧ St w wr g x (on3 0)) (fun p _ _ _ => 20 - (intOf p).toNat)
  case atStart => exact ⟨0, rfl, by omega, by omega, s3⟩
  case round =>
    obtain ⟨i, rfl, hil, hi20, hs⟩ := hrel
    by_cases hlt : i < len ∧ i < 20
    · obtain ⟨hlt, hlt2⟩ := hlt
      obtain ⟨ad, e, hadb, hcs⟩ := zr.2 (by omega)
      subst e
      have hiz : i < zs.length := by rw [ZL.out]; exact hlt
      have hc := hcs i (.int .i64 zs[i]) (by simp [hiz])
      have hc' : wr.cell? (ad.add i) = some (.int .i64 zs[i]) := (hs.b.cell (by rw [block_of_add]; exact hadb)).trans hc
      obtain ⟨z0, z1⟩ := ZB.out zs[i] (List.getElem_mem _)
      have tz1 := Int.tmod_lt_of_pos zs[i] (show (0:Int) < (x : Int) + 1 by omega)
      have tz2 := Int.lt_tmod_of_pos zs[i] (show (0:Int) < (x : Int) + 1 by omega)
      generalize zs[i] = Z at *
      clear hc hcs
      have hd20 : decide ((i : Int) < 20) = true := by rw [decide_eq_true_eq]; omega
      go_upto_if 51 with (fail)
      go_cut [11] (fun s w' => ∃ G : Nat, s = .int .i64 G ∧ G ≤ x ∧ wr = w')
      case first =>
        go_wp2_with fail
        all_goals go_meet
        · exact ⟨(-Z.tmod (x + 1)).toNat, vint (by omega), by omega, rfl⟩
        · exact ⟨(Z.tmod (x + 1)).toNat, vint (by omega), by omega, rfl⟩
      case rest =>
      obtain ⟨G, rfl, hG, rfl⟩ := hcut
      clear tz1 tz2 z0 z1 hc'
      go_wp2_with fail
      obtain ⟨wo, rfl⟩ : ∃ wo : World, wo = wr := ⟨_, rfl⟩
      go_loopw [12] (fun p wr => ∃ (t : Nat), p = .int .i64 t ∧ t ≤ G ∧ St w wr g x (on3 t)) (fun p _ => G - (intOf p).toNat)
      case atStart => exact ⟨0, rfl, by omega, hs⟩
      case round =>
        clear hs
        obtain ⟨t, rfl, htG, hs⟩ := hrel
        by_cases htl : t < G
        · go_wp2_with fail
          refine (tick_st hs (on3 ((t + 1 : Nat) : Int)) (by rw [on3_tick]; congr 1; omega)).mono ?_
          rintro e w4 ⟨rfl, s4⟩
          go_wp2_with fail
          refine (late_st s4 [] 0 (on3_late_no _ _ (by omega)) rfl).mono ?_
          rintro e w5 ⟨A5, c5, rfl, _, s5, _⟩
          go_wp2_with fail
          go_roundw
          case rel => exact ⟨t + 1, vint (by omega), by omega, s5⟩
          case measure => simp [intOf]; omega
        · go_wp2_with fail
          refine (heard_st hs 3 true (on3 0) rfl rfl).mono ?_
          rintro e w4 ⟨rfl, s4, _⟩
          go_wp2_with fail
          go_roundw
          case rel => exact ⟨i + 1, vint (by omega), by omega, by omega, s4⟩
          case measure => simp [intOf]; omega
    · have hdd : (decide (i < len) && decide ((i : Int) < 20)) = false := by simp; omega
      have HD := Lib.hid hdd; clear hdd
      go_upto_if 71 with (fail)
      all_goals
        go_cut [13] (fun s w' => ∃ M : Nat, s = .int .i64 M ∧ M ≤ 100 ∧ wr = w')
        case first =>
          go_wp2_with fail
          all_goals go_meet
          · exact ⟨(-c.tmod 101).toNat, vint (by omega), by omega, rfl⟩
          · exact ⟨(c.tmod 101).toNat, vint (by omega), by omega, rfl⟩
        case rest =>
        obtain ⟨M, rfl, hM, rfl⟩ := hcut
        clear tc1 tc2 h2 h2' h0 h0'
        go_wp2_with fail
        obtain ⟨wo, rfl⟩ : ∃ wo : World, wo = wr := ⟨_, rfl⟩
        go_loopw [14, 15] (fun p _ wr => ∃ (t : Nat), p = .int .i64 t ∧ 1 ≤ t ∧ t ≤ M + 1 ∧ St w wr g x (on3 (min ((t : Int) - 1) (x + 1)))) (fun p _ _ => M + 1 - (intOf p).toNat)
        case atStart => exact ⟨1, rfl, by omega, by omega, by rw [show min (((1 : Nat) : Int) - 1) (x + 1) = 0 by omega]; exact hs⟩
        case round =>
          clear hs
          obtain ⟨t, rfl, ht1, htM, hs⟩ := hrel
          by_cases htl : t ≤ M
          · by_cases hlate : (x : Int) + 1 ≤ t
            · have k1 : decide ((x : Int) + 1 ≤ (t : Int)) = true := by rw [decide_eq_true_eq]; omega
              go_wp2_with fail
              refine (tick_st hs (on3 ((x : Int) + 1)) (by rw [on3_tick]; congr 1; omega)).mono ?_
              rintro e w4 ⟨rfl, s4⟩
              go_wp2_with fail
              refine (late_st s4 [3] 1 (on3_late_yes _ _ (by omega)) rfl).mono ?_
              rintro e w5 ⟨A5, c5, rfl, _, s5, _⟩
              go_wp2_with fail
              refine (quiet_st s5 3 (x + 1) rfl).mono ?_
              rintro e w6 ⟨rfl, rfl⟩
              go_wp2_with fail
              go_roundw
              case rel => exact ⟨t + 1, vint (by omega), by omega, by omega, by rw [show min (((t + 1 : Nat) : Int) - 1) (x + 1) = x + 1 by omega]; exact s5⟩
              case measure => simp [intOf]; omega
            · have k1 : decide ((x : Int) + 1 ≤ (t : Int)) = false := by rw [decide_eq_false_iff_not]; omega
              go_wp2_with fail
              refine (tick_st hs (on3 (t : Int)) (by rw [on3_tick]; congr 1; omega)).mono ?_
              rintro e w4 ⟨rfl, s4⟩
              go_wp2_with fail
              refine (late_st s4 [] 0 (on3_late_no _ _ (by omega)) rfl).mono ?_
              rintro e w5 ⟨A5, c5, rfl, _, s5, _⟩
              go_wp2_with fail
              refine (quiet_st s5 3 t rfl).mono ?_
              rintro e w6 ⟨rfl, rfl⟩
              go_wp2_with fail
              go_roundw
              case rel => exact ⟨t + 1, vint (by omega), by omega, by omega, by rw [show min (((t + 1 : Nat) : Int) - 1) (x + 1) = t by omega]; exact s5⟩
              case measure => simp [intOf]; omega
          · go_wp2_with fail
            go_ret
            exact ⟨rfl, hs.b⟩
end Go.Proofs.Ytdjdplalifngmaa
