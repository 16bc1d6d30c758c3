import Derived.Test.YtdjdplalifngmaaPuD
namespace Go.Proofs.Ytdjdplalifngmaa
open Go.RowKit
set_option linter.unusedVariables false
attribute [local go_sem] b_max2 b_min2 b_max b_min

theorem add_field (ad : Addr) (m j : Nat) (hj : 0 < j) : ad.add (m + j) = ⟨(ad.add m).block, (ad.add m).off + j, none⟩ := by
  unfold Addr.add
  by_cases hm : m = 0
  · subst hm
    simp [Nat.ne_of_gt hj]
  · simp [hm, Nat.add_assoc]
theorem and7 (Z : Int) : 0 ≤ bits .and .i64 Z 7 ∧ bits .and .i64 Z 7 ≤ 7 := by
  have h : bits .and .i64 Z 7 = IntKind.i64.wrap ((((BitVec.ofInt 64 Z) &&& (BitVec.ofInt 64 7)).toNat : Nat) : Int) := rfl
  have h2 : ((BitVec.ofInt 64 Z) &&& (BitVec.ofInt 64 7)).toNat ≤ 7 := by
    rw [BitVec.toNat_and]; exact Nat.and_le_right
  rw [h, IntWalk.i64_in _ (by omega)]
  omega
def at0 (s : List (Bool × Int)) (t : Int) : Prop := s[0]? = some (true, t)
theorem at0_set {s : List (Bool × Int)} {t : Int} (h : at0 s t) (n : Nat) (hn : 1 ≤ n) (a : Bool × Int) : at0 (s.set n a) t := by
  unfold at0 at *
  rw [List.getElem?_set, if_neg (by omega)]; exact h
theorem at0_heard {s : List (Bool × Int)} {t n : Int} (h : at0 s t) (hn : 1 ≤ n) : at0 (fHeard s n) t := by
  unfold fHeard; split
  · exact at0_set h _ (by omega) _
  · exact h
theorem at0_forget {s : List (Bool × Int)} {t n : Int} (h : at0 s t) (hn : 1 ≤ n) : at0 (fForget s n) t := by
  unfold fForget; split
  · exact at0_set h _ (by omega) _
  · exact h
theorem at0_watch {s : List (Bool × Int)} {t n : Int} (h : at0 s t) (hn : 1 ≤ n) : at0 (fWatch s n) t := by
  unfold fWatch; split
  · exact at0_set h _ (by omega) _
  · exact h
theorem at0_tick {s : List (Bool × Int)} {t m : Int} (h : at0 s t) : at0 (fTick m s) (min (t + 1) (m + 1)) := by
  unfold at0 fTick at *
  rw [List.getElem?_map, h]; rfl
theorem at0_quiet {s : List (Bool × Int)} {t : Int} (h : at0 s t) : fQuiet s 0 = t := by
  unfold at0 at h
  simp [fQuiet, seenB, List.getD_eq_getElem?_getD, h]

theorem St.alloc {B w : World} {g : Nat} {m : Int} {s : List (Bool × Int)} (h : St B w g m s) (o : Obj) : St B (w.alloc o) g m s := ⟨h.p.alloc o, h.b.alloc h.b.size o, h.l⟩

set_option maxRecDepth 100000 in
set_option maxHeartbeats 1000000 in
theorem law_apart (A : Option Addr) (len cap : Nat) (N : Nat → Nat → Int) (w : World) 
    (zb : ∀ i j, -9223372036854775808 ≤ N i j ∧ N i j ≤ 9223372036854775807) (zr : Reads w w.heap.size 2 A len ((List.range len).flatMap fun i => (List.range 2).map fun j => Value.int .i64 (N i j))) :
    Calls Try.prog 4 #[.slice A len cap] w fun e w' => e = .returned (.bool true) ∧ Below w.heap.size w w' := by
  have ZB := Lib.hid zb
  clear zb
  go_enter Try.func4, Try.ntmps4
  go_wp2_with fail
  refine (awake_any _).mono ?_
  rintro e w1 ⟨rfl, hb1⟩
  go_wp2_with fail
  refine (new_st _ 29 _ (by omega) (by omega) (by omega) w hb1).mono ?_
  rintro e w2 ⟨g, rfl, s2⟩
  go_wp2_with fail
  refine (watch_st s2 0 true [(true, 0), (false, 0), (false, 0), (false, 0), (false, 0), (false, 0), (false, 0), (false, 0)] rfl rfl).mono ?_
  rintro e w3 ⟨rfl, s3, _⟩
  clear hb1 s2
  go_wp2_with fail
  go_loopw [5, 6, 7, 8] (fun q p _ _ wr => ∃ (i : Nat) (s : List (Bool × Int)) (t : Int), p = .int .i64 i ∧ q = .int .i64 t ∧ i ≤ len ∧ i ≤ 60 ∧ at0 s t ∧ 0 ≤ t ∧ t ≤ 30 ∧ St w wr g 29 s) (fun _ p _ _ _ => 60 - (intOf p).toNat)
  case atStart => exact ⟨0, _, 0, rfl, rfl, by omega, by omega, by unfold at0; rfl, by omega, by omega, s3⟩
  case round =>
    clear s3
    obtain ⟨i, s, t, rfl, rfl, hil, hi20, ha, ht0, ht1, hs⟩ := hrel
    by_cases hlt : i < len ∧ i < 60
    · obtain ⟨hlt, hlt2⟩ := hlt
      obtain ⟨ad, u0, e, hadb, hx0, hc0⟩ := zr.elem hlt (show 0 < 2 by omega)
      obtain ⟨ad', u1, e', _, hx1, hc1⟩ := zr.elem hlt (show 1 < 2 by omega)
      subst e
      obtain rfl : ad = ad' := by simpa using e'
      have hf := fun j hj => flat_get (fun i => (List.range 2).map fun j => Value.int .i64 (N i j)) 2 (by simp) (List.range len) i j (by simpa using hlt) hj
      rw [hf 0 (by omega)] at hx0
      rw [hf 1 (by omega)] at hx1
      simp only [List.getElem_range] at hx0 hx1
      obtain rfl : Value.int .i64 (N i 0) = u0 := by simpa [List.range_succ] using hx0
      obtain rfl : Value.int .i64 (N i 1) = u1 := by simpa [List.range_succ] using hx1
      have hc0' : wr.cell? (ad.add (i * 2)) = some (.int .i64 (N i 0)) := (hs.b.cell (by rw [block_of_add]; exact hadb)).trans hc0
      have hc1' : wr.cell? (ad.add (i * 2 + 1)) = some (.int .i64 (N i 1)) := (hs.b.cell (by rw [block_of_add]; exact hadb)).trans hc1
      have z0 := ZB.out i 0
      have z1 := ZB.out i 1
      rw [add_field _ _ 1 (by omega)] at hc1'
      clear hf e' hx0 hx1 hc0 hc1
      generalize N i 0 = K at *
      generalize N i 1 = Z at *
      have hd20 : decide ((i : Int) < 60) = true := by rw [decide_eq_true_eq]; omega
      obtain ⟨y0, y1⟩ := and7 Z
      have tz1 := Int.tmod_lt_of_pos K (show (0:Int) < 4 by omega)
      have tz2 := Int.lt_tmod_of_pos K (show (0:Int) < 4 by omega)
      have ho := (hs.alloc (.cells #[.int .i64 K, .int .i64 Z] 32))
      by_cases r0 : K.tmod 4 = 0
      · have q0 : (K.tmod 4 == 0) = true := by simp [r0]
        have R := Lib.hid r0; clear r0 tz1 tz2
        go_wp2_with fail
        refine (heard_st ho _ _ _ rfl rfl).mono ?_
        rintro e w4 ⟨rfl, s4, _⟩
        have a4 := at0_heard (n := 1 + bits .and .i64 Z 7) ha (by omega)
        go_wp2_with fail
        refine (quiet_st s4 0 t (at0_quiet a4)).mono ?_
        rintro e w5 ⟨rfl, rfl⟩
        go_wp2_with fail
        go_roundw
        case rel => exact ⟨i + 1, _, t, vint (by omega), rfl, by omega, by omega, a4, by omega, by omega, s4⟩
        case measure => simp [intOf]; omega
      · have q0 : (K.tmod 4 == 0) = false := by simp [r0]
        by_cases r1 : K.tmod 4 = 1 ∨ K.tmod 4 = -1
        · have q1 : (K.tmod 4 == 1) = true ∨ ((K.tmod 4 == 1) = false ∧ (K.tmod 4 == -1) = true) := by rcases r1 with r | r <;> simp [r]
          have R := Lib.hid r0; have R1 := Lib.hid r1; clear r0 r1 tz1 tz2
          rcases q1 with q1 | ⟨q1, q1'⟩
          all_goals
            go_wp2_with fail
            refine (watch_st ho _ _ _ rfl rfl).mono ?_
            rintro e w4 ⟨rfl, s4, _⟩
            have a4 := at0_watch (n := 1 + bits .and .i64 Z 7) ha (by omega)
            go_wp2_with fail
            refine (quiet_st s4 0 t (at0_quiet a4)).mono ?_
            rintro e w5 ⟨rfl, rfl⟩
            go_wp2_with fail
            go_roundw
            case rel => exact ⟨i + 1, _, t, vint (by omega), rfl, by omega, by omega, a4, by omega, by omega, s4⟩
            case measure => simp [intOf]; omega
        · have q1 : (K.tmod 4 == 1) = false := by simp; omega
          have q1' : (K.tmod 4 == -1) = false := by simp; omega
          by_cases r2 : K.tmod 4 = 2 ∨ K.tmod 4 = -2
          · have q2 : (K.tmod 4 == 2) = true ∨ ((K.tmod 4 == 2) = false ∧ (K.tmod 4 == -2) = true) := by rcases r2 with r | r <;> simp [r]
            have R := Lib.hid r0; have R1 := Lib.hid r1; have R2 := Lib.hid r2; clear r0 r1 r2 tz1 tz2
            rcases q2 with q2 | ⟨q2, q2'⟩
            all_goals
              go_wp2_with fail
              refine (forget_st ho _ _ _ rfl rfl).mono ?_
              rintro e w4 ⟨rfl, s4, _⟩
              have a4 := at0_forget (n := 1 + bits .and .i64 Z 7) ha (by omega)
              go_wp2_with fail
              refine (quiet_st s4 0 t (at0_quiet a4)).mono ?_
              rintro e w5 ⟨rfl, rfl⟩
              go_wp2_with fail
              go_roundw
              case rel => exact ⟨i + 1, _, t, vint (by omega), rfl, by omega, by omega, a4, by omega, by omega, s4⟩
              case measure => simp [intOf]; omega
          · have q2 : (K.tmod 4 == 2) = false := by simp; omega
            have q2' : (K.tmod 4 == -2) = false := by simp; omega
            have R := Lib.hid r0; have R1 := Lib.hid r1; have R2 := Lib.hid r2; clear r0 r1 r2 tz1 tz2
            by_cases ht : t < 30
            all_goals
              go_wp2_with fail
              refine (tick_st ho _ rfl).mono ?_
              rintro e w4 ⟨rfl, s4⟩
              have a4 := at0_tick (m := 29) ha
              go_wp2_with fail
              refine (quiet_st s4 0 (min (t + 1) (29 + 1)) (at0_quiet a4)).mono ?_
              rintro e w5 ⟨rfl, rfl⟩
            · have qq : (min (t + 1) (29 + 1) != t + 1) = false := by simp; omega
              go_wp2_with fail
              go_roundw
              case rel => exact ⟨i + 1, _, t + 1, vint (by omega), rfl, by omega, by omega, (by rw [show t + 1 = min (t + 1) (29 + 1) by omega]; exact a4), by omega, by omega, s4⟩
              case measure => simp [intOf]; omega
            · have qq : (min (t + 1) (29 + 1) != t) = false := by simp; omega
              go_wp2_with fail
              go_roundw
              case rel => exact ⟨i + 1, _, t, vint (by omega), rfl, by omega, by omega, (by rw [show t = min (t + 1) (29 + 1) by omega]; exact a4), by omega, by omega, s4⟩
              case measure => simp [intOf]; omega
    · have hdd : (decide (i < len) && decide ((i : Int) < 60)) = false := by simp; omega
      go_wp2_with fail
      all_goals go_ret
      all_goals exact ⟨rfl, hs.b⟩
end Go.Proofs.Ytdjdplalifngmaa
