import Derived.Test.YtikblgnpabonjaaBe
import Derived.Test.YtikblgnpabonjaaBaP
namespace Go.Proofs.Ytikblgnpabonjaa
open Go.RowKit
set_option linter.unusedVariables false
attribute [local go_sem] b_max2 b_min2 b_max b_min

/-- what the switch of a round leaves -/
def Sw (B w' : World) (g g' z : Nat) (n : Nat) (cs : Array Value) : Prop :=
  ∃ (F : Nat → Prop) (Ls : List (List ByteArray)) (F' : Nat → Prop) (l : List Pc), l.length ≤ n ∧ Rel Ls l ∧ LP B w' g F Ls g' F' l ∧ Blk w' z 29 cs

set_option maxRecDepth 100000 in
set_option maxHeartbeats 4000000 in
theorem law_plays (A : Option Addr) (len cap : Nat) (K : Nat → Nat → Int) (S : Nat → ByteArray) (w : World)
    (zb : ∀ i j, -9223372036854775808 ≤ K i j ∧ K i j ≤ 9223372036854775807) (zr : Reads w w.heap.size 5 A len (opsC K S len)) :
    Calls Try.prog 7 #[.slice A len cap] w fun e w' => e = .returned (.bool true) ∧ Below w.heap.size w w' := by
  have ZC := Lib.hid zb; clear zb
  go_enter Try.func7, Try.ntmps7
  go_wp2_with fail
  refine (awake_any _).mono ?_
  rintro e w1 ⟨rfl, hb1⟩
  go_wp2_with fail
  refine (new_ls w _ hb1).mono ?_
  rintro e w2 ⟨g, rfl, s2, _, _, _⟩
  have p2 := LP.new s2
  clear s2 hb1
  go_wp2_with fail
  go_loopw [6, 7, 8, 9, 10, 11, 12, 13, 14, 15, 16, 17, 18, 19, 20, 21] (fun p _ _ _ _ _ _ _ _ _ _ _ _ _ _ _ wr => ∃ (i : Nat) (F : Nat → Prop) (Ls : List (List ByteArray)) (F' : Nat → Prop) (l : List Pc), p = .int .i64 i ∧ i ≤ len ∧ i ≤ 100 ∧ l.length ≤ i ∧ Rel Ls l ∧ LP w wr g F Ls w2.heap.size F' l) (fun p _ _ _ _ _ _ _ _ _ _ _ _ _ _ _ _ => 100 - (intOf p).toNat)
  case atStart => exact ⟨0, _, _, _, [], rfl, by omega, by omega, by simp, Rel.zero, p2⟩
  case round =>
    clear p2
    generalize hg' : w2.heap.size = g' at *
    clear hg'
    obtain ⟨i, F, Ls, F', l, rfl, hil, hi100, hll, hR, hs⟩ := hrel
    by_cases hlt : i < len ∧ i < 100
    · obtain ⟨hlt, hlt2⟩ := hlt
      obtain ⟨ad, rfl, hc0, hc1, hc2, hc3, hc4⟩ := ops_at zr hs.ls.b hlt
      have hd20 : decide ((i : Int) < 100) = true := by rw [decide_eq_true_eq]; omega
      have k0 := ZC.out i 0
      have k3 := ZC.out i 3
      generalize S i = si at *
      generalize K i 0 = K0 at *
      generalize K i 1 = K1 at *
      generalize K i 2 = K2 at *
      generalize K i 3 = K3 at *
      have tb1 := Int.tmod_lt_of_pos K0 (show (0:Int) < 10 by omega)
      have tb2 := Int.lt_tmod_of_pos K0 (show (0:Int) < 10 by omega)
      go_upto_region 10 with (fail)
      have hB : Blk (wr.alloc (.cells #[.int .i64 K0, .int .i64 K1, .int .i64 K2, .int .i64 K3, .string si] 29)) wr.heap.size 29 #[.int .i64 K0, .int .i64 K1, .int .i64 K2, .int .i64 K3, .string si] := Blk.new _ _ _
      have hzF : ¬ F wr.heap.size := fun h => by have := hs.ls.net.fb _ h; omega
      have hzF' : ¬ F' wr.heap.size := fun h => by have := hs.rn.fb _ h; omega
      replace hs := hs.alloc (.cells #[.int .i64 K0, .int .i64 K1, .int .i64 K2, .int .i64 K3, .string si] 29)
      clear hc0 hc1 hc2 hc3 hc4
      generalize wr.heap.size = z at *
      generalize wr.alloc (.cells #[.int .i64 K0, .int .i64 K1, .int .i64 K2, .int .i64 K3, .string si] 29) = wa at *
      have q0 : wa.cell? ⟨z, 0, none⟩ = some (.int .i64 K0) := hB.cell 0
      go_upto_if 46 with (fail)
      go_cut [8] (fun v w' => ∃ k : Int, v = .int .i64 k ∧ 0 ≤ k ∧ k < 10 ∧ wa = w')
      case first =>
        clear hs hB zr hzF hzF' hR
        by_cases hT : K0.tmod 10 < 0
        · have hT2 : decide (K0.tmod 10 < 0) = true := by rw [decide_eq_true_eq]; exact hT
          go_wp2_with fail
          go_meet
          exact ⟨_, rfl, by omega, by omega, rfl⟩
        · have hT2 : decide (K0.tmod 10 < 0) = false := by rw [decide_eq_false_iff_not]; exact hT
          go_wp2_with fail
          go_meet
          exact ⟨_, rfl, by omega, by omega, rfl⟩
      case rest =>
      obtain ⟨k, rfl, hk0, hk9, rfl⟩ := hcut
      clear tb1 tb2 k0 q0
      go_upto_block 2 with (fail)
      go_cut [9] (fun v w' => v = .bool true ∧ Sw w w' g g' z (i + 1) #[.int .i64 K0, .int .i64 K1, .int .i64 K2, .int .i64 K3, .string si])
      case first =>
        clear zr
        have q1 : wa.cell? ⟨z, 1, none⟩ = some (.int .i64 K1) := hB.cell 1
        have q2 : wa.cell? ⟨z, 2, none⟩ = some (.int .i64 K2) := hB.cell 2
        have q3 : wa.cell? ⟨z, 3, none⟩ = some (.int .i64 K3) := hB.cell 3
        have q4 : wa.cell? ⟨z, 4, none⟩ = some (.string si) := hB.cell 4
        rcases (show k = 4 ∨ k = 5 ∨ k = 6 ∨ k = 7 ∨ k = 8 ∨ k = 9 ∨ (k ≠ 4 ∧ k ≠ 5 ∧ k ≠ 6 ∧ k ≠ 7 ∧ k ≠ 8 ∧ k ≠ 9) by omega) with hk | hk | hk | hk | hk | hk | hk
        · as_aux_lemma =>
          have e4 : (k == 4) = true := by rw [beq_iff_eq]; exact hk
          have e5 : (k == 5) = false := by rw [beq_eq_false_iff_ne]; omega
          have e6 : (k == 6) = false := by rw [beq_eq_false_iff_ne]; omega
          have e7 : (k == 7) = false := by rw [beq_eq_false_iff_ne]; omega
          have e8 : (k == 8) = false := by rw [beq_eq_false_iff_ne]; omega
          have e9 : (k == 9) = false := by rw [beq_eq_false_iff_ne]; omega
          clear hk hk0 hk9
          obtain ⟨s, r, Ls', h1, _, h3⟩ := both_take (B := w) (g := g) (g' := g') hR (by omega) K1 K2 K3 k3.1 k3.2
          go_wp2_with fail
          refine (h1 _ _ _ _ hs).mono ?_
          rintro e w3 ⟨rfl, p3, f3⟩
          replace hB := f3.blk hB hzF
          clear q1 q2 q3 q4
          have q1 : w3.cell? ⟨z, 1, none⟩ = some (.int .i64 K1) := hB.cell 1
          have q2 : w3.cell? ⟨z, 2, none⟩ = some (.int .i64 K2) := hB.cell 2
          have q3 : w3.cell? ⟨z, 3, none⟩ = some (.int .i64 K3) := hB.cell 3
          have q4 : w3.cell? ⟨z, 4, none⟩ = some (.string si) := hB.cell 4
          go_wp2_with fail
          refine (h3 _ _ _ _ p3).mono ?_
          rintro e w4 ⟨rfl, l', p4, hR4, hl4, f4⟩
          replace hB := f4.blk hB hzF'
          have es : (s.toList == s.toList) = true := by simp
          have er : (r == r) = true := by simp
          go_wp2_with fail
          go_meet
          exact ⟨rfl, _, _, _, _, by omega, hR4, p4, hB⟩
        · as_aux_lemma =>
          have e4 : (k == 4) = false := by rw [beq_eq_false_iff_ne]; omega
          have e5 : (k == 5) = true := by rw [beq_iff_eq]; exact hk
          have e6 : (k == 6) = false := by rw [beq_eq_false_iff_ne]; omega
          have e7 : (k == 7) = false := by rw [beq_eq_false_iff_ne]; omega
          have e8 : (k == 8) = false := by rw [beq_eq_false_iff_ne]; omega
          have e9 : (k == 9) = false := by rw [beq_eq_false_iff_ne]; omega
          clear hk hk0 hk9
          obtain ⟨s, r, Ls', h1, _, h3⟩ := both_take (B := w) (g := g) (g' := g') hR (by omega) K1 K2 K3 k3.1 k3.2
          go_wp2_with fail
          refine (h1 _ _ _ _ hs).mono ?_
          rintro e w3 ⟨rfl, p3, f3⟩
          replace hB := f3.blk hB hzF
          clear q1 q2 q3 q4
          have q1 : w3.cell? ⟨z, 1, none⟩ = some (.int .i64 K1) := hB.cell 1
          have q2 : w3.cell? ⟨z, 2, none⟩ = some (.int .i64 K2) := hB.cell 2
          have q3 : w3.cell? ⟨z, 3, none⟩ = some (.int .i64 K3) := hB.cell 3
          have q4 : w3.cell? ⟨z, 4, none⟩ = some (.string si) := hB.cell 4
          go_wp2_with fail
          refine (h3 _ _ _ _ p3).mono ?_
          rintro e w4 ⟨rfl, l', p4, hR4, hl4, f4⟩
          replace hB := f4.blk hB hzF'
          have es : (s.toList == s.toList) = true := by simp
          have er : (r == r) = true := by simp
          go_wp2_with fail
          go_meet
          exact ⟨rfl, _, _, _, _, by omega, hR4, p4, hB⟩
        · as_aux_lemma =>
          have e4 : (k == 4) = false := by rw [beq_eq_false_iff_ne]; omega
          have e5 : (k == 5) = false := by rw [beq_eq_false_iff_ne]; omega
          have e6 : (k == 6) = true := by rw [beq_iff_eq]; exact hk
          have e7 : (k == 7) = false := by rw [beq_eq_false_iff_ne]; omega
          have e8 : (k == 8) = false := by rw [beq_eq_false_iff_ne]; omega
          have e9 : (k == 9) = false := by rw [beq_eq_false_iff_ne]; omega
          clear hk hk0 hk9
          obtain ⟨a, b, s, r, Ls', h1, h2⟩ := both_any (B := w) (g := g) (g' := g') hR (by omega) K3 k3.1 k3.2
          go_wp2_with fail
          refine (h1 _ _ _ hs).mono ?_
          rintro e w3 ⟨rfl, F3, p3, f3⟩
          replace hB := f3.blk hB hzF
          clear q1 q2 q3 q4
          go_upto_region 24 with (fail)
          have hY : Blk (w3.alloc (.cells #[.int .i64 a, .int .i64 b, .string s] 32)) w3.heap.size 32 #[.int .i64 a, .int .i64 b, .string s] := Blk.new _ _ _
          have hyF : ¬ F' w3.heap.size := fun h => by have := p3.rn.fb _ h; omega
          replace hB := (Fr.of_below ((Below.refl _ w3).alloc (Nat.le_refl _) (.cells #[.int .i64 a, .int .i64 b, .string s] 32)) fun _ => False).blk hB (fun h => h)
          replace p3 := p3.alloc (.cells #[.int .i64 a, .int .i64 b, .string s] 32)
          generalize w3.heap.size = y at *
          generalize w3.alloc (.cells #[.int .i64 a, .int .i64 b, .string s] 32) = w3 at *
          have q1 : w3.cell? ⟨z, 1, none⟩ = some (.int .i64 K1) := hB.cell 1
          have q2 : w3.cell? ⟨z, 2, none⟩ = some (.int .i64 K2) := hB.cell 2
          have q3 : w3.cell? ⟨z, 3, none⟩ = some (.int .i64 K3) := hB.cell 3
          have q4 : w3.cell? ⟨z, 4, none⟩ = some (.string si) := hB.cell 4
          go_wp2_with fail
          refine (h2 _ _ _ _ p3).mono ?_
          rintro e w4 ⟨rfl, F4, l', p4, hR4, hl4, f4⟩
          replace hB := f4.blk hB hzF'
          replace hY := f4.blk hY hyF
          clear q1 q2 q3 q4
          go_upto_region 25 with (fail)
          have hX : Blk (w4.alloc (.cells #[.int .i64 a, .int .i64 b, .string s] 32)) w4.heap.size 32 #[.int .i64 a, .int .i64 b, .string s] := Blk.new _ _ _
          replace hB := (Fr.of_below ((Below.refl _ w4).alloc (Nat.le_refl _) (.cells #[.int .i64 a, .int .i64 b, .string s] 32)) fun _ => False).blk hB (fun h => h)
          replace hY := (Fr.of_below ((Below.refl _ w4).alloc (Nat.le_refl _) (.cells #[.int .i64 a, .int .i64 b, .string s] 32)) fun _ => False).blk hY (fun h => h)
          replace p4 := p4.alloc (.cells #[.int .i64 a, .int .i64 b, .string s] 32)
          generalize w4.heap.size = x at *
          generalize w4.alloc (.cells #[.int .i64 a, .int .i64 b, .string s] 32) = w4 at *
          have y0 : w4.cell? ⟨y, 0, none⟩ = some (.int .i64 a) := hY.cell 0
          have y1 : w4.cell? ⟨y, 1, none⟩ = some (.int .i64 b) := hY.cell 1
          have y2 : w4.cell? ⟨y, 2, none⟩ = some (.string s) := hY.cell 2
          have x0 : w4.cell? ⟨x, 0, none⟩ = some (.int .i64 a) := hX.cell 0
          have x1 : w4.cell? ⟨x, 1, none⟩ = some (.int .i64 b) := hX.cell 1
          have x2 : w4.cell? ⟨x, 2, none⟩ = some (.string s) := hX.cell 2
          have ea : (a == a) = true := by simp
          have eb : (b == b) = true := by simp
          have ea' : ((a : Int) == (a : Int)) = true := by simp
          have eb' : ((b : Int) == (b : Int)) = true := by simp
          have es : (s.toList == s.toList) = true := by simp
          have er : (r == r) = true := by simp
          go_wp2_with fail
          go_meet
          exact ⟨rfl, _, _, _, _, by omega, hR4, p4, hB⟩
        · as_aux_lemma =>
          have e4 : (k == 4) = false := by rw [beq_eq_false_iff_ne]; omega
          have e5 : (k == 5) = false := by rw [beq_eq_false_iff_ne]; omega
          have e6 : (k == 6) = false := by rw [beq_eq_false_iff_ne]; omega
          have e7 : (k == 7) = true := by rw [beq_iff_eq]; exact hk
          have e8 : (k == 8) = false := by rw [beq_eq_false_iff_ne]; omega
          have e9 : (k == 9) = false := by rw [beq_eq_false_iff_ne]; omega
          clear hk hk0 hk9
          obtain ⟨s, r, Ls', _, h2, h3⟩ := both_take (B := w) (g := g) (g' := g') hR (by omega) K1 K2 K3 k3.1 k3.2
          go_wp2_with fail
          refine (h3 _ _ _ _ hs).mono ?_
          rintro e w3 ⟨rfl, l', p3, hR4, hl4, f3⟩
          replace hB := f3.blk hB hzF'
          clear q1 q2 q3 q4
          have q1 : w3.cell? ⟨z, 1, none⟩ = some (.int .i64 K1) := hB.cell 1
          have q2 : w3.cell? ⟨z, 2, none⟩ = some (.int .i64 K2) := hB.cell 2
          have q3 : w3.cell? ⟨z, 3, none⟩ = some (.int .i64 K3) := hB.cell 3
          have q4 : w3.cell? ⟨z, 4, none⟩ = some (.string si) := hB.cell 4
          go_wp2_with fail
          refine (h2 _ _ _ _ p3).mono ?_
          rintro e w4 ⟨rfl, p4, f4⟩
          replace hB := f4.blk hB hzF
          have er : (r == r) = true := by simp
          go_wp2_with fail
          go_meet
          exact ⟨rfl, _, _, _, _, by omega, hR4, p4, hB⟩
        · as_aux_lemma =>
          have e4 : (k == 4) = false := by rw [beq_eq_false_iff_ne]; omega
          have e5 : (k == 5) = false := by rw [beq_eq_false_iff_ne]; omega
          have e6 : (k == 6) = false := by rw [beq_eq_false_iff_ne]; omega
          have e7 : (k == 7) = false := by rw [beq_eq_false_iff_ne]; omega
          have e8 : (k == 8) = true := by rw [beq_iff_eq]; exact hk
          have e9 : (k == 9) = false := by rw [beq_eq_false_iff_ne]; omega
          clear hk hk0 hk9
          obtain ⟨r, Ls', h1, h2⟩ := both_double (B := w) (g := g) (g' := g') hR (by omega) K1 K2 K3 k3.1 k3.2
          have er : (r == r) = true := by simp
          have hsd := hs.drewN 1
          have hBd : Blk (wa.drewN 1) z 29 #[.int .i64 K0, .int .i64 K1, .int .i64 K2, .int .i64 K3, .string si] := hB
          go_wp2_with fail
          go_region_held3 (fun w' => w'.cell? ⟨z, 1, none⟩ = some (.int .i64 K1) ∧ w'.cell? ⟨z, 2, none⟩ = some (.int .i64 K2) ∧ w'.cell? ⟨z, 3, none⟩ = some (.int .i64 K3)) (go_keep)
            (first
                | (go_at_call 14; refine (h1 _ _ _ _ p5).mono ?_; rintro e w4 ⟨rfl, p4, f4⟩; have hB4 := f4.blk hB5 hzF; have q1 : w4.cell? ⟨z, 1, none⟩ = some (.int .i64 K1) := hB4.cell 1; have q2 : w4.cell? ⟨z, 2, none⟩ = some (.int .i64 K2) := hB4.cell 2; have q3 : w4.cell? ⟨z, 3, none⟩ = some (.int .i64 K3) := hB4.cell 3; have hSw : Sw w w4 g g' z (i + 1) #[.int .i64 K0, .int .i64 K1, .int .i64 K2, .int .i64 K3, .string si] := ⟨_, _, _, _, by omega, hR5, p4, hB4⟩)
                | (go_at_call 24; refine (h2 _ _ _ _ p3).mono ?_; rintro e w4 ⟨rfl, l4, p4, hR4, hl4, f4⟩; have hB4 := f4.blk hB3 hzF'; have q1 : w4.cell? ⟨z, 1, none⟩ = some (.int .i64 K1) := hB4.cell 1; have q2 : w4.cell? ⟨z, 2, none⟩ = some (.int .i64 K2) := hB4.cell 2; have q3 : w4.cell? ⟨z, 3, none⟩ = some (.int .i64 K3) := hB4.cell 3; have hSw : Sw w w4 g g' z (i + 1) #[.int .i64 K0, .int .i64 K1, .int .i64 K2, .int .i64 K3, .string si] := ⟨_, _, _, _, by omega, hR4, p4, hB4⟩)
                | (go_at_call 14; refine (h1 _ _ _ _ hsd).mono ?_; rintro e w3 ⟨rfl, p3, f3⟩; have hB3 := f3.blk hBd hzF; have q1 : w3.cell? ⟨z, 1, none⟩ = some (.int .i64 K1) := hB3.cell 1; have q2 : w3.cell? ⟨z, 2, none⟩ = some (.int .i64 K2) := hB3.cell 2; have q3 : w3.cell? ⟨z, 3, none⟩ = some (.int .i64 K3) := hB3.cell 3)
                | (go_at_call 24; refine (h2 _ _ _ _ hsd).mono ?_; rintro e w3 ⟨rfl, l5, p5, hR5, hl5, f5⟩; have hB5 := f5.blk hBd hzF'; have q1 : w3.cell? ⟨z, 1, none⟩ = some (.int .i64 K1) := hB5.cell 1; have q2 : w3.cell? ⟨z, 2, none⟩ = some (.int .i64 K2) := hB5.cell 2; have q3 : w3.cell? ⟨z, 3, none⟩ = some (.int .i64 K3) := hB5.cell 3))
          all_goals go_wp2_with fail
          all_goals go_meet
          all_goals exact ⟨rfl, hSw⟩
        · as_aux_lemma =>
          have e4 : (k == 4) = false := by rw [beq_eq_false_iff_ne]; omega
          have e5 : (k == 5) = false := by rw [beq_eq_false_iff_ne]; omega
          have e6 : (k == 6) = false := by rw [beq_eq_false_iff_ne]; omega
          have e7 : (k == 7) = false := by rw [beq_eq_false_iff_ne]; omega
          have e8 : (k == 8) = false := by rw [beq_eq_false_iff_ne]; omega
          have e9 : (k == 9) = true := by rw [beq_iff_eq]; exact hk
          clear hk hk0 hk9
          obtain ⟨c, Ls', l', hc, hl', hR', h1, h2⟩ := void_ls_any hs hR K1
          have er : ((c : Int) == (c : Int)) = true := by simp
          have hsd := hs.drewN 1
          have hBd : Blk (wa.drewN 1) z 29 #[.int .i64 K0, .int .i64 K1, .int .i64 K2, .int .i64 K3, .string si] := hB
          go_wp2_with fail
          go_region_held3 (fun w' => w'.cell? ⟨z, 1, none⟩ = some (.int .i64 K1) ∧ w'.cell? ⟨z, 2, none⟩ = some (.int .i64 K2) ∧ w'.cell? ⟨z, 3, none⟩ = some (.int .i64 K3)) (go_keep)
            (first
                | (go_at_call 19; refine (h1 _ _ _ p5).mono ?_; rintro e w4 ⟨rfl, p4, f4⟩; have hB4 := f4.blk hB5 hzF; have q1 : w4.cell? ⟨z, 1, none⟩ = some (.int .i64 K1) := hB4.cell 1; have q2 : w4.cell? ⟨z, 2, none⟩ = some (.int .i64 K2) := hB4.cell 2; have q3 : w4.cell? ⟨z, 3, none⟩ = some (.int .i64 K3) := hB4.cell 3; have hSw : Sw w w4 g g' z (i + 1) #[.int .i64 K0, .int .i64 K1, .int .i64 K2, .int .i64 K3, .string si] := ⟨_, _, _, _, by omega, hR', p4, hB4⟩)
                | (go_at_call 25; refine (h2 _ _ _ p3).mono ?_; rintro e w4 ⟨rfl, p4, f4⟩; have hB4 := f4.blk hB3 hzF'; have q1 : w4.cell? ⟨z, 1, none⟩ = some (.int .i64 K1) := hB4.cell 1; have q2 : w4.cell? ⟨z, 2, none⟩ = some (.int .i64 K2) := hB4.cell 2; have q3 : w4.cell? ⟨z, 3, none⟩ = some (.int .i64 K3) := hB4.cell 3; have hSw : Sw w w4 g g' z (i + 1) #[.int .i64 K0, .int .i64 K1, .int .i64 K2, .int .i64 K3, .string si] := ⟨_, _, _, _, by omega, hR', p4, hB4⟩)
                | (go_at_call 19; refine (h1 _ _ _ hsd).mono ?_; rintro e w3 ⟨rfl, p3, f3⟩; have hB3 := f3.blk hBd hzF; have q1 : w3.cell? ⟨z, 1, none⟩ = some (.int .i64 K1) := hB3.cell 1; have q2 : w3.cell? ⟨z, 2, none⟩ = some (.int .i64 K2) := hB3.cell 2; have q3 : w3.cell? ⟨z, 3, none⟩ = some (.int .i64 K3) := hB3.cell 3)
                | (go_at_call 25; refine (h2 _ _ _ hsd).mono ?_; rintro e w3 ⟨rfl, p5, f5⟩; have hB5 := f5.blk hBd hzF'; have q1 : w3.cell? ⟨z, 1, none⟩ = some (.int .i64 K1) := hB5.cell 1; have q2 : w3.cell? ⟨z, 2, none⟩ = some (.int .i64 K2) := hB5.cell 2; have q3 : w3.cell? ⟨z, 3, none⟩ = some (.int .i64 K3) := hB5.cell 3))
          all_goals go_wp2_with fail
          all_goals go_meet
          all_goals exact ⟨rfl, hSw⟩
        · as_aux_lemma =>
          have e4 : (k == 4) = false := by rw [beq_eq_false_iff_ne]; omega
          have e5 : (k == 5) = false := by rw [beq_eq_false_iff_ne]; omega
          have e6 : (k == 6) = false := by rw [beq_eq_false_iff_ne]; omega
          have e7 : (k == 7) = false := by rw [beq_eq_false_iff_ne]; omega
          have e8 : (k == 8) = false := by rw [beq_eq_false_iff_ne]; omega
          have e9 : (k == 9) = false := by rw [beq_eq_false_iff_ne]; omega
          clear hk hk0 hk9
          obtain ⟨s, hsz, HS⟩ := short_one si 100 (by omega)
          replace HS : ∀ w, Calls Try.prog 12 #[.string si, .int .i64 100] w fun e w' => e = .returned (.string s) ∧ w = w' := HS
          obtain ⟨r, Ls', h1, h2⟩ := both_send (B := w) (g := g) (g' := g') hR (by omega) K1 K2 s (by omega)
          have er : (r == r) = true := by simp
          go_wp2_with fail
          refine (HS _).mono ?_
          rintro e wa' ⟨rfl, rfl⟩
          have hsd := hs.drewN 1
          have hBd : Blk (wa.drewN 1) z 29 #[.int .i64 K0, .int .i64 K1, .int .i64 K2, .int .i64 K3, .string si] := hB
          go_wp2_with fail
          go_region_held3 (fun w' => w'.cell? ⟨z, 1, none⟩ = some (.int .i64 K1) ∧ w'.cell? ⟨z, 2, none⟩ = some (.int .i64 K2) ∧ w'.cell? ⟨z, 3, none⟩ = some (.int .i64 K3)) (go_keep)
            (first
                | (go_at_call 13; refine (h1 _ _ _ _ p5).mono ?_; rintro e w4 ⟨rfl, p4, f4⟩; have hB4 := f4.blk hB5 hzF; have q1 : w4.cell? ⟨z, 1, none⟩ = some (.int .i64 K1) := hB4.cell 1; have q2 : w4.cell? ⟨z, 2, none⟩ = some (.int .i64 K2) := hB4.cell 2; have q3 : w4.cell? ⟨z, 3, none⟩ = some (.int .i64 K3) := hB4.cell 3; have hSw : Sw w w4 g g' z (i + 1) #[.int .i64 K0, .int .i64 K1, .int .i64 K2, .int .i64 K3, .string si] := ⟨_, _, _, _, by omega, hR5, p4, hB4⟩)
                | (go_at_call 26; refine (h2 _ _ _ _ p3).mono ?_; rintro e w4 ⟨rfl, l4, p4, hR4, hl4, f4⟩; have hB4 := f4.blk hB3 hzF'; have q1 : w4.cell? ⟨z, 1, none⟩ = some (.int .i64 K1) := hB4.cell 1; have q2 : w4.cell? ⟨z, 2, none⟩ = some (.int .i64 K2) := hB4.cell 2; have q3 : w4.cell? ⟨z, 3, none⟩ = some (.int .i64 K3) := hB4.cell 3; have hSw : Sw w w4 g g' z (i + 1) #[.int .i64 K0, .int .i64 K1, .int .i64 K2, .int .i64 K3, .string si] := ⟨_, _, _, _, by omega, hR4, p4, hB4⟩)
                | (go_at_call 13; refine (h1 _ _ _ _ hsd).mono ?_; rintro e w3 ⟨rfl, p3, f3⟩; have hB3 := f3.blk hBd hzF; have q1 : w3.cell? ⟨z, 1, none⟩ = some (.int .i64 K1) := hB3.cell 1; have q2 : w3.cell? ⟨z, 2, none⟩ = some (.int .i64 K2) := hB3.cell 2; have q3 : w3.cell? ⟨z, 3, none⟩ = some (.int .i64 K3) := hB3.cell 3)
                | (go_at_call 26; refine (h2 _ _ _ _ hsd).mono ?_; rintro e w3 ⟨rfl, l5, p5, hR5, hl5, f5⟩; have hB5 := f5.blk hBd hzF'; have q1 : w3.cell? ⟨z, 1, none⟩ = some (.int .i64 K1) := hB5.cell 1; have q2 : w3.cell? ⟨z, 2, none⟩ = some (.int .i64 K2) := hB5.cell 2; have q3 : w3.cell? ⟨z, 3, none⟩ = some (.int .i64 K3) := hB5.cell 3))
          all_goals go_wp2_with fail
          all_goals go_meet
          all_goals exact ⟨rfl, hSw⟩
      case rest =>
      obtain ⟨rfl, F2, Ls2, F2', l2, hl2, hR2, p2, hB2⟩ := hcut
      clear hs hB hzF hzF' hR
      have hfw := hR2.waits K1 K2
      have hra := hR2.all
      have hcap := allUp_le p2.ls.net.cap 8
      rw [show allUp Ls2 8 = fAll Ls2 from rfl] at hcap
      generalize hfn : fWaits Ls2 K1 K2 = fn at *
      go_wp2_with fail
      refine (all_any p2.ls.net).mono ?_
      rintro e w5 ⟨v5, rfl, ho5, hb5⟩
      have p5 := p2.low hb5
      have hB5 := (Fr.of_below hb5 fun _ => False).blk hB2 (fun h => h)
      obtain ⟨A5, c5, rfl, _, _⟩ := Reads.of_own ho5
      go_wp2_with fail
      refine (rall_any p5.rn).mono ?_
      rintro e w6 ⟨v6, rfl, ho6, hb6⟩
      have p6 := p5.low hb6
      have hB6 := (Fr.of_below hb6 fun _ => False).blk hB5 (fun h => h)
      replace ho5 := (Fr.of_below hb6 fun _ => False).own ho5 (fun _ _ h => h)
      rw [hra] at ho6
      obtain ⟨A5', c5', he5, _, hR5⟩ := Reads.of_own ho5
      obtain ⟨rfl, rfl⟩ : A5 = A5' ∧ c5 = c5' := by simpa using he5
      obtain ⟨A6, c6, rfl, _, hR6⟩ := Reads.of_own ho6
      clear ho5 ho6 p5 p2 hB5 hB2 he5
      go_wp2_with fail
      refine (same_true rfl hR5 hR6 (by omega)).mono ?_
      rintro e w7 ⟨rfl, hb7⟩
      have p7 := p6.low hb7
      have hB7 := (Fr.of_below hb7 fun _ => False).blk hB6 (fun h => h)
      clear p6 hB6 hb7 hb6 hb5 hR5 hR6
      have q1 : w7.cell? ⟨z, 1, none⟩ = some (.int .i64 K1) := hB7.cell 1
      have q2 : w7.cell? ⟨z, 2, none⟩ = some (.int .i64 K2) := hB7.cell 2
      have cw : ∀ k, Calls Try.prog 15 #[.pointer (some ⟨g, 0, none⟩), .int .i64 K1, .int .i64 K2] (w7.drewN k) fun e w' => e = .returned (.int .i64 (fn : Nat)) ∧ ∃ m, w' = w7.drewN m :=
        fun k => (waits_ls (p7.drewN k).ls K1 K2 fn hfn).mono fun e w' ⟨e1, e2⟩ => ⟨e1, k, e2.symm⟩
      have crw : ∀ k, Calls Try.prog 28 #[.pointer (some ⟨g', 0, none⟩), .int .i64 K1, .int .i64 K2] (w7.drewN k) fun e w' => e = .returned (.int .i64 (fn : Nat)) ∧ ∃ m, w' = w7.drewN m :=
        fun k => (rwaits_any (p7.drewN k).rn K1 K2).mono fun e w' ⟨e1, e2⟩ => ⟨by rw [e1, hfw], k, e2.symm⟩
      have CW := Lib.hid cw; have CRW := Lib.hid crw; clear cw crw
      have en : ((fn : Int) != (fn : Int)) = false := by simp
      clear hfw hra hfn hcap
      go_wp2_with fail
      go_quiet ((first | (go_at_call 15; exact CW.out _) | (go_at_call 28; exact CRW.out _)))
      go_wp2_with fail
      go_roundw
      case rel => exact ⟨i + 1, _, _, _, _, vint (by omega), by omega, by omega, hl2, hR2, p7.drewN _⟩
      case measure => simp [intOf]; omega
    · rcases (show (i < len ∧ 100 ≤ i) ∨ len ≤ i by omega) with ⟨h1, h2⟩ | h1
      · have hd20 : decide ((i : Int) < 100) = false := by rw [decide_eq_false_iff_not]; omega
        go_wp2_with fail
        go_ret
        exact ⟨rfl, hs.ls.b⟩
      · go_wp2_with fail
        go_ret
        exact ⟨rfl, hs.ls.b⟩
end Go.Proofs.Ytikblgnpabonjaa
