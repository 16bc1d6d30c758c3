import Derived.Test.YtikblgnpabonjaaBaR
namespace Go.Proofs.Ytikblgnpabonjaa
open Go.RowKit
set_option linter.unusedVariables false
attribute [local go_sem] b_max2 b_min2 b_max b_min

/-! ### the document's network -/
structure RN (w : World) (g : Nat) (F : Nat → Prop) (l : List Pc) (A : Option Addr) (c : Nat) : Prop where
  blk : Blk w g 50 #[.slice A l.length c]
  own : w.ownsRow 0 32 3 (.slice A l.length c) l.length (cellsQ l)
  fg : F g
  fo : ∀ k, (Value.slice A l.length c).ownBlock = some k → F k
  fb : ∀ k, F k → k < w.heap.size
  cap : l.length ≤ 20000
def RNet (w : World) (g : Nat) (F : Nat → Prop) (l : List Pc) : Prop := ∃ A c, RN w g F l A c
def isP (f t : Int) (p : Pc) : Bool := decide (((p.1 : Nat) : Int) = f) && decide (((p.2.1 : Nat) : Int) = t)
theorem isP_cases (f t : Int) (p : Pc) : (((p.1 : Nat) : Int) = f ∧ ((p.2.1 : Nat) : Int) = t ∧ isP f t p = true) ∨ (((p.1 : Nat) : Int) ≠ f ∧ isP f t p = false) ∨ (((p.1 : Nat) : Int) = f ∧ ((p.2.1 : Nat) : Int) ≠ t ∧ isP f t p = false) := by
  by_cases h1 : ((p.1 : Nat) : Int) = f
  · by_cases h2 : ((p.2.1 : Nat) : Int) = t
    · exact .inl ⟨h1, h2, by simp [isP, h1, h2]⟩
    · exact .inr (.inr ⟨h1, h2, by simp [isP, h2]⟩)
  · exact .inr (.inl ⟨h1, by simp [isP, h1]⟩)
theorem filter_take_succ (q : Pc → Bool) (l : List Pc) {i : Nat} (h : i < l.length) : (l.take (i + 1)).filter q = (l.take i).filter q ++ if q l[i] then [l[i]] else [] := by
  rw [List.take_succ_eq_append_getElem h, List.filter_append, List.filter_cons, List.filter_nil]

set_option maxRecDepth 100000 in
set_option maxHeartbeats 400000 in
theorem rlink_any (f t : Int) (w : World) : Calls Try.prog 35 #[.int .i64 f, .int .i64 t] w fun e w' => e = .returned (.bool (decide (isL f t))) ∧ w = w' := by
  by_cases a1 : 0 ≤ f
  · by_cases a2 : f < 8
    · by_cases a3 : 0 ≤ t
      · by_cases a4 : t < 8
        · by_cases a5 : f = t
          · subst a5
            have hd : decide (isL f f) = false := by rw [decide_eq_false_iff_not]; unfold isL; omega
            rw [hd]
            go_enter Try.func35, Try.ntmps35
            go_wp2_with fail
            go_ret
            exact ⟨rfl, rfl⟩
          · have hd : decide (isL f t) = true := by rw [decide_eq_true_eq]; exact ⟨a1, a2, a3, a4, a5⟩
            have hn : (f != t) = true := by simp; omega
            rw [hd]
            go_enter Try.func35, Try.ntmps35
            go_wp2_with fail
            go_ret
            exact ⟨rfl, rfl⟩
        · have hd : decide (isL f t) = false := by rw [decide_eq_false_iff_not]; unfold isL; omega
          have hn : decide (t < 8) = false := by rw [decide_eq_false_iff_not]; omega
          rw [hd]
          go_enter Try.func35, Try.ntmps35
          go_wp2_with fail
          go_ret
          exact ⟨rfl, rfl⟩
      · have hd : decide (isL f t) = false := by rw [decide_eq_false_iff_not]; unfold isL; omega
        have hn : decide (0 ≤ t) = false := by rw [decide_eq_false_iff_not]; omega
        rw [hd]
        go_enter Try.func35, Try.ntmps35
        go_wp2_with fail
        go_ret
        exact ⟨rfl, rfl⟩
    · have hd : decide (isL f t) = false := by rw [decide_eq_false_iff_not]; unfold isL; omega
      have hn : decide (f < 8) = false := by rw [decide_eq_false_iff_not]; omega
      rw [hd]
      go_enter Try.func35, Try.ntmps35
      go_wp2_with fail
      go_ret
      exact ⟨rfl, rfl⟩
  · have hd : decide (isL f t) = false := by rw [decide_eq_false_iff_not]; unfold isL; omega
    have hn : decide (0 ≤ f) = false := by rw [decide_eq_false_iff_not]; omega
    rw [hd]
    go_enter Try.func35, Try.ntmps35
    go_wp2_with fail
    go_ret
    exact ⟨rfl, rfl⟩

set_option maxRecDepth 100000 in
set_option maxHeartbeats 400000 in
theorem rwhich_any (x : Int) (k : Nat) (w : World) (x0 : -9223372036854775808 ≤ x) (x1 : x ≤ 9223372036854775807) (hk : 0 < k) (hk2 : k ≤ 100000) :
    Calls Try.prog 34 #[.int .i64 x, .int .i64 k] w fun e w' => e = .returned (.int .i64 (place x k : Nat)) ∧ w = w' := by
  have hx : ∃ M : Nat, (M : Int) = (if x < 0 then -(x + 1) else x) ∧ M ≤ 9223372036854775807 ∧ place x k = M % k := by
    by_cases hx0 : x < 0
    · exact ⟨(-(x + 1)).toNat, by rw [if_pos hx0]; omega, by omega, by unfold place; rw [if_pos hx0]⟩
    · exact ⟨x.toNat, by rw [if_neg hx0]; omega, by omega, by unfold place; rw [if_neg hx0]⟩
  obtain ⟨M, hM, hM2, hpl⟩ := hx
  have hmod : (M : Int).tmod (k : Int) = ((M % k : Nat) : Int) := by rw [Int.ofNat_tmod]
  rw [hpl]
  have hkk : ((k : Int) == 0) = false := by simp; omega
  have hmm : M % k < k := Nat.mod_lt _ hk
  have HM := Lib.hid hM; clear hM hpl
  generalize M % k = m at *
  go_enter Try.func34, Try.ntmps34
  go_upto_if 6 with (fail)
  go_cut [0] (fun s w' => s = .int .i64 M ∧ w = w')
  case first =>
    have hm := HM.out; clear HM
    by_cases hx0 : x < 0
    · rw [if_pos hx0] at hm
      go_wp2_with fail
      all_goals go_meet
      all_goals exact ⟨by rw [hm], rfl⟩
    · rw [if_neg hx0] at hm
      go_wp2_with fail
      all_goals go_meet
      all_goals exact ⟨by rw [hm], rfl⟩
  case rest =>
  obtain ⟨rfl, rfl⟩ := hcut
  go_wp2_with fail
  go_ret
  exact ⟨rfl, rfl⟩

set_option maxRecDepth 100000 in
set_option maxHeartbeats 1000000 in
theorem rwaits_any {w : World} {g : Nat} {F : Nat → Prop} {l : List Pc} (h : RNet w g F l) (f t : Int) :
    Calls Try.prog 28 #[.pointer (some ⟨g, 0, none⟩), .int .i64 f, .int .i64 t] w fun e w' => e = .returned (.int .i64 ((l.filter (isP f t)).length : Nat)) ∧ w = w' := by
  obtain ⟨A, c, h⟩ := h
  have hg : w.cell? ⟨g, 0, none⟩ = some (.slice A l.length c) := h.blk.cell 0
  obtain ⟨A', c', hAA, _, hR⟩ := Reads.of_own h.own
  obtain ⟨rfl, rfl⟩ : A = A' ∧ c = c' := by simpa using hAA
  have hcap := h.cap
  clear h hAA
  go_enter Try.func28, Try.ntmps28
  go_wp2_with fail
  go_loopw [7, 8] (fun v p wr => ∃ i : Nat, p = .int .i64 i ∧ i ≤ l.length ∧ v = .int .i64 (((l.take i).filter (isP f t)).length : Nat) ∧ w = wr) (fun _ p _ => l.length - (intOf p).toNat)
  case atStart => exact ⟨0, rfl, by omega, rfl, rfl⟩
  case round =>
    obtain ⟨i, rfl, hi, rfl, rfl⟩ := hrel
    by_cases hlt : i < l.length
    · obtain ⟨ad, rfl, _, k0, k1, _⟩ := pcs_at hR hlt
      have hs := filter_take_succ (isP f t) l hlt
      have hle : ((l.take i).filter (isP f t)).length ≤ 20000 := by
        have := List.length_filter_le (isP f t) (l.take i)
        rw [List.length_take] at this; omega
      generalize l[i] = p at *
      generalize (l.take i).filter (isP f t) = X at *
      have HS := Lib.hid hs; clear hs
      rcases isP_cases f t p with ⟨h1, h2, h3⟩ | ⟨h1, h3⟩ | ⟨h1, h2, h3⟩
      · have H3 := Lib.hid h3; clear h3
        have n1 : (((p.1 : Nat) : Int) == f) = true := by rw [beq_iff_eq]; exact h1
        have n2 : (((p.2.1 : Nat) : Int) == t) = true := by rw [beq_iff_eq]; exact h2
        clear h1 h2
        go_wp2_with fail
        go_roundw
        case rel => exact ⟨i + 1, vint (by omega), by omega, by rw [HS.out, H3.out, if_pos rfl, List.length_append]; exact vint (by simp), by first | rfl | trivial⟩
        case measure => simp [intOf]; omega
      · have H3 := Lib.hid h3; clear h3
        have n1 : (((p.1 : Nat) : Int) == f) = false := by rw [beq_eq_false_iff_ne]; exact h1
        clear h1
        go_wp2_with fail
        go_roundw
        case rel => exact ⟨i + 1, vint (by omega), by omega, by rw [HS.out, H3.out, if_neg (by simp), List.append_nil], by first | rfl | trivial⟩
        case measure => simp [intOf]; omega
      · have H3 := Lib.hid h3; clear h3
        have n1 : (((p.1 : Nat) : Int) == f) = true := by rw [beq_iff_eq]; exact h1
        have n2 : (((p.2.1 : Nat) : Int) == t) = false := by rw [beq_eq_false_iff_ne]; exact h2
        clear h1 h2
        go_wp2_with fail
        go_roundw
        case rel => exact ⟨i + 1, vint (by omega), by omega, by rw [HS.out, H3.out, if_neg (by simp), List.append_nil], by first | rfl | trivial⟩
        case measure => simp [intOf]; omega
    · obtain rfl : i = l.length := by omega
      rw [List.take_length]
      go_wp2_with fail
      go_ret
      exact ⟨rfl, rfl⟩

set_option maxRecDepth 100000 in
set_option maxHeartbeats 1000000 in
theorem rplace_none {w : World} {g : Nat} {F : Nat → Prop} {l : List Pc} (h : RNet w g F l) (f t x : Int) (h0 : (l.filter (isP f t)).length = 0) :
    Calls Try.prog 32 #[.pointer (some ⟨g, 0, none⟩), .int .i64 f, .int .i64 t, .int .i64 x] w fun e w' => e = .returned (.int .i64 (-1)) ∧ w = w' := by
  have c := rwaits_any h f t
  rw [h0] at c
  go_enter Try.func32, Try.ntmps32
  go_wp2_with fail
  refine c.mono ?_
  rintro e w1 ⟨rfl, rfl⟩
  go_wp2_with fail
  go_ret
  exact ⟨rfl, rfl⟩

set_option maxRecDepth 100000 in
set_option maxHeartbeats 1000000 in
theorem rplace_some {w : World} {g : Nat} {F : Nat → Prop} {l : List Pc} (h : RNet w g F l) (f t x : Int) (x0 : -9223372036854775808 ≤ x) (x1 : x ≤ 9223372036854775807) (n : Nat) (hn : (l.filter (isP f t)).length = n) (hpos : 0 < n) :
    Calls Try.prog 32 #[.pointer (some ⟨g, 0, none⟩), .int .i64 f, .int .i64 t, .int .i64 x] w fun e w' => ∃ I : Nat, (e = .returned (.int .i64 I) ∧ w = w') ∧ ∃ hI : I < l.length, isP f t l[I] = true ∧ ((l.take I).filter (isP f t)).length = place x n := by
  have c := rwaits_any h f t
  rw [hn] at c
  have hcap0 : n ≤ 20000 := by
    obtain ⟨A, c, h⟩ := h
    have := List.length_filter_le (isP f t) l
    have := h.cap
    omega
  obtain ⟨A, c', h⟩ := h
  have hg : w.cell? ⟨g, 0, none⟩ = some (.slice A l.length c') := h.blk.cell 0
  obtain ⟨A', c'', hAA, _, hR⟩ := Reads.of_own h.own
  obtain ⟨rfl, rfl⟩ : A = A' ∧ c' = c'' := by simpa using hAA
  have hcap := h.cap
  clear h hAA
  have hq := place_lt x hpos
  have HN := Lib.hid hn; clear hn
  have hn0 : ((n : Int) == 0) = false := by simp; omega
  have cw := rwhich_any x n w x0 x1 hpos (by omega)
  generalize place x n = q at *
  go_enter Try.func32, Try.ntmps32
  go_wp2_with fail
  refine c.mono ?_
  rintro e w1 ⟨rfl, rfl⟩
  go_wp2_with fail
  refine cw.mono ?_
  rintro e w1 ⟨rfl, rfl⟩
  clear c cw
  go_wp2_with fail
  go_loopw [10, 11] (fun v p wr => ∃ i m : Nat, p = .int .i64 i ∧ i ≤ l.length ∧ v = .int .i64 m ∧ m + ((l.take i).filter (isP f t)).length = q ∧ w = wr) (fun _ p _ => l.length - (intOf p).toNat)
  case atStart => exact ⟨0, q, rfl, by omega, rfl, by simp, rfl⟩
  case round =>
    obtain ⟨i, m, rfl, hi, rfl, hm, rfl⟩ := hrel
    by_cases hlt : i < l.length
    · obtain ⟨ad, rfl, _, k0, k1, _⟩ := pcs_at hR hlt
      have hs := filter_take_succ (isP f t) l hlt
      generalize hp : l[i] = p at *
      have HP := Lib.hid hp; clear hp
      have HS := Lib.hid hs; clear hs
      rcases isP_cases f t p with ⟨h1, h2, h3⟩ | ⟨h1, h3⟩ | ⟨h1, h2, h3⟩
      · have H3 := Lib.hid h3; clear h3
        have n1 : (((p.1 : Nat) : Int) == f) = true := by rw [beq_iff_eq]; exact h1
        have n2 : (((p.2.1 : Nat) : Int) == t) = true := by rw [beq_iff_eq]; exact h2
        clear h1 h2
        by_cases hm0 : m = 0
        · subst hm0
          have HM := Lib.hid hm; clear hm
          go_wp2_with fail
          go_ret
          exact ⟨i, ⟨rfl, rfl⟩, hlt, by rw [HP.out]; exact H3.out, by have := HM.out; omega⟩
        · have hm1 : ((m : Int) == 0) = false := by simp; omega
          have HM := Lib.hid hm; clear hm
          have hmq : m ≤ q := by have := HM.out; omega
          go_wp2_with fail
          go_roundw
          case rel => exact ⟨i + 1, m - 1, vint (by omega), by omega, vint (by omega), by have := HM.out; rw [HS.out, H3.out, if_pos rfl, List.length_append]; simp; omega, by first | rfl | trivial⟩
          case measure => simp [intOf]; omega
      · have H3 := Lib.hid h3; clear h3
        have n1 : (((p.1 : Nat) : Int) == f) = false := by rw [beq_eq_false_iff_ne]; exact h1
        have HM := Lib.hid hm; clear hm
        clear h1
        go_wp2_with fail
        go_roundw
        case rel => exact ⟨i + 1, m, vint (by omega), by omega, rfl, by rw [HS.out, H3.out, if_neg (by simp), List.append_nil]; exact HM.out, by first | rfl | trivial⟩
        case measure => simp [intOf]; omega
      · have H3 := Lib.hid h3; clear h3
        have n1 : (((p.1 : Nat) : Int) == f) = true := by rw [beq_iff_eq]; exact h1
        have n2 : (((p.2.1 : Nat) : Int) == t) = false := by rw [beq_eq_false_iff_ne]; exact h2
        have HM := Lib.hid hm; clear hm
        clear h1 h2
        go_wp2_with fail
        go_roundw
        case rel => exact ⟨i + 1, m, vint (by omega), by omega, rfl, by rw [HS.out, H3.out, if_neg (by simp), List.append_nil]; exact HM.out, by first | rfl | trivial⟩
        case measure => simp [intOf]; omega
    · obtain rfl : i = l.length := by omega
      rw [List.take_length, HN.out] at hm
      omega
end Go.Proofs.Ytikblgnpabonjaa
