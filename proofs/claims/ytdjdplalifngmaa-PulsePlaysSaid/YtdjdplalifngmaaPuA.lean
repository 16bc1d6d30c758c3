import Derived.Test.YtdjdplalifngmaaRows
import Derived.Test.YtdjdplalifngmaaBase
namespace Go.Proofs.Ytdjdplalifngmaa
open Go.RowKit
set_option linter.unusedVariables false
attribute [local go_sem] b_max2 b_min2 b_max b_min

/-- the cells of a pulse: one less than the limit; of each node whether it is watched, and its ticks -/
def st (o : Bool × Int) : List Value := [.bool o.1, .int .i64 o.2]
def cellsS (m : Int) (s : List (Bool × Int)) : Array Value := (.int .i64 m :: s.flatMap st).toArray
structure IsP (w : World) (g : Nat) (m : Int) (s : List (Bool × Int)) : Prop where
  len : s.length = 8
  blk : Blk w g 47 (cellsS m s)
  m0 : 0 ≤ m
  m1 : m ≤ 999
  q0 : ∀ o ∈ s, 0 ≤ o.2 ∧ o.2 ≤ m + 1

theorem st_len (o : Bool × Int) : (st o).length = 2 := rfl
section
variable {w w' : World} {g : Nat} {m : Int} {s : List (Bool × Int)}
theorem IsP.cm (h : IsP w g m s) : w.cell? ⟨g, 0, none⟩ = some (.int .i64 m) := h.blk.cell 0
theorem IsP.cell (h : IsP w g m s) (k : Nat) (hk : k < s.length) : w.cell? ⟨g, 1 + k * 2, none⟩ = some (.bool (s[k]).1) ∧ w.cell? ⟨g, 1 + k * 2 + 1, none⟩ = some (.int .i64 (s[k]).2) := by
  have e := fun j hj => flat_get st 2 st_len s k j hk hj
  constructor
  · rw [h.blk.cell, cellsS, List.getElem?_toArray, show 1 + k * 2 = (k * 2 + 0) + 1 by omega, List.getElem?_cons_succ]; exact e 0 (by omega)
  · rw [h.blk.cell, cellsS, List.getElem?_toArray, show 1 + k * 2 + 1 = (k * 2 + 1) + 1 by omega, List.getElem?_cons_succ]; exact e 1 (by omega)
theorem IsP.grown (h : IsP w g m s) {r : Option Nat} (hg : w.grownBy w' r) (hr : some g ≠ r) : IsP w' g m s := ⟨h.len, h.blk.grown hg hr, h.m0, h.m1, h.q0⟩
theorem IsP.drewN (h : IsP w g m s) (n : Nat) : IsP (w.drewN n) g m s := ⟨h.len, h.blk, h.m0, h.m1, h.q0⟩
theorem IsP.alloc (h : IsP w g m s) (o : Obj) : IsP (w.alloc o) g m s := ⟨h.len, h.blk.alloc o, h.m0, h.m1, h.q0⟩
theorem IsP.below (h : IsP w g m s) {B : Nat} (hb : Below B w w') (hg : g < B) : IsP w' g m s := ⟨h.len, h.blk.below hb hg, h.m0, h.m1, h.q0⟩
theorem set_mem {α : Type} {P : α → Prop} {s : List α} (h : ∀ o ∈ s, P o) (k : Nat) (a : α) (ha : P a) : ∀ o ∈ s.set k a, P o := by
  intro o ho
  rcases List.mem_or_eq_of_mem_set ho with h1 | h1
  · exact h o h1
  · rw [h1]; exact ha
/-- both cells of a node are written -/
theorem IsP.set2 (h : IsP w g m s) (k : Nat) (hk : k < s.length) (b : Bool) (q : Int) (hq : 0 ≤ q ∧ q ≤ m + 1) :
    IsP ((w.setCell ⟨g, 1 + k * 2, none⟩ (.bool b)).setCell ⟨g, 1 + k * 2 + 1, none⟩ (.int .i64 q)) g m (s.set k (b, q)) := by
  refine ⟨by simpa using h.len, ?_, h.m0, h.m1, set_mem h.q0 k _ hq⟩
  have e := (h.blk.set_ (1 + k * 2) (.bool b)).set_ (1 + k * 2 + 1) (.int .i64 q)
  have e2 : ((cellsS m s).setIfInBounds (1 + k * 2) (.bool b)).setIfInBounds (1 + k * 2 + 1) (.int .i64 q) = cellsS m (s.set k (b, q)) := by
    apply Array.ext'
    rw [Array.toList_setIfInBounds, Array.toList_setIfInBounds, cellsS, cellsS]
    show ((Value.int .i64 m :: s.flatMap st).set (1 + k * 2) (.bool b)).set (1 + k * 2 + 1) (.int .i64 q) = Value.int .i64 m :: (s.set k (b, q)).flatMap st
    have x1 : (s.set k (b, (s[k]).2)).flatMap st = (s.flatMap st).set (k * 2 + 0) (.bool b) := flat_set st 2 st_len s k 0 hk _ _ (by omega) rfl
    have x2 : ((s.set k (b, (s[k]).2)).set k (b, q)).flatMap st = ((s.set k (b, (s[k]).2)).flatMap st).set (k * 2 + 1) (.int .i64 q) := flat_set st 2 st_len _ k 1 (by simpa using hk) _ _ (by omega) (by simp [st])
    rw [List.set_set] at x2
    rw [x2, x1, show 1 + k * 2 = (k * 2 + 0) + 1 by omega, List.set_cons_succ, show k * 2 + 0 + 1 + 1 = (k * 2 + 1) + 1 by omega, List.set_cons_succ]
    rfl
  rw [← e2]; exact e
/-- the ticks of a node are written -/
theorem IsP.set1 (h : IsP w g m s) (k : Nat) (hk : k < s.length) (q : Int) (hq : 0 ≤ q ∧ q ≤ m + 1) :
    IsP (w.setCell ⟨g, 1 + k * 2 + 1, none⟩ (.int .i64 q)) g m (s.set k ((s[k]).1, q)) := by
  refine ⟨by simpa using h.len, ?_, h.m0, h.m1, set_mem h.q0 k _ hq⟩
  have e := h.blk.set_ (1 + k * 2 + 1) (.int .i64 q)
  have e2 : (cellsS m s).setIfInBounds (1 + k * 2 + 1) (.int .i64 q) = cellsS m (s.set k ((s[k]).1, q)) := by
    apply Array.ext'
    rw [Array.toList_setIfInBounds, cellsS, cellsS]
    show (Value.int .i64 m :: s.flatMap st).set (1 + k * 2 + 1) (.int .i64 q) = Value.int .i64 m :: (s.set k ((s[k]).1, q)).flatMap st
    have x2 : (s.set k ((s[k]).1, q)).flatMap st = (s.flatMap st).set (k * 2 + 1) (.int .i64 q) := flat_set st 2 st_len _ k 1 hk _ _ (by omega) (by simp [st])
    rw [x2, show 1 + k * 2 + 1 = (k * 2 + 1) + 1 by omega, List.set_cons_succ]
  rw [← e2]; exact e
end

/-! ### what the calls do -/
def seenB (s : List (Bool × Int)) (n : Int) : Bool := decide (0 ≤ n) && (s.getD n.toNat (false, 0)).1
def fWatch (s : List (Bool × Int)) (n : Int) : List (Bool × Int) := if 0 ≤ n ∧ n < 8 ∧ seenB s n = false then s.set n.toNat (true, 0) else s
def fForget (s : List (Bool × Int)) (n : Int) : List (Bool × Int) := if seenB s n then s.set n.toNat (false, 0) else s
def fHeard (s : List (Bool × Int)) (n : Int) : List (Bool × Int) := if seenB s n then s.set n.toNat (true, 0) else s
def fQuiet (s : List (Bool × Int)) (n : Int) : Int := if seenB s n then (s.getD n.toNat (false, 0)).2 else -1
def tick1 (m : Int) (o : Bool × Int) : Bool × Int := if o.1 then (true, min (o.2 + 1) (m + 1)) else o
def fTick (m : Int) (s : List (Bool × Int)) : List (Bool × Int) := s.map (tick1 m)

theorem seenB_in {s : List (Bool × Int)} {k : Nat} (hk : k < s.length) : seenB s k = (s[k]).1 := by
  simp [seenB, List.getD_eq_getElem?_getD, hk]
theorem seenB_out {s : List (Bool × Int)} {n : Int} (h8 : s.length = 8) (h : n < 0 ∨ 8 ≤ n) : seenB s n = false := by
  unfold seenB
  rcases h with h | h
  · simp [show ¬ 0 ≤ n by omega]
  · have : s.length ≤ n.toNat := by omega
    simp [List.getD_eq_getElem?_getD, List.getElem?_eq_none this]
theorem node_cases (n : Int) : (n < 0 ∨ 8 ≤ n) ∨ ∃ k : Nat, n = k ∧ k < 8 := by
  by_cases h : n < 0 ∨ 8 ≤ n
  · exact .inl h
  · exact .inr ⟨n.toNat, by omega, by omega⟩

theorem get_in (g k : Nat) (w : World) (hk : k < 8) : Calls Try.prog 23 #[.pointer (some ⟨g, 0, none⟩), .int .i64 k] w fun e w' => e = .returned (.pointer (some ⟨g, 1 + k * 2, none⟩)) ∧ w = w' := by
  go_enter Try.func23, Try.ntmps23
  go_wp2
  go_ret
  exact ⟨rfl, rfl⟩
theorem get_out (a : Option Addr) (n : Int) (w : World) (h : n < 0 ∨ 8 ≤ n ∨ a = none) : Calls Try.prog 23 #[.pointer a, .int .i64 n] w fun e w' => e = .returned (.pointer none) ∧ w = w' := by
  cases a with
  | none =>
    go_enter Try.func23, Try.ntmps23
    go_wp2
    all_goals go_ret
    all_goals exact ⟨rfl, rfl⟩
  | some a =>
    by_cases h0 : n < 0
    · go_enter Try.func23, Try.ntmps23
      go_wp2
      all_goals go_ret
      all_goals exact ⟨rfl, rfl⟩
    · have h8 : 8 ≤ n := by simpa [h0] using h
      clear h
      go_enter Try.func23, Try.ntmps23
      go_wp2
      all_goals go_ret
      all_goals exact ⟨rfl, rfl⟩
theorem seen_in (g k : Nat) (w : World) (hk : k < 8) (b : Bool) (hc : w.cell? ⟨g, 1 + k * 2, none⟩ = some (.bool b)) : Calls Try.prog 24 #[.pointer (some ⟨g, 0, none⟩), .int .i64 k] w fun e w' => e = .returned (.pointer (if b then some ⟨g, 1 + k * 2, none⟩ else none)) ∧ w = w' := by
  cases b
  all_goals
    go_enter Try.func24, Try.ntmps24
    go_wp2_with fail
    refine (get_in g k _ hk).mono ?_
    rintro e w1 ⟨rfl, rfl⟩
    go_wp2
    go_ret
    exact ⟨rfl, rfl⟩
theorem seen_out (a : Option Addr) (n : Int) (w : World) (h : n < 0 ∨ 8 ≤ n ∨ a = none) : Calls Try.prog 24 #[.pointer a, .int .i64 n] w fun e w' => e = .returned (.pointer none) ∧ w = w' := by
  have H := Lib.hid h; clear h
  go_enter Try.func24, Try.ntmps24
  go_wp2_with fail
  refine (get_out a n _ H.out).mono ?_
  rintro e w1 ⟨rfl, rfl⟩
  go_wp2
  go_ret
  exact ⟨rfl, rfl⟩
/-- 'seen' of a pulse: the node's place where it is watched, else nil -/
theorem seen_yes {w : World} {g : Nat} {m : Int} {s : List (Bool × Int)} (h : IsP w g m s) (n : Int) (hs : seenB s n = true) :
    ∃ k : Nat, n = k ∧ k < 8 ∧ k < s.length ∧ Calls Try.prog 24 #[.pointer (some ⟨g, 0, none⟩), .int .i64 n] w fun e w' => e = .returned (.pointer (some ⟨g, 1 + k * 2, none⟩)) ∧ w = w' := by
  rcases node_cases n with ho | ⟨k, rfl, hk⟩
  · rw [seenB_out h.len ho] at hs; cases hs
  · have hl : k < s.length := by rw [h.len]; exact hk
    refine ⟨k, rfl, hk, hl, ?_⟩
    have := seen_in g k w hk true (by rw [(h.cell k hl).1, ← seenB_in hl, hs])
    exact this
theorem seen_no {w : World} {g : Nat} {m : Int} {s : List (Bool × Int)} (h : IsP w g m s) (n : Int) (hs : seenB s n = false) :
    Calls Try.prog 24 #[.pointer (some ⟨g, 0, none⟩), .int .i64 n] w fun e w' => e = .returned (.pointer none) ∧ w = w' := by
  rcases node_cases n with ho | ⟨k, rfl, hk⟩
  · exact seen_out _ n w (by omega)
  · have hl : k < s.length := by rw [h.len]; exact hk
    have := seen_in g k w hk false (by rw [(h.cell k hl).1, ← seenB_in hl, hs])
    exact this

theorem heard_any {w : World} {g : Nat} {m : Int} {s : List (Bool × Int)} (h : IsP w g m s) (n : Int) :
    Calls Try.prog 13 #[.pointer (some ⟨g, 0, none⟩), .int .i64 n] w fun e w' => e = .returned (.bool (seenB s n)) ∧ IsP w' g m (fHeard s n) ∧ w.grownBy w' (some g) := by
  cases hs : seenB s n
  · have hf : fHeard s n = s := by simp [fHeard, hs]
    rw [hf]; clear hf
    have c := seen_no h n hs
    have HS := Lib.hid hs; clear hs
    go_enter Try.func13, Try.ntmps13
    go_wp2_with fail
    refine c.mono ?_
    rintro e w1 ⟨rfl, rfl⟩
    go_wp2
    go_ret
    exact ⟨rfl, h, grownBy_refl _ _⟩
  · obtain ⟨k, rfl, hk, hl, c⟩ := seen_yes h n hs
    have b1 : (s[k]).1 = true := by rw [← seenB_in hl, hs]
    have hf : fHeard s k = s.set k ((s[k]).1, 0) := by simp [fHeard, hs, b1]
    rw [hf]
    have f1 := h.blk.frozen (1 + k * 2 + 1)
    obtain ⟨c1, c2⟩ := h.cell k hl
    have HS := Lib.hid hs; have HF := Lib.hid hf; have HB := Lib.hid b1; clear hs hf b1
    go_enter Try.func13, Try.ntmps13
    go_wp2_with fail
    refine c.mono ?_
    rintro e w1 ⟨rfl, rfl⟩
    go_wp2
    go_ret
    have := h.m0
    exact ⟨rfl, h.set1 k hl 0 (by omega), grownBy_setCell _ _ _ _⟩
theorem forget_any {w : World} {g : Nat} {m : Int} {s : List (Bool × Int)} (h : IsP w g m s) (n : Int) :
    Calls Try.prog 15 #[.pointer (some ⟨g, 0, none⟩), .int .i64 n] w fun e w' => e = .returned (.bool (seenB s n)) ∧ IsP w' g m (fForget s n) ∧ w.grownBy w' (some g) := by
  cases hs : seenB s n
  · have hf : fForget s n = s := by simp [fForget, hs]
    rw [hf]; clear hf
    have c := seen_no h n hs
    have HS := Lib.hid hs; clear hs
    go_enter Try.func15, Try.ntmps15
    go_wp2_with fail
    refine c.mono ?_
    rintro e w1 ⟨rfl, rfl⟩
    go_wp2
    go_ret
    exact ⟨rfl, h, grownBy_refl _ _⟩
  · obtain ⟨k, rfl, hk, hl, c⟩ := seen_yes h n hs
    have hf : fForget s k = s.set k (false, 0) := by simp [fForget, hs]
    rw [hf]
    have f0 := h.blk.frozen (1 + k * 2)
    have f1 := h.blk.frozen (1 + k * 2 + 1)
    obtain ⟨c1, c2⟩ := h.cell k hl
    have HS := Lib.hid hs; have HF := Lib.hid hf; clear hs hf
    go_enter Try.func15, Try.ntmps15
    go_wp2_with fail
    refine c.mono ?_
    rintro e w1 ⟨rfl, rfl⟩
    go_wp2
    go_ret
    have := h.m0
    exact ⟨rfl, h.set2 k hl false 0 (by omega), grownBy_trans (grownBy_setCell _ _ _ _) (grownBy_setCell _ _ _ _)⟩
theorem quiet_any {w : World} {g : Nat} {m : Int} {s : List (Bool × Int)} (h : IsP w g m s) (n : Int) :
    Calls Try.prog 14 #[.pointer (some ⟨g, 0, none⟩), .int .i64 n] w fun e w' => e = .returned (.int .i64 (fQuiet s n)) ∧ w = w' := by
  cases hs : seenB s n
  · have hf : fQuiet s n = -1 := by simp [fQuiet, hs]
    rw [hf]; clear hf
    have c := seen_no h n hs
    have HS := Lib.hid hs; clear hs
    go_enter Try.func14, Try.ntmps14
    go_wp2_with fail
    refine c.mono ?_
    rintro e w1 ⟨rfl, rfl⟩
    go_wp2
    go_ret
    exact ⟨rfl, rfl⟩
  · obtain ⟨k, rfl, hk, hl, c⟩ := seen_yes h n hs
    have hf : fQuiet s k = (s[k]).2 := by simp [fQuiet, hs, List.getD_eq_getElem?_getD, hl]
    rw [hf]
    obtain ⟨c1, c2⟩ := h.cell k hl
    have HS := Lib.hid hs; have HF := Lib.hid hf; clear hs hf
    go_enter Try.func14, Try.ntmps14
    go_wp2_with fail
    refine c.mono ?_
    rintro e w1 ⟨rfl, rfl⟩
    go_wp2
    go_ret
    exact ⟨rfl, rfl⟩
theorem watch_any {w : World} {g : Nat} {m : Int} {s : List (Bool × Int)} (h : IsP w g m s) (n : Int) :
    Calls Try.prog 10 #[.pointer (some ⟨g, 0, none⟩), .int .i64 n] w fun e w' => e = .returned (.bool (decide (0 ≤ n ∧ n < 8) && !seenB s n)) ∧ IsP w' g m (fWatch s n) ∧ w.grownBy w' (some g) := by
  rcases node_cases n with ho | ⟨k, rfl, hk⟩
  · have hf : fWatch s n = s := by rw [fWatch, if_neg (by omega)]
    have hd : decide (0 ≤ n ∧ n < 8) = false := by rw [decide_eq_false_iff_not]; omega
    rw [hf, hd, Bool.false_and]; clear hf hd
    have HO := Lib.hid ho; clear ho
    go_enter Try.func10, Try.ntmps10
    go_wp2_with fail
    refine (get_out _ n _ (by have := HO.out; omega)).mono ?_
    rintro e w1 ⟨rfl, rfl⟩
    go_wp2
    go_ret
    exact ⟨rfl, h, grownBy_refl _ _⟩
  · have hl : k < s.length := by rw [h.len]; exact hk
    have hd : decide (0 ≤ (k : Int) ∧ (k : Int) < 8) = true := by rw [decide_eq_true_eq]; omega
    rw [hd, Bool.true_and, fWatch, seenB_in hl]
    clear hd
    have f0 := h.blk.frozen (1 + k * 2)
    have f1 := h.blk.frozen (1 + k * 2 + 1)
    obtain ⟨c1, c2⟩ := h.cell k hl
    cases hb : (s[k]).1
    · rw [if_pos (by simp; omega)]
      rw [hb] at c1
      have HB := Lib.hid hb; clear hb
      go_enter Try.func10, Try.ntmps10
      go_wp2_with fail
      refine (get_in g k _ hk).mono ?_
      rintro e w1 ⟨rfl, rfl⟩
      go_wp2
      go_ret
      have := h.m0
      exact ⟨rfl, h.set2 k hl true 0 (by omega), grownBy_trans (grownBy_setCell _ _ _ _) (grownBy_setCell _ _ _ _)⟩
    · rw [if_neg (by simp)]
      rw [hb] at c1
      have HB := Lib.hid hb; clear hb
      go_enter Try.func10, Try.ntmps10
      go_wp2_with fail
      refine (get_in g k _ hk).mono ?_
      rintro e w1 ⟨rfl, rfl⟩
      go_wp2
      go_ret
      exact ⟨rfl, h, grownBy_refl _ _⟩
end Go.Proofs.Ytdjdplalifngmaa
