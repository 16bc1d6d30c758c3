import Derived.Test.YtdjdplalifngmaaPuD
namespace Go.Proofs.Ytdjdplalifngmaa
open Go.RowKit
set_option linter.unusedVariables false
attribute [local go_sem] b_max2 b_min2 b_max b_min

/-- the document's pulse: limit, ticks so far, and of each node when it was heard of -/
def cellsR (L T : Int) (a : List Int) : Array Value := (.int .i64 L :: .int .i64 T :: a.map (Value.int .i64)).toArray
structure IsR (w : World) (g : Nat) (L T : Int) (a : List Int) : Prop where
  len : a.length = 8
  blk : Blk w g 39 (cellsR L T a)
  l0 : 1 ≤ L
  l1 : L ≤ 1000
  t0 : 0 ≤ T
  t1 : T ≤ 200
  a0 : ∀ o ∈ a, -1 ≤ o ∧ o ≤ T
section
variable {w w' : World} {g : Nat} {L T : Int} {a : List Int}
theorem IsR.cl (h : IsR w g L T a) : w.cell? ⟨g, 0, none⟩ = some (.int .i64 L) := h.blk.cell 0
theorem IsR.ct (h : IsR w g L T a) : w.cell? ⟨g, 1, none⟩ = some (.int .i64 T) := h.blk.cell 1
theorem IsR.cell (h : IsR w g L T a) (k : Nat) (hk : k < a.length) : w.cell? ⟨g, 2 + k, none⟩ = some (.int .i64 (a[k])) := by
  rw [h.blk.cell, cellsR, List.getElem?_toArray, show 2 + k = k + 1 + 1 by omega, List.getElem?_cons_succ, List.getElem?_cons_succ]
  simp [hk]
theorem IsR.grown (h : IsR w g L T a) {r : Option Nat} (hg : w.grownBy w' r) (hr : some g ≠ r) : IsR w' g L T a := ⟨h.len, h.blk.grown hg hr, h.l0, h.l1, h.t0, h.t1, h.a0⟩
theorem IsR.drewN (h : IsR w g L T a) (n : Nat) : IsR (w.drewN n) g L T a := ⟨h.len, h.blk, h.l0, h.l1, h.t0, h.t1, h.a0⟩
theorem IsR.alloc (h : IsR w g L T a) (o : Obj) : IsR (w.alloc o) g L T a := ⟨h.len, h.blk.alloc o, h.l0, h.l1, h.t0, h.t1, h.a0⟩
theorem IsR.below (h : IsR w g L T a) {B : Nat} (hb : Below B w w') (hg : g < B) : IsR w' g L T a := ⟨h.len, h.blk.below hb hg, h.l0, h.l1, h.t0, h.t1, h.a0⟩
theorem cellsR_set (L T : Int) (a : List Int) (k : Nat) (v : Int) : (cellsR L T a).setIfInBounds (2 + k) (.int .i64 v) = cellsR L T (a.set k v) := by
  apply Array.ext'
  rw [Array.toList_setIfInBounds, cellsR, cellsR]
  show (Value.int .i64 L :: Value.int .i64 T :: a.map (Value.int .i64)).set (2 + k) (.int .i64 v) = Value.int .i64 L :: Value.int .i64 T :: (a.set k v).map (Value.int .i64)
  rw [show 2 + k = k + 1 + 1 by omega, List.set_cons_succ, List.set_cons_succ, List.map_set]
theorem IsR.set (h : IsR w g L T a) (k : Nat) (v : Int) (hv : -1 ≤ v ∧ v ≤ T) : IsR (w.setCell ⟨g, 2 + k, none⟩ (.int .i64 v)) g L T (a.set k v) := by
  refine ⟨by simpa using h.len, ?_, h.l0, h.l1, h.t0, h.t1, set_mem h.a0 k _ hv⟩
  have e := h.blk.set_ (2 + k) (.int .i64 v)
  rwa [cellsR_set] at e
theorem IsR.tick (h : IsR w g L T a) (ht : T < 200) : IsR (w.setCell ⟨g, 1, none⟩ (.int .i64 (T + 1))) g L (T + 1) a := by
  refine ⟨h.len, h.blk.set_ 1 (.int .i64 (T + 1)), h.l0, h.l1, by have := h.t0; omega, by omega, fun o ho => by have := h.a0 o ho; omega⟩
end

def isB (a : List Int) (n : Int) : Bool := decide (0 ≤ n) && decide (0 ≤ a.getD n.toNat (-1))
theorem isB_in {a : List Int} {k : Nat} (hk : k < a.length) : isB a k = decide (0 ≤ a[k]) := by simp [isB, List.getD_eq_getElem?_getD, hk]
theorem isB_out {a : List Int} {n : Int} (h8 : a.length = 8) (h : n < 0 ∨ 8 ≤ n) : isB a n = false := by
  unfold isB
  rcases h with h | h
  · simp [show ¬ 0 ≤ n by omega]
  · have : a.length ≤ n.toNat := by omega
    simp [List.getD_eq_getElem?_getD, List.getElem?_eq_none this]
def rSet (a : List Int) (n v : Int) : List Int := if isB a n then a.set n.toNat v else a
def rWatch (a : List Int) (T n : Int) : List Int := if 0 ≤ n ∧ n < 8 ∧ isB a n = false then a.set n.toNat T else a
def rQuiet (a : List Int) (L T n : Int) : Int := if isB a n then min (T - a.getD n.toNat (-1)) L else -1

theorem is_any {w : World} {g : Nat} {L T : Int} {a : List Int} (h : IsR w g L T a) (n : Int) :
    Calls Try.prog 27 #[.pointer (some ⟨g, 0, none⟩), .int .i64 n] w fun e w' => e = .returned (.bool (isB a n)) ∧ w = w' := by
  rcases node_cases n with ho | ⟨k, rfl, hk⟩
  · rw [isB_out h.len ho]
    rcases ho with ho | ho
    · go_enter Try.func27, Try.ntmps27
      go_wp2
      all_goals go_ret
      all_goals exact ⟨rfl, rfl⟩
    · go_enter Try.func27, Try.ntmps27
      go_wp2
      all_goals go_ret
      all_goals exact ⟨rfl, rfl⟩
  · have hl : k < a.length := by rw [h.len]; exact hk
    rw [isB_in hl]
    have hc := h.cell k hl
    generalize a[k] = v at *
    go_enter Try.func27, Try.ntmps27
    go_wp2
    go_ret
    exact ⟨rfl, rfl⟩
theorem rset_any {w : World} {g : Nat} {L T : Int} {a : List Int} (h : IsR w g L T a) (n v : Int) (hv : -1 ≤ v ∧ v ≤ T) :
    Calls Try.prog 17 #[.pointer (some ⟨g, 0, none⟩), .int .i64 n, .int .i64 v] w fun e w' => e = .returned (.bool (isB a n)) ∧ IsR w' g L T (rSet a n v) ∧ w.grownBy w' (some g) := by
  have c := is_any h n
  have HV := Lib.hid hv; clear hv
  cases hs : isB a n
  · rw [hs] at c
    have hf : rSet a n v = a := by simp [rSet, hs]
    rw [hf]; clear hf hs
    go_enter Try.func17, Try.ntmps17
    go_wp2_with fail
    refine c.mono ?_
    rintro e w1 ⟨rfl, rfl⟩
    go_wp2
    go_ret
    exact ⟨rfl, h, grownBy_refl _ _⟩
  · rw [hs] at c
    rcases node_cases n with ho | ⟨k, rfl, hk⟩
    · rw [isB_out h.len ho] at hs; cases hs
    have hf : rSet a k v = a.set k v := by simp [rSet, hs]
    rw [hf]; clear hf hs
    have f1 := h.blk.frozen (2 + k)
    have hl : k < a.length := by rw [h.len]; exact hk
    have hc := h.cell k hl
    go_enter Try.func17, Try.ntmps17
    go_wp2_with fail
    refine c.mono ?_
    rintro e w1 ⟨rfl, rfl⟩
    go_wp2
    go_ret
    exact ⟨rfl, h.set k v HV.out, grownBy_setCell _ _ _ _⟩
theorem rwatch_any {w : World} {g : Nat} {L T : Int} {a : List Int} (h : IsR w g L T a) (n : Int) :
    Calls Try.prog 18 #[.pointer (some ⟨g, 0, none⟩), .int .i64 n] w fun e w' => e = .returned (.bool (decide (0 ≤ n ∧ n < 8) && !isB a n)) ∧ IsR w' g L T (rWatch a T n) ∧ w.grownBy w' (some g) := by
  have c := is_any h n
  rcases node_cases n with ho | ⟨k, rfl, hk⟩
  · have hf : rWatch a T n = a := by rw [rWatch, if_neg (by omega)]
    have hd : decide (0 ≤ n ∧ n < 8) = false := by rw [decide_eq_false_iff_not]; omega
    rw [isB_out h.len ho] at c
    rw [hf, hd, Bool.false_and]; clear hf hd
    rcases ho with ho | ho
    all_goals
      go_enter Try.func18, Try.ntmps18
      go_wp2_with fail
      refine c.mono ?_
      rintro e w1 ⟨rfl, rfl⟩
      go_wp2
      all_goals go_ret
      all_goals exact ⟨rfl, h, grownBy_refl _ _⟩
  · have hl : k < a.length := by rw [h.len]; exact hk
    have hd : decide (0 ≤ (k : Int) ∧ (k : Int) < 8) = true := by rw [decide_eq_true_eq]; omega
    rw [hd, Bool.true_and, rWatch]
    clear hd
    have hc := h.cell k hl
    have hct := h.ct
    have f1 := h.blk.frozen (2 + k)
    cases hs : isB a k
    · rw [hs] at c
      rw [if_pos (by simp; omega)]
      have HS := Lib.hid hs; clear hs
      go_enter Try.func18, Try.ntmps18
      go_wp2_with fail
      refine c.mono ?_
      rintro e w1 ⟨rfl, rfl⟩
      go_wp2_with fail
      go_region
      all_goals go_wp2_with fail
      go_ret
      have := h.t0
      exact ⟨rfl, (h.set k T (by omega)).drewN 1, grownBy_trans (grownBy_setCell _ _ _ _) (grownBy_drewN _ 1 _)⟩
    · rw [hs] at c
      rw [if_neg (by simp)]
      have HS := Lib.hid hs; clear hs
      go_enter Try.func18, Try.ntmps18
      go_wp2_with fail
      refine c.mono ?_
      rintro e w1 ⟨rfl, rfl⟩
      go_wp2
      go_ret
      exact ⟨rfl, h, grownBy_refl _ _⟩
theorem rquiet_any {w : World} {g : Nat} {L T : Int} {a : List Int} (h : IsR w g L T a) (n : Int) :
    Calls Try.prog 22 #[.pointer (some ⟨g, 0, none⟩), .int .i64 n] w fun e w' => e = .returned (.int .i64 (rQuiet a L T n)) ∧ ∃ m, w' = w.drewN m := by
  have c := is_any h n
  cases hs : isB a n
  · rw [hs] at c
    have hf : rQuiet a L T n = -1 := by simp [rQuiet, hs]
    rw [hf]; clear hf hs
    go_enter Try.func22, Try.ntmps22
    go_wp2_with fail
    refine c.mono ?_
    rintro e w1 ⟨rfl, rfl⟩
    go_wp2
    go_ret
    exact ⟨rfl, 0, rfl⟩
  · rw [hs] at c
    rcases node_cases n with ho | ⟨k, rfl, hk⟩
    · rw [isB_out h.len ho] at hs; cases hs
    have hl : k < a.length := by rw [h.len]; exact hk
    have hf : rQuiet a L T k = min (T - a[k]) L := by simp [rQuiet, hs, List.getD_eq_getElem?_getD, hl]
    rw [hf]; clear hf hs
    have hc := h.cell k hl
    have hct := h.ct
    have hcl := h.cl
    obtain ⟨b0, b1⟩ := h.a0 _ (List.getElem_mem hl)
    have t0 := h.t0
    have t1 := h.t1
    have l0 := h.l0
    have l1 := h.l1
    generalize a[k] = v at *
    have hw : IntKind.i64.wrap (T - v) = T - v := IntWalk.i64_in _ (by omega)
    go_enter Try.func22, Try.ntmps22
    go_wp2_with fail
    refine c.mono ?_
    rintro e w1 ⟨rfl, rfl⟩
    go_wp2_with fail
    go_quiet (fail)
    clear hw
    go_wp2_with fail
    all_goals go_ret
    all_goals exact ⟨ret_int (by omega), _, rfl⟩
end Go.Proofs.Ytdjdplalifngmaa
