import Derived.Test.YtglglbbjacgbdaaDoorFr
import Derived.Sort.Walk0
namespace Go.Proofs.YtglglbbjacgbdaaDoor
open Go.RowKit
set_option linter.unusedVariables false
attribute [local go_sem] b_max2 b_min2 b_max b_min

/-! ### names, lists, nodes -/
/-- a name in a list: its bytes, and the block of what it names -/
abbrev Ch := ByteArray × Nat
structure NR where
  kind : Int
  links : Int
  data : ByteArray
  list : List Ch
def cellC (c : Ch) : List Value := [.string c.1, .pointer (some ⟨c.2, 0, none⟩)]
def cellsC (l : List Ch) : List Value := l.flatMap cellC
theorem cellsC_length (l : List Ch) : (cellsC l).length = l.length * 2 := by
  induction l with
  | nil => rfl
  | cons a l ih => rw [cellsC, List.flatMap_cons, List.length_append, ← cellsC, ih]; simp [cellC]; omega
theorem cellsC_get (l : List Ch) (i : Nat) (hi : i < l.length) : (cellsC l)[i * 2]? = some (.string (l.getD i (⟨#[]⟩, 0)).1) ∧ (cellsC l)[i * 2 + 1]? = some (.pointer (some ⟨(l.getD i (⟨#[]⟩, 0)).2, 0, none⟩)) := by
  induction l generalizing i with
  | nil => simp at hi
  | cons a l ih =>
    match i with
    | 0 => exact ⟨rfl, rfl⟩
    | i + 1 =>
      obtain ⟨h1, h2⟩ := ih i (by simpa using hi)
      have e : cellsC (a :: l) = .string a.1 :: .pointer (some ⟨a.2, 0, none⟩) :: cellsC l := rfl
      rw [e, show (i + 1) * 2 = i * 2 + 1 + 1 by omega]
      exact ⟨h1, h2⟩
theorem add_field (ad : Addr) (m j : Nat) (hj : 0 < j) : ad.add (m + j) = ⟨(ad.add m).block, (ad.add m).off + j, none⟩ := by
  unfold Addr.add
  by_cases hm : m = 0
  · subst hm
    simp [Nat.ne_of_gt hj]
  · simp [hm, Nat.add_assoc]
theorem kids_at {w : World} {B : Nat} {A : Option Addr} {l : List Ch} {n : Nat} (hr : Reads w B 2 A n (cellsC l)) (hn : l.length = n) {i : Nat} (hi : i < n) :
    ∃ ad, A = some ad ∧ ad.block < B ∧ w.cell? (ad.add (i * 2)) = some (.string (l.getD i (⟨#[]⟩, 0)).1) ∧ w.cell? ⟨(ad.add (i * 2)).block, (ad.add (i * 2)).off + 1, none⟩ = some (.pointer (some ⟨(l.getD i (⟨#[]⟩, 0)).2, 0, none⟩)) := by
  obtain ⟨ad, e, hb, hc⟩ := hr.2 (by omega)
  obtain ⟨h1, h2⟩ := cellsC_get l i (by omega)
  exact ⟨ad, e, hb, hc _ _ h1, by rw [← add_field _ _ 1 (by omega)]; exact hc _ _ h2⟩
/-- the order of names -/
def ltB (a b : ByteArray) : Bool := Op.bytesLess a.toList b.toList
theorem ltB_iff (a b : ByteArray) : ltB a b = true ↔ a.toList < b.toList := by unfold ltB; rw [bytesLess_eq, decide_eq_true_eq]
theorem ltB_irrefl (a : ByteArray) : ltB a a = false := by
  rw [Bool.eq_false_iff]; intro h; exact List.lt_irrefl _ ((ltB_iff _ _).1 h)
theorem ltB_trans {a b c : ByteArray} (h1 : ltB a b = true) (h2 : ltB b c = true) : ltB a c = true := (ltB_iff _ _).2 (List.lt_trans ((ltB_iff _ _).1 h1) ((ltB_iff _ _).1 h2))
theorem toList_inj {a b : ByteArray} (h : a.toList = b.toList) : a = b := by
  apply Classical.byContradiction
  intro e
  have := bne_list e
  rw [h] at this
  simp at this
theorem ltB_tri {a b : ByteArray} (h : ltB a b = false) (hne : a ≠ b) : ltB b a = true := by
  rw [ltB_iff]
  have h1 : ¬ a.toList < b.toList := fun e => by rw [(ltB_iff _ _).2 e] at h; cases h
  rcases List.le_iff_lt_or_eq.1 (List.not_lt.1 h1) with h2 | h2
  · exact h2
  · exact absurd (toList_inj h2).symm hne
def cmpB (a b : ByteArray) : Int := if ltB a b = true then -1 else if a = b then 0 else 1
theorem cmpB_neg (a b : ByteArray) : decide (cmpB a b < 0) = ltB a b := by
  unfold cmpB
  cases h : ltB a b
  · by_cases e : a = b
    · simp [e]
    · simp [e]
  · simp
theorem cmpB_zero (a b : ByteArray) : (cmpB a b == 0) = decide (a = b) := by
  unfold cmpB
  cases h : ltB a b
  · by_cases e : a = b
    · simp [e]
    · simp [e]
  · by_cases e : a = b
    · rw [e, ltB_irrefl] at h; cases h
    · simp [e]
set_option maxRecDepth 100000 in
theorem nan_any (a : ByteArray) (w : World) : Calls Tryd.prog 58 #[.string a] w fun e w' => e = .returned (.bool false) ∧ w = w' := by
  have h := beq_list a
  go_enter Tryd.func58, Tryd.ntmps58
  go_wp2_with fail
  go_ret
  exact ⟨rfl, rfl⟩
set_option maxRecDepth 100000 in
theorem cmp_any (a b : ByteArray) (w : World) : Calls Tryd.prog 41 #[.string a, .string b] w fun e w' => e = .returned (.int .i64 (cmpB a b)) ∧ w = w' := by
  have ha := nan_any a w
  have hb := nan_any b w
  by_cases h1 : ltB a b = true
  · have e : cmpB a b = -1 := if_pos h1
    rw [e]
    clear e
    unfold ltB at h1
    go_enter Tryd.func41, Tryd.ntmps41
    go_wp2_with fail
    refine ha.mono ?_
    rintro e w1 ⟨rfl, rfl⟩
    go_wp2_with fail
    refine hb.mono ?_
    rintro e w1 ⟨rfl, rfl⟩
    clear ha hb
    go_wp2_with fail
    go_ret
    exact ⟨rfl, rfl⟩
  · have h1' : Op.bytesLess a.toList b.toList = false := by simpa [ltB] using h1
    by_cases h2 : a = b
    · have e : cmpB a b = 0 := (if_neg h1).trans (if_pos h2)
      rw [e]
      have h3 : (a.toList == b.toList) = true := by rw [h2]; exact beq_list _
      clear e h1 h2
      go_enter Tryd.func41, Tryd.ntmps41
      go_wp2_with fail
      refine ha.mono ?_
      rintro e w1 ⟨rfl, rfl⟩
      go_wp2_with fail
      refine hb.mono ?_
      rintro e w1 ⟨rfl, rfl⟩
      clear ha hb
      go_wp2_with fail
      go_ret
      exact ⟨rfl, rfl⟩
    · have e : cmpB a b = 1 := (if_neg h1).trans (if_neg h2)
      rw [e]
      have h3 : (a.toList == b.toList) = false := bne_list h2
      clear e h1 h2
      go_enter Tryd.func41, Tryd.ntmps41
      go_wp2_with fail
      refine ha.mono ?_
      rintro e w1 ⟨rfl, rfl⟩
      go_wp2_with fail
      refine hb.mono ?_
      rintro e w1 ⟨rfl, rfl⟩
      clear ha hb
      go_wp2_with fail
      go_ret
      exact ⟨rfl, rfl⟩
set_option maxRecDepth 100000 in
theorem plcmp_any (c : Ch) (s : ByteArray) (w : World) : Calls Tryd.prog 40 #[.agg #[.string c.1, .pointer (some ⟨c.2, 0, none⟩)], .string s] w fun e w' => e = .returned (.int .i64 (cmpB c.1 s)) ∧ Below w.heap.size w w' := by
  have hbe : Below w.heap.size w (w.alloc (.cells #[.string c.1, .pointer (some ⟨c.2, 0, none⟩)] 72)) := (Below.refl _ w).alloc (Nat.le_refl _) _
  have hc := cmp_any c.1 s (w.alloc (.cells #[.string c.1, .pointer (some ⟨c.2, 0, none⟩)] 72))
  go_enter Tryd.func40, Tryd.ntmps40
  go_wp2_with fail
  refine hc.mono ?_
  rintro e w1 ⟨rfl, rfl⟩
  go_wp2_with fail
  go_ret
  exact ⟨rfl, hbe⟩
end Go.Proofs.YtglglbbjacgbdaaDoor
