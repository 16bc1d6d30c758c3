import Derived.Test.YtikblgnpabonjaaBaZ
namespace Go.Proofs.Ytikblgnpabonjaa
open Go.RowKit
set_option linter.unusedVariables false

theorem isL_nat {f t : Int} (h : isL f t) : ∃ a b : Nat, f = a ∧ t = b ∧ a < 8 ∧ b < 8 ∧ a ≠ b := by
  obtain ⟨h1, h2, h3, h4, h5⟩ := h
  obtain ⟨a, rfl⟩ := Int.eq_ofNat_of_zero_le h1
  obtain ⟨b, rfl⟩ := Int.eq_ofNat_of_zero_le h3
  exact ⟨a, b, rfl, rfl, by omega, by omega, by omega⟩
theorem plan_take {Ls : List (List ByteArray)} {l : List Pc} (h : Rel Ls l) (f t x : Int) :
    (canTake Ls f t = false ∧ (l.filter (isP f t)).length = 0 ∧ fTake Ls f t x = Ls ∧ tTake Ls f t x = ⟨#[]⟩) ∨
    (canTake Ls f t = true ∧ 0 < (l.filter (isP f t)).length ∧ ∀ I, isAt l f t x I → Rel (fTake Ls f t x) (l.eraseIdx I) ∧ (l.getD I (0, 0, ⟨#[]⟩)).2.2 = tTake Ls f t x) := by
  have hw := h.waits f t
  rcases Bool.eq_false_or_eq_true (canTake Ls f t) with hc | hc
  · refine .inr ⟨hc, ?_, fun I hI => ?_⟩
    · simp only [canTake, Bool.and_eq_true, decide_eq_true_eq] at hc
      rw [hw, fWaits, if_pos hc.1]; exact hc.2
    · have hc' := hc
      simp only [canTake, Bool.and_eq_true, decide_eq_true_eq] at hc'
      obtain ⟨a, b, rfl, rfl, ha, hb, hab⟩ := isL_nat hc'.1
      obtain ⟨k1, k2⟩ := h.erase ha hb hab hI
      rw [fTake, tTake, if_pos hc, if_pos hc]
      simp only [Int.toNat_natCast]
      exact ⟨k1, by rw [List.getD_eq_getElem?_getD, k2]; rfl⟩
  · refine .inl ⟨hc, ?_, by rw [fTake, hc, if_neg (by simp)], by rw [tTake, hc, if_neg (by simp)]⟩
    rw [hw, fWaits]
    split
    · rename_i hl
      rw [canTake, decide_eq_true hl, Bool.true_and, decide_eq_false_iff_not] at hc
      omega
    · rfl
theorem plan_double {Ls : List (List ByteArray)} {l : List Pc} (h : Rel Ls l) (f t x : Int) :
    (canDouble Ls f t = false ∧ ((l.filter (isP f t)).length = 0 ∨ 200 ≤ (l.filter (isP f t)).length) ∧ fDouble Ls f t x = Ls) ∨
    (canDouble Ls f t = true ∧ 0 < (l.filter (isP f t)).length ∧ (l.filter (isP f t)).length < 200 ∧ ∀ I, isAt l f t x I → Rel (fDouble Ls f t x) (l ++ [l.getD I (0, 0, ⟨#[]⟩)])) := by
  have hw := h.waits f t
  rcases Bool.eq_false_or_eq_true (canDouble Ls f t) with hc | hc
  · have hc' := hc
    simp only [canDouble, Bool.and_eq_true, decide_eq_true_eq] at hc'
    rw [fWaits, if_pos hc'.1] at hw
    refine .inr ⟨hc, by omega, by omega, fun I hI => ?_⟩
    obtain ⟨a, b, rfl, rfl, ha, hb, hab⟩ := isL_nat hc'.1
    obtain ⟨_, k2⟩ := h.erase ha hb hab hI
    have k3 : l.getD I (0, 0, ⟨#[]⟩) = (a, b, (lk Ls a b).getD (place x (lk Ls a b).length) ⟨#[]⟩) := by rw [List.getD_eq_getElem?_getD, k2]; rfl
    rw [fDouble, if_pos hc, k3]
    simp only [Int.toNat_natCast]
    exact h.add ha hb hab _
  · refine .inl ⟨hc, ?_, by rw [fDouble, hc, if_neg (by simp)]⟩
    rw [hw, fWaits]
    split
    · rename_i hl
      rw [canDouble, decide_eq_true hl, Bool.true_and, decide_eq_false_iff_not] at hc
      omega
    · exact .inl rfl
theorem plan_send {Ls : List (List ByteArray)} {l : List Pc} (h : Rel Ls l) (f t : Int) (s : ByteArray) :
    (canSend Ls f t s = false ∧ (¬ isL f t ∨ 2000 < s.size ∨ 200 ≤ (l.filter (isP f t)).length) ∧ fSend Ls f t s = Ls) ∨
    (canSend Ls f t s = true ∧ ∃ a b : Nat, f = a ∧ t = b ∧ a < 8 ∧ b < 8 ∧ a ≠ b ∧ s.size ≤ 2000 ∧ (l.filter (isP f t)).length < 200 ∧ Rel (fSend Ls f t s) (l ++ [(a, b, s)])) := by
  have hw := h.waits f t
  rcases Bool.eq_false_or_eq_true (canSend Ls f t s) with hc | hc
  · have hc' := hc
    simp only [canSend, Bool.and_eq_true, decide_eq_true_eq] at hc'
    rw [fWaits, if_pos hc'.1.1] at hw
    obtain ⟨a, b, rfl, rfl, ha, hb, hab⟩ := isL_nat hc'.1.1
    refine .inr ⟨hc, a, b, rfl, rfl, ha, hb, hab, hc'.1.2, by omega, ?_⟩
    rw [fSend, if_pos hc]
    simp only [Int.toNat_natCast]
    exact h.add ha hb hab s
  · refine .inl ⟨hc, ?_, by rw [fSend, hc, if_neg (by simp)]⟩
    by_cases hl : isL f t
    · by_cases h2 : s.size ≤ 2000
      · rw [canSend, decide_eq_true hl, decide_eq_true h2, Bool.true_and, Bool.true_and, decide_eq_false_iff_not] at hc
        rw [hw, fWaits, if_pos hl]
        exact .inr (.inr (by omega))
      · exact .inr (.inl (by omega))
    · exact .inl hl
end Go.Proofs.Ytikblgnpabonjaa
