import Derived.Test.YtikblgnpabonjaaBaW
namespace Go.Proofs.Ytikblgnpabonjaa
open Go.RowKit
set_option linter.unusedVariables false

/-! ### the two networks, in plain lists -/
structure Rel (Ls : List (List ByteArray)) (l : List Pc) : Prop where
  h64 : Ls.length = 64
  ok : ∀ p ∈ l, p.1 < 8 ∧ p.2.1 < 8 ∧ p.1 ≠ p.2.1
  row : ∀ a b : Nat, a < 8 → b < 8 → a ≠ b → (l.filter (isP a b)).map (·.2.2) = lk Ls a b
theorem isP_nat (a b : Nat) (p : Pc) : isP a b p = true ↔ p.1 = a ∧ p.2.1 = b := by simp only [isP, Bool.and_eq_true, decide_eq_true_eq]; omega
theorem Rel.filter {Ls : List (List ByteArray)} {l : List Pc} (h : Rel Ls l) {a b : Nat} (ha : a < 8) (hb : b < 8) (hab : a ≠ b) : l.filter (isP a b) = rowOf Ls a b := by
  rw [rowOf, ← h.row a b ha hb hab, List.map_map]
  conv => lhs; rw [← List.map_id (l.filter (isP a b))]
  apply List.map_congr_left
  intro p hp
  obtain ⟨e1, e2⟩ := (isP_nat a b p).1 (List.mem_filter.1 hp).2
  show p = (a, b, p.2.2)
  rw [← e1, ← e2]
theorem Rel.self {Ls : List (List ByteArray)} {l : List Pc} (h : Rel Ls l) (a : Nat) : l.filter (isP a a) = [] := by
  rw [List.filter_eq_nil_iff]
  intro p hp e
  obtain ⟨e1, e2⟩ := (isP_nat a a p).1 e
  exact (h.ok p hp).2.2 (e1.trans e2.symm)
theorem Rel.all {Ls : List (List ByteArray)} {l : List Pc} (h : Rel Ls l) : rUp l 8 = fAll Ls := by
  unfold rUp fAll allUp
  refine flatMap_same _ _ _ fun a ha => ?_
  have ha8 := List.mem_range.1 ha
  unfold rTo allTo
  refine flatMap_same _ _ _ fun b hb => ?_
  have hb8 := List.mem_range.1 hb
  by_cases hab : a = b
  · subst hab; rw [if_pos rfl, h.self]
  · rw [if_neg hab, h.filter ha8 hb8 hab]
theorem Rel.waits {Ls : List (List ByteArray)} {l : List Pc} (h : Rel Ls l) (f t : Int) : (l.filter (isP f t)).length = fWaits Ls f t := by
  unfold fWaits
  split
  · rename_i hl
    obtain ⟨h1, h2, h3, h4, h5⟩ := hl
    obtain ⟨a, rfl⟩ := Int.eq_ofNat_of_zero_le h1
    obtain ⟨b, rfl⟩ := Int.eq_ofNat_of_zero_le h3
    have := h.row a b (by omega) (by omega) (by omega)
    simp only [Int.toNat_natCast]
    rw [← this, List.length_map]
  · rename_i hl
    have : l.filter (isP f t) = [] := by
      rw [List.filter_eq_nil_iff]
      intro p hp e
      apply hl
      simp only [isP, Bool.and_eq_true, decide_eq_true_eq] at e
      have := h.ok p hp
      unfold isL
      omega
    rw [this]; rfl
theorem Rel.zero : Rel (List.replicate 64 []) [] := ⟨by simp, fun p hp => by simp at hp, fun a b _ _ _ => by rw [lk_zero]; rfl⟩
theorem Rel.add {Ls : List (List ByteArray)} {l : List Pc} (h : Rel Ls l) {a b : Nat} (ha : a < 8) (hb : b < 8) (hab : a ≠ b) (s : ByteArray) : Rel (Ls.set (a * 8 + b) (lk Ls a b ++ [s])) (l ++ [(a, b, s)]) := by
  refine ⟨by simpa using h.h64, fun p hp => ?_, fun a' b' ha' hb' hab' => ?_⟩
  · rcases List.mem_append.1 hp with hp | hp
    · exact h.ok p hp
    · obtain rfl : p = (a, b, s) := by simpa using hp
      exact ⟨ha, hb, hab⟩
  · rw [lk_set h.h64 ha hb ha' hb', List.filter_append, List.map_append, h.row a' b' ha' hb' hab']
    by_cases e : a = a' ∧ b = b'
    · obtain ⟨rfl, rfl⟩ := e
      rw [if_pos ⟨rfl, rfl⟩, List.filter_cons, if_pos ((isP_nat a b _).2 ⟨rfl, rfl⟩)]; rfl
    · rw [if_neg e, List.filter_cons, if_neg (fun hh => e ((isP_nat a' b' _).1 hh))]; simp
theorem Rel.erase {Ls : List (List ByteArray)} {l : List Pc} (h : Rel Ls l) {a b : Nat} (ha : a < 8) (hb : b < 8) (hab : a ≠ b) {x : Int} {I : Nat} (hI : isAt l a b x I) :
    Rel (Ls.set (a * 8 + b) ((lk Ls a b).eraseIdx (place x (lk Ls a b).length))) (l.eraseIdx I) ∧ l[I]? = some (a, b, (lk Ls a b).getD (place x (lk Ls a b).length) ⟨#[]⟩) := by
  obtain ⟨hI, hp, hc⟩ := hI
  obtain ⟨p1, p2⟩ := (isP_nat a b _).1 hp
  have e0 : l = l.take I ++ l[I] :: l.drop (I + 1) := by rw [List.getElem_cons_drop]; exact (List.take_append_drop I l).symm
  have e1 : l.eraseIdx I = l.take I ++ l.drop (I + 1) := List.eraseIdx_eq_take_drop_succ _ _
  have hr := h.row a b ha hb hab
  have hlen : (l.filter (isP a b)).length = (lk Ls a b).length := by rw [← hr, List.length_map]
  rw [hlen] at hc
  have hf : ((l.take I).filter (isP a b)).map (·.2.2) ++ l[I].2.2 :: ((l.drop (I + 1)).filter (isP a b)).map (·.2.2) = lk Ls a b := by
    rw [← hr]
    conv => rhs; rw [e0]
    rw [List.filter_append, List.filter_cons, if_pos hp]; simp
  have hl2 : (((l.take I).filter (isP a b)).map (·.2.2)).length = place x (lk Ls a b).length := by rw [List.length_map]; exact hc
  refine ⟨⟨by simpa using h.h64, fun p hp => h.ok p (List.mem_of_mem_eraseIdx hp), fun a' b' ha' hb' hab' => ?_⟩, ?_⟩
  · rw [lk_set h.h64 ha hb ha' hb', e1, List.filter_append, List.map_append]
    by_cases e : a = a' ∧ b = b'
    · obtain ⟨rfl, rfl⟩ := e
      rw [if_pos ⟨rfl, rfl⟩, ← hl2, ← hf]
      rw [List.eraseIdx_append_of_length_le (Nat.le_refl _), Nat.sub_self]; rfl
    · rw [if_neg e, ← h.row a' b' ha' hb' hab']
      conv => rhs; rw [e0]
      rw [List.filter_append, List.filter_cons, if_neg (fun hh => e (by obtain ⟨q1, q2⟩ := (isP_nat a' b' _).1 hh; omega)), List.map_append]
  · rw [List.getElem?_eq_getElem hI, ← hl2]
    have : (lk Ls a b).getD (((l.take I).filter (isP a b)).map (·.2.2)).length ⟨#[]⟩ = l[I].2.2 := by
      rw [List.getD_eq_getElem?_getD, ← hf, List.getElem?_append_right (Nat.le_refl _), Nat.sub_self]; rfl
    rw [this, ← p1, ← p2]
end Go.Proofs.Ytikblgnpabonjaa
