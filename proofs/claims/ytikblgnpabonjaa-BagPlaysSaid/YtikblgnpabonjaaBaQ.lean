import Derived.Test.YtikblgnpabonjaaBaO
namespace Go.Proofs.Ytikblgnpabonjaa
open Go.RowKit
set_option linter.unusedVariables false
attribute [local go_sem] b_max2 b_min2 b_max b_min

theorem erase_perm {α : Type} {s : α} : ∀ (l : List α) (q : Nat), l[q]? = some s → l.Perm (s :: l.eraseIdx q) := by
  intro l
  induction l with
  | nil => intro q h; simp at h
  | cons x l ih =>
    intro q h
    cases q with
    | zero => obtain rfl : x = s := by simpa using h
              exact List.Perm.refl _
    | succ q => exact (List.Perm.cons x (ih q (by simpa using h))).trans (List.Perm.swap _ _ _)
theorem add_perm {Ls : List (List ByteArray)} (h64 : Ls.length = 64) {f t : Nat} (hf : f < 8) (ht : t < 8) (hne : f ≠ t) (s : ByteArray) :
    (fAll (Ls.set (f * 8 + t) (lk Ls f t ++ [s]))).Perm (fAll Ls ++ [(f, t, s)]) := by
  obtain ⟨pre, post, e1, _, _, e2⟩ := fAll_link Ls h64 hf ht hne
  rw [e2, e1, rowOf, List.map_append, List.append_assoc, List.append_assoc, List.append_assoc]
  exact List.Perm.append_left pre (List.Perm.append_left _ List.perm_append_comm)
theorem take_perm {Ls : List (List ByteArray)} {a b q : Nat} {pre post : List Pc} {s : ByteArray} (e1 : fAll Ls = pre ++ (rowOf Ls a b ++ post)) (hq : q < (lk Ls a b).length) (hs : (lk Ls a b)[q]? = some s)
    (e2 : ∀ l', fAll (Ls.set (a * 8 + b) l') = pre ++ ((l'.map fun s => (a, b, s)) ++ post)) : (fAll Ls).Perm ((a, b, s) :: fAll (Ls.set (a * 8 + b) ((lk Ls a b).eraseIdx q))) := by
  rw [e1, e2, rowOf]
  have h1 : ((lk Ls a b).map fun s => ((a, b, s) : Pc)).Perm ((a, b, s) :: ((lk Ls a b).eraseIdx q).map fun s => ((a, b, s) : Pc)) := by
    exact (erase_perm _ q hs).map fun s => ((a, b, s) : Pc)
  refine (List.Perm.append_left pre (List.Perm.append_right post h1)).trans ?_
  exact List.perm_middle
theorem lk_le_all {Ls : List (List ByteArray)} (h64 : Ls.length = 64) {f t : Nat} (hf : f < 8) (ht : t < 8) (hne : f ≠ t) : (lk Ls f t).length ≤ (fAll Ls).length := by
  obtain ⟨pre, post, e1, _, _, _⟩ := fAll_link Ls h64 hf ht hne
  rw [e1]; simp [rowOf]; omega
theorem send_room {Ls : List (List ByteArray)} {f t : Nat} (hf : f < 8) (ht : t < 8) (hne : f ≠ t) {s : ByteArray} (hs : s.size ≤ 2000) (hr : (lk Ls f t).length < 200) :
    canSend Ls f t s = true ∧ fSend Ls f t s = Ls.set (f * 8 + t) (lk Ls f t ++ [s]) := by
  have hc : canSend Ls f t s = true := by
    simp only [canSend, Int.toNat_natCast, Bool.and_eq_true, decide_eq_true_eq]
    exact ⟨⟨⟨by omega, by omega, by omega, by omega, by omega⟩, hs⟩, hr⟩
  exact ⟨hc, by rw [fSend, if_pos hc]; simp only [Int.toNat_natCast]⟩
theorem send_self {Ls : List (List ByteArray)} (f : Nat) (s : ByteArray) : canSend Ls f f s = false ∧ fSend Ls f f s = Ls := by
  have hc : canSend Ls f f s = false := by
    rw [Bool.eq_false_iff]
    intro h
    simp only [canSend, Bool.and_eq_true, decide_eq_true_eq] at h
    exact h.1.1.2.2.2.2 rfl
  exact ⟨hc, by rw [fSend, hc, if_neg (by simp)]⟩
/-- what was sent last is doubled -/
theorem double_last {Ls : List (List ByteArray)} (h64 : Ls.length = 64) {f t : Nat} (hf : f < 8) (ht : t < 8) (hne : f ≠ t) (s : ByteArray) (hr : (lk Ls f t).length < 199) :
    fWaits (Ls.set (f * 8 + t) (lk Ls f t ++ [s])) f t = (lk Ls f t).length + 1 ∧ canDouble (Ls.set (f * 8 + t) (lk Ls f t ++ [s])) f t = true ∧
    fDouble (Ls.set (f * 8 + t) (lk Ls f t ++ [s])) f t ((lk Ls f t).length : Nat) = (Ls.set (f * 8 + t) (lk Ls f t ++ [s])).set (f * 8 + t) (lk (Ls.set (f * 8 + t) (lk Ls f t ++ [s])) f t ++ [s]) := by
  have hl : lk (Ls.set (f * 8 + t) (lk Ls f t ++ [s])) f t = lk Ls f t ++ [s] := by rw [lk_set h64 hf ht hf ht, if_pos ⟨rfl, rfl⟩]
  have hi : isL f t := ⟨by omega, by omega, by omega, by omega, by omega⟩
  have hc : canDouble (Ls.set (f * 8 + t) (lk Ls f t ++ [s])) f t = true := by
    simp only [canDouble, Int.toNat_natCast, hl, Bool.and_eq_true, decide_eq_true_eq]
    exact ⟨hi, by simp, by simp; omega⟩
  refine ⟨?_, hc, ?_⟩
  · rw [fWaits, if_pos hi]
    simp only [Int.toNat_natCast, hl]; simp
  · rw [fDouble, hc, if_pos rfl]
    simp only [Int.toNat_natCast, hl]
    have hp : place ((lk Ls f t).length : Nat) (lk Ls f t ++ [s]).length = (lk Ls f t).length := by
      unfold place
      rw [if_neg (by omega), Int.toNat_natCast, List.length_append]
      exact Nat.mod_eq_of_lt (by simp)
    rw [hp, List.getD_eq_getElem?_getD, List.getElem?_append_right (Nat.le_refl _)]
    simp
theorem lk_add {Ls : List (List ByteArray)} (h64 : Ls.length = 64) {f t : Nat} (hf : f < 8) (ht : t < 8) (l : List ByteArray) : lk (Ls.set (f * 8 + t) l) f t = l := by rw [lk_set h64 hf ht hf ht, if_pos ⟨rfl, rfl⟩]
theorem fAll_zero : fAll (List.replicate 64 []) = [] := by rfl
end Go.Proofs.Ytikblgnpabonjaa
