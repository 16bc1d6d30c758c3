import Derived.Test.YtikblgnpabonjaaBaX
namespace Go.Proofs.Ytikblgnpabonjaa
open Go.RowKit
set_option linter.unusedVariables false

def goneP (n : Nat) (p : Pc) : Bool := decide (p.1 = n) || decide (p.2.1 = n)
theorem count_gone (n : Nat) (hn : n < 8) : ∀ l : List Pc, (∀ p ∈ l, p.1 < 8 ∧ p.2.1 < 8 ∧ p.1 ≠ p.2.1) →
    ((List.range 8).map fun o : Nat => if n = o then 0 else (l.filter (isP n o)).length + (l.filter (isP o n)).length).sum = (l.filter (goneP n)).length := by
  intro l
  induction l with
  | nil => intro _; exact sum_zero _ 8 (fun o _ => by simp)
  | cons p l ih =>
    intro hok
    have ih := ih (fun q hq => hok q (by simp [hq]))
    obtain ⟨h1, h2, h3⟩ := hok p (by simp)
    have hi : ∀ a b : Nat, isP a b p = decide (p.1 = a ∧ p.2.1 = b) := fun a b => by rw [Bool.eq_iff_iff, isP_nat, decide_eq_true_eq]
    rw [List.filter_cons]
    by_cases e1 : p.1 = n
    · have hg : goneP n p = true := by simp [goneP, e1]
      rw [if_pos hg, List.length_cons, ← ih]
      refine sum_up _ _ p.2.1 8 h2 (fun o ho hne => ?_) ?_
      · by_cases hno : n = o
        · simp only [if_pos hno]
        · simp only [if_neg hno, List.filter_cons, hi]
          rw [if_neg (by simp; omega), if_neg (by simp; omega)]
      · have hno : n ≠ p.2.1 := by omega
        simp only [if_neg hno, List.filter_cons, hi]
        rw [if_pos (by simp; omega), if_neg (by simp; omega), List.length_cons]; omega
    · by_cases e2 : p.2.1 = n
      · have hg : goneP n p = true := by simp [goneP, e2]
        rw [if_pos hg, List.length_cons, ← ih]
        refine sum_up _ _ p.1 8 h1 (fun o ho hne => ?_) ?_
        · by_cases hno : n = o
          · simp only [if_pos hno]
          · simp only [if_neg hno, List.filter_cons, hi]
            rw [if_neg (by simp; omega), if_neg (by simp; omega)]
        · have hno : n ≠ p.1 := by omega
          simp only [if_neg hno, List.filter_cons, hi]
          rw [if_neg (by simp; omega), if_pos (by simp; omega), List.length_cons]; omega
      · have hg : goneP n p = false := by simp [goneP, e1, e2]
        rw [if_neg (by simp [hg]), ← ih]
        congr 1
        apply List.map_congr_left
        intro o _
        by_cases hno : n = o
        · simp only [if_pos hno]
        · simp only [if_neg hno, List.filter_cons, hi]
          rw [if_neg (by simp; omega), if_neg (by simp; omega)]
theorem Rel.void {Ls : List (List ByteArray)} {l : List Pc} (h : Rel Ls l) {n : Nat} (hn : n < 8) :
    Rel (voidTo Ls n 8).1 (l.filter fun p => decide (((p.1 : Nat) : Int) ≠ (n : Int)) && decide (((p.2.1 : Nat) : Int) ≠ (n : Int))) ∧
    (voidTo Ls n 8).2 = l.length - (l.filter fun p => decide (((p.1 : Nat) : Int) ≠ (n : Int)) && decide (((p.2.1 : Nat) : Int) ≠ (n : Int))).length := by
  have hQ : (fun p : Pc => decide (((p.1 : Nat) : Int) ≠ (n : Int)) && decide (((p.2.1 : Nat) : Int) ≠ (n : Int))) = fun p => !goneP n p := by
    funext p
    rw [Bool.eq_iff_iff]
    simp only [goneP, Bool.and_eq_true, decide_eq_true_eq, Bool.not_eq_true', Bool.or_eq_false_iff, decide_eq_false_iff_not]
    omega
  rw [hQ]
  have hsum : l.length = (l.filter (goneP n)).length + (l.filter fun p => !goneP n p).length := by
    clear h hQ
    induction l with
    | nil => rfl
    | cons p l ih =>
      rw [List.filter_cons, List.filter_cons, List.length_cons, ih]
      cases hg : goneP n p <;> simp <;> omega
  refine ⟨⟨by rw [voidTo_len]; exact h.h64, fun p hp => h.ok p (List.mem_filter.1 hp).1, fun a b ha hb hab => ?_⟩, ?_⟩
  · rw [voidTo_lk h.h64 hn 8 (by omega) a b ha hb, List.filter_filter]
    by_cases hc : a = n ∨ b = n
    · rw [if_pos (by omega)]
      have : l.filter (fun p => isP a b p && !goneP n p) = [] := by
        rw [List.filter_eq_nil_iff]
        intro p hp e
        rw [Bool.and_eq_true, isP_nat] at e
        simp [goneP] at e
        omega
      rw [this]; rfl
    · rw [if_neg (by omega), ← h.row a b ha hb hab]
      congr 1
      apply List.filter_congr
      intro p hp
      rw [Bool.eq_iff_iff, Bool.and_eq_true, isP_nat]
      simp [goneP]
      omega
  · rw [voidTo_sum h.h64 hn 8 (by omega)]
    have hcg := count_gone n hn l h.ok
    rw [show (l.length - (l.filter fun p => !goneP n p).length) = (l.filter (goneP n)).length by omega, ← hcg]
    congr 1
    apply List.map_congr_left
    intro o ho
    have ho8 := List.mem_range.1 ho
    by_cases hno : n = o
    · simp only [if_pos hno]
    · simp only [if_neg hno]
      rw [← h.row n o hn ho8 hno, ← h.row o n ho8 hn (fun e => hno e.symm), List.length_map, List.length_map]

theorem Rel.any {Ls : List (List ByteArray)} {l : List Pc} (h : Rel Ls l) (x : Int) (hpos : 0 < (fAll Ls).length) :
    ∃ (a b q : Nat) (s : ByteArray) (pre post : List Pc), a < 8 ∧ b < 8 ∧ a ≠ b ∧ fAll Ls = pre ++ (rowOf Ls a b ++ post) ∧ q < (lk Ls a b).length ∧ (lk Ls a b)[q]? = some s ∧ place x (fAll Ls).length = pre.length + q ∧
      (∀ p ∈ pre, ¬ (p.1 = a ∧ p.2.1 = b)) ∧ (rUp l 8)[place x (rUp l 8).length]? = some (a, b, s) ∧
      ∀ I, isAt l a b ((((rUp l 8).take (place x (rUp l 8).length)).filter (isP a b)).length : Nat) I → Rel (Ls.set (a * 8 + b) ((lk Ls a b).eraseIdx q)) (l.eraseIdx I) := by
  obtain ⟨a, b, q, pre, post, ha, hb, hab, e1, e2, e3, e4, e5, e6⟩ := fAll_split Ls h.h64 (place x (fAll Ls).length) (place_lt x hpos)
  obtain ⟨s, hs⟩ : ∃ s, (lk Ls a b)[q]? = some s := ⟨_, List.getElem?_eq_getElem e3⟩
  refine ⟨a, b, q, s, pre, post, ha, hb, hab, e1, e3, hs, e2, e4, ?_, fun I hI => ?_⟩
  · rw [h.all, e2, e1, List.getElem?_append_right (by omega), Nat.add_sub_cancel_left, List.getElem?_append_left (by simpa [rowOf] using e3), rowOf, List.getElem?_map, hs]; rfl
  · have hcnt : (((rUp l 8).take (place x (rUp l 8).length)).filter (isP a b)).length = q := by
      rw [h.all, e2, e1, List.take_append, List.take_of_length_le (by omega), Nat.add_sub_cancel_left, List.take_append_of_le_length (by simp [rowOf]; omega), List.filter_append]
      have k1 : pre.filter (isP a b) = [] := by
        rw [List.filter_eq_nil_iff]
        intro p hp e
        exact e4 p hp ((isP_nat a b p).1 e)
      have k2 : ((rowOf Ls a b).take q).filter (isP a b) = (rowOf Ls a b).take q := by
        rw [List.filter_eq_self]
        intro p hp
        obtain ⟨s', _, rfl⟩ := List.mem_map.1 (List.mem_of_mem_take hp)
        exact (isP_nat a b _).2 ⟨rfl, rfl⟩
      rw [k1, k2, List.nil_append, List.length_take, rowOf, List.length_map]; omega
    rw [hcnt] at hI
    have hr := (h.erase ha hb hab hI).1
    rwa [show place (q : Int) (lk Ls a b).length = q by unfold place; rw [if_neg (by omega)]; exact Nat.mod_eq_of_lt e3] at hr
end Go.Proofs.Ytikblgnpabonjaa
