import Derived.Test.YtikblgnpabonjaaBaE
namespace Go.Proofs.Ytikblgnpabonjaa
open Go.RowKit
set_option linter.unusedVariables false

/-! ### plain laws on the lists -/
def pairsL : List (Nat × Nat) := (List.range 8).flatMap fun a => ((List.range 8).filter fun b => decide (a ≠ b)).map fun b => (a, b)
theorem flatMap_ite {β : Type} (a : Nat) (f : Nat → List β) (l : List Nat) : (l.flatMap fun b => if a = b then [] else f b) = (l.filter fun b => decide (a ≠ b)).flatMap f := by
  induction l with
  | nil => rfl
  | cons x l ih =>
    rw [List.flatMap_cons, ih, List.filter_cons]
    by_cases h : a = x
    · subst h; simp
    · simp [h]
theorem flatMap_assoc' {α β γ : Type} (f : α → List β) (h : β → List γ) (l : List α) : (l.flatMap f).flatMap h = l.flatMap fun a => (f a).flatMap h := by
  induction l with
  | nil => rfl
  | cons a l ih => rw [List.flatMap_cons, List.flatMap_append, ih, List.flatMap_cons]
theorem flatMap_map' {α β γ : Type} (f : α → β) (h : β → List γ) (l : List α) : (l.map f).flatMap h = l.flatMap fun a => h (f a) := by
  induction l with
  | nil => rfl
  | cons a l ih => rw [List.map_cons, List.flatMap_cons, ih, List.flatMap_cons]
theorem fAll_pairs (Ls : List (List ByteArray)) : fAll Ls = pairsL.flatMap fun p => rowOf Ls p.1 p.2 := by
  unfold fAll allUp pairsL allTo
  rw [flatMap_assoc']
  congr 1
  funext a
  rw [flatMap_ite, flatMap_map']
theorem pairs_nodup : pairsL.Nodup := by decide
theorem pairs_ok : ∀ p ∈ pairsL, p.1 < 8 ∧ p.2 < 8 ∧ p.1 ≠ p.2 := by decide
theorem pairs_mem {a b : Nat} (ha : a < 8) (hb : b < 8) (hab : a ≠ b) : (a, b) ∈ pairsL := by
  simp only [pairsL, List.mem_flatMap, List.mem_range, List.mem_map, List.mem_filter, decide_eq_true_eq]
  exact ⟨a, ha, b, ⟨hb, hab⟩, rfl⟩
theorem flatMap_split {β γ : Type} (f : β → List γ) : ∀ (ps : List β) (i : Nat), i < (ps.flatMap f).length → ∃ qs p rs q, ps = qs ++ p :: rs ∧ i = (qs.flatMap f).length + q ∧ q < (f p).length := by
  intro ps
  induction ps with
  | nil => intro i h; simp at h
  | cons x ps ih =>
    intro i h
    by_cases hx : i < (f x).length
    · exact ⟨[], x, ps, i, rfl, by simp, hx⟩
    · rw [List.flatMap_cons, List.length_append] at h
      obtain ⟨qs, p, rs, q, e1, e2, e3⟩ := ih (i - (f x).length) (by omega)
      exact ⟨x :: qs, p, rs, q, by rw [e1]; rfl, by rw [List.flatMap_cons, List.length_append]; omega, e3⟩
theorem flatMap_same {β γ : Type} (f h : β → List γ) (l : List β) (e : ∀ x ∈ l, f x = h x) : l.flatMap f = l.flatMap h := by
  induction l with
  | nil => rfl
  | cons x l ih => rw [List.flatMap_cons, List.flatMap_cons, e x (by simp), ih (fun y hy => e y (by simp [hy]))]
theorem lk_set {Ls : List (List ByteArray)} {a b a' b' : Nat} {l' : List ByteArray} (h64 : Ls.length = 64) (ha : a < 8) (hb : b < 8) (ha' : a' < 8) (hb' : b' < 8) :
    lk (Ls.set (a * 8 + b) l') a' b' = if a = a' ∧ b = b' then l' else lk Ls a' b' := by
  unfold lk
  rw [List.getD_eq_getElem?_getD, List.getElem?_set, List.getD_eq_getElem?_getD]
  by_cases h : a = a' ∧ b = b'
  · obtain ⟨rfl, rfl⟩ := h
    rw [if_pos rfl, if_pos (by omega), if_pos ⟨rfl, rfl⟩]; rfl
  · rw [if_neg (by omega), if_neg h]
theorem fAll_parts (Ls : List (List ByteArray)) (h64 : Ls.length = 64) (qs rs : List (Nat × Nat)) (p : Nat × Nat) (e : pairsL = qs ++ p :: rs) :
    fAll Ls = (qs.flatMap fun p => rowOf Ls p.1 p.2) ++ (rowOf Ls p.1 p.2 ++ rs.flatMap fun p => rowOf Ls p.1 p.2) ∧
    (∀ x ∈ qs.flatMap fun p => rowOf Ls p.1 p.2, ¬ (x.1 = p.1 ∧ x.2.1 = p.2)) ∧ (∀ x ∈ rs.flatMap fun p => rowOf Ls p.1 p.2, ¬ (x.1 = p.1 ∧ x.2.1 = p.2)) ∧
    ∀ l', fAll (Ls.set (p.1 * 8 + p.2) l') = (qs.flatMap fun p => rowOf Ls p.1 p.2) ++ ((l'.map fun s => (p.1, p.2, s)) ++ rs.flatMap fun p => rowOf Ls p.1 p.2) := by
  have hnd := pairs_nodup
  have hok := pairs_ok
  rw [e] at hnd hok
  have hp := hok p (by simp)
  have hq : ∀ x ∈ qs, x ≠ p := by
    intro x hx ex
    subst ex
    rw [List.nodup_append] at hnd
    exact hnd.2.2 x hx x (by simp) rfl
  have hr : ∀ x ∈ rs, x ≠ p := by
    intro x hx ex
    subst ex
    rw [List.nodup_append, List.nodup_cons] at hnd
    exact hnd.2.1.1 hx
  have hkey : ∀ (ts : List (Nat × Nat)), (∀ x ∈ ts, x ≠ p) → ∀ x ∈ ts.flatMap fun p => rowOf Ls p.1 p.2, ¬ (x.1 = p.1 ∧ x.2.1 = p.2) := by
    intro ts hts x hx hxp
    obtain ⟨t, ht, hx⟩ := List.mem_flatMap.1 hx
    obtain ⟨s, _, rfl⟩ := List.mem_map.1 hx
    exact hts t ht (Prod.ext hxp.1 hxp.2)
  refine ⟨by rw [fAll_pairs, e, List.flatMap_append, List.flatMap_cons], hkey qs hq, hkey rs hr, fun l' => ?_⟩
  rw [fAll_pairs, e, List.flatMap_append, List.flatMap_cons]
  have hsame : ∀ (ts : List (Nat × Nat)), (∀ x ∈ ts, x ≠ p) → (∀ x ∈ ts, x.1 < 8 ∧ x.2 < 8 ∧ x.1 ≠ x.2) → (ts.flatMap fun q => rowOf (Ls.set (p.1 * 8 + p.2) l') q.1 q.2) = ts.flatMap fun q => rowOf Ls q.1 q.2 := by
    intro ts h1 h2
    apply flatMap_same
    intro x hx
    have hx2 := h2 x hx
    rw [rowOf, rowOf, lk_set h64 hp.1 hp.2.1 hx2.1 hx2.2.1, if_neg (fun h => h1 x hx (Prod.ext h.1.symm h.2.symm))]
  rw [hsame qs hq (fun x hx => hok x (by simp [hx])), hsame rs hr (fun x hx => hok x (by simp [hx]))]
  congr 2
  rw [rowOf, lk_set h64 hp.1 hp.2.1 hp.1 hp.2.1, if_pos ⟨rfl, rfl⟩]
theorem fAll_split (Ls : List (List ByteArray)) (h64 : Ls.length = 64) (i : Nat) (hi : i < (fAll Ls).length) : ∃ (a b q : Nat) (pre post : List Pc), a < 8 ∧ b < 8 ∧ a ≠ b ∧ fAll Ls = pre ++ (rowOf Ls a b ++ post) ∧
    i = pre.length + q ∧ q < (lk Ls a b).length ∧ (∀ p ∈ pre, ¬ (p.1 = a ∧ p.2.1 = b)) ∧ (∀ p ∈ post, ¬ (p.1 = a ∧ p.2.1 = b)) ∧ ∀ l', fAll (Ls.set (a * 8 + b) l') = pre ++ ((l'.map fun s => (a, b, s)) ++ post) := by
  rw [fAll_pairs] at hi
  obtain ⟨qs, p, rs, q, e1, e2, e3⟩ := flatMap_split _ _ _ hi
  obtain ⟨k1, k2, k3, k4⟩ := fAll_parts Ls h64 qs rs p e1
  have hp := pairs_ok p (by rw [e1]; simp)
  exact ⟨p.1, p.2, q, _, _, hp.1, hp.2.1, hp.2.2, k1, e2, by simpa [rowOf] using e3, k2, k3, k4⟩
/-- the same for a link that is named -/
theorem fAll_link (Ls : List (List ByteArray)) (h64 : Ls.length = 64) {a b : Nat} (ha : a < 8) (hb : b < 8) (hab : a ≠ b) : ∃ (pre post : List Pc), fAll Ls = pre ++ (rowOf Ls a b ++ post) ∧
    (∀ p ∈ pre, ¬ (p.1 = a ∧ p.2.1 = b)) ∧ (∀ p ∈ post, ¬ (p.1 = a ∧ p.2.1 = b)) ∧ ∀ l', fAll (Ls.set (a * 8 + b) l') = pre ++ ((l'.map fun s => (a, b, s)) ++ post) := by
  obtain ⟨qs, rs, e⟩ := List.append_of_mem (pairs_mem ha hb hab)
  obtain ⟨k1, k2, k3, k4⟩ := fAll_parts Ls h64 qs rs (a, b) e
  exact ⟨_, _, k1, k2, k3, k4⟩
end Go.Proofs.Ytikblgnpabonjaa
