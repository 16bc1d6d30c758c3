import Derived.Test.YtglglbbjacgbdaaDoorTrI
import Derived.Maps.OwnSet
import Derived.LaidEql
namespace Go.Proofs.YtglglbbjacgbdaaDoor
open Go.RowKit
set_option linter.unusedVariables false
set_option linter.unusedSimpArgs false

/-! ### maps keyed by a node's pointer, as lists of entries -/
def getI (L : List (Nat × Value)) (k : Nat) : Option Value := (L.find? fun p => p.1 == k).map (·.2)
def putI (L : List (Nat × Value)) (k : Nat) (v : Value) : List (Nat × Value) := if (getI L k).isSome then L.map (fun p => if p.1 = k then (k, v) else p) else L ++ [(k, v)]
def delI (L : List (Nat × Value)) (k : Nat) : List (Nat × Value) := L.filter fun p => p.1 != k
theorem getI_nil (k : Nat) : getI [] k = none := rfl
theorem getI_cons (p : Nat × Value) (L : List (Nat × Value)) (k : Nat) : getI (p :: L) k = if p.1 = k then some p.2 else getI L k := by
  unfold getI
  rw [List.find?_cons]
  by_cases h : p.1 = k
  · rw [if_pos h, beq_iff_eq.2 h]; rfl
  · rw [if_neg h, beq_eq_false_iff_ne.2 h]
theorem getI_append (L M : List (Nat × Value)) (k : Nat) : getI (L ++ M) k = (getI L k).or (getI M k) := by
  unfold getI
  rw [List.find?_append]
  cases L.find? (fun p => p.1 == k) <;> simp
theorem getI_map (L : List (Nat × Value)) (k : Nat) (v : Value) (k' : Nat) : getI (L.map (fun p => if p.1 = k then (k, v) else p)) k' = if k' = k then (getI L k).map (fun _ => v) else getI L k' := by
  induction L with
  | nil => simp [getI_nil]
  | cons p L ih =>
    rw [List.map_cons, getI_cons, ih, getI_cons, getI_cons]
    by_cases h : p.1 = k
    · rw [if_pos h]
      by_cases h' : k' = k
      · subst h'; simp [h]
      · rw [if_neg h', if_neg h', if_neg (fun e => h' e.symm), if_neg (fun e => h' (e.symm.trans h))]
    · rw [if_neg h]
      by_cases h' : k' = k
      · subst h'; simp [h]
      · rw [if_neg h', if_neg h']
theorem getI_put (L : List (Nat × Value)) (k : Nat) (v : Value) (k' : Nat) : getI (putI L k v) k' = if k' = k then some v else getI L k' := by
  unfold putI
  cases h : getI L k with
  | some u => rw [if_pos (show (some u).isSome = true from rfl), getI_map, h]; rfl
  | none =>
    rw [if_neg (by simp), getI_append, getI_cons, getI_nil]
    by_cases h' : k' = k
    · subst h'; simp [h]
    · rw [if_neg h', if_neg (fun e => h' e.symm)]; cases getI L k' <;> rfl
theorem getI_del (L : List (Nat × Value)) (k k' : Nat) : getI (delI L k) k' = if k' = k then none else getI L k' := by
  unfold delI
  induction L with
  | nil => simp [getI_nil]
  | cons p L ih =>
    rw [List.filter_cons]
    by_cases h : p.1 = k
    · rw [if_neg (by simp [h]), ih, getI_cons]
      by_cases h' : k' = k
      · rw [if_pos h', if_pos h']
      · rw [if_neg h', if_neg h', if_neg (fun e => h' (e.symm.trans h))]
    · rw [if_pos (by simpa using h), getI_cons, ih, getI_cons]
      by_cases h' : k' = k
      · subst h'; simp [h]
      · rw [if_neg h', if_neg h']
theorem getI_mem {L : List (Nat × Value)} {j : Nat} {k : Nat} {v : Value} (hn : (L.map (·.1)).Nodup) (h : L[j]? = some (k, v)) : getI L k = some v := by
  induction L generalizing j with
  | nil => simp at h
  | cons p L ih =>
    rw [List.map_cons, List.nodup_cons] at hn
    rw [getI_cons]
    cases j with
    | zero => simp at h; subst h; rw [if_pos rfl]
    | succ j =>
      simp at h
      rw [if_neg, ih hn.2 h]
      intro e
      exact hn.1 (List.mem_map.2 ⟨_, List.mem_of_getElem? h, e.symm⟩)
theorem getI_none {L : List (Nat × Value)} {k : Nat} : getI L k = none ↔ ∀ p ∈ L, p.1 ≠ k := by
  unfold getI
  rw [Option.map_eq_none_iff, List.find?_eq_none]
  simp
theorem map_erase {α β : Type} (f : α → β) : ∀ (l : List α) (j : Nat), (l.eraseIdx j).map f = (l.map f).eraseIdx j
  | [], _ => by simp
  | a :: l, 0 => by simp
  | a :: l, j + 1 => by simp [map_erase f l j]
theorem filter_erase {L : List (Nat × Value)} {j : Nat} {k : Nat} {v : Value} (hn : (L.map (·.1)).Nodup) (h : L[j]? = some (k, v)) : L.filter (fun p => p.1 != k) = L.eraseIdx j := by
  induction L generalizing j with
  | nil => simp at h
  | cons p L ih =>
    rw [List.map_cons, List.nodup_cons] at hn
    cases j with
    | zero =>
      simp at h; subst h
      rw [List.filter_cons, if_neg (by simp), List.eraseIdx_cons_zero, List.filter_eq_self]
      intro q hq
      have : q.1 ≠ k := fun e => hn.1 (List.mem_map.2 ⟨q, hq, e⟩)
      simpa using this
    | succ j =>
      simp at h
      have : p.1 ≠ k := fun e => hn.1 (List.mem_map.2 ⟨_, List.mem_of_getElem? h, e.symm⟩)
      rw [List.filter_cons, if_pos (by simpa using this), List.eraseIdx_cons_succ, ih hn.2 h]
def ptrK (b : Nat) : Value := .pointer (some ⟨b, 0, none⟩)
theorem ptrK_inj {a b : Nat} (h : ptrK a = ptrK b) : a = b := by unfold ptrK at h; injection h with h; injection h with h; injection h
/-- a block of cells -/
def Live (w : World) (b : Nat) : Prop := ∃ cs t, w.heap[b]? = some (.cells cs t (0, 0))
/-- a type of pointers to something that takes room -/
structure PtrT (P : Program) (kt : TypeId) : Prop where
  x : ∃ tt j, P.underlying kt = some (.pointer tt) ∧ P.info? tt = some j ∧ j.size ≠ 0
section
variable {P : Program} {w : World} {kt : TypeId}
theorem run_equalIn_ptr (d : Nat) (hk : PtrT P kt) (a b : Nat) (ha : Live w a) (hb : Live w b) : (Op.equalIn (d + 1) kt (ptrK a) (ptrK b)).run P w = .ok (decide (a = b)) w := by
  obtain ⟨tt, j, h1, h2, h3⟩ := hk.x
  obtain ⟨ca, ta, ha⟩ := ha
  obtain ⟨cb, tb, hb⟩ := hb
  unfold ptrK
  by_cases e : a = b
  · subst e
    simp [Op.equalIn, run_underlying h1, sizeOf, typeInfo, h2, h3, run_sameAddr_same, Result.andThen]
  · have := run_sameAddr_other (P := P) w (a := ⟨a, 0, none⟩) (b := ⟨b, 0, none⟩) (by intro h; injection h with h; exact e h) ha hb
    simp [Op.equalIn, run_underlying h1, sizeOf, typeInfo, h2, h3, this, Result.andThen, e]
theorem run_equal_ptr (hk : PtrT P kt) (a b : Nat) (ha : Live w a) (hb : Live w b) : (Op.equal kt (ptrK a) (ptrK b)).run P w = .ok (decide (a = b)) w := run_equalIn_ptr 9999 hk a b ha hb
theorem run_check_ptr (hk : PtrT P kt) (b : Nat) (e : Bool) (n : Nat) : (Instr.checkKey e (n + 1) kt (ptrK b)).run P w = .ok () w := by
  obtain ⟨tt, j, h1, h2, h3⟩ := hk.x
  unfold Instr.checkKey ptrK
  simp only [Sem.run_bind, run_underlying h1, Result.andThen]
  simp
theorem run_asking (hk : PtrT P kt) (k : Nat) (hkl : Live w k) : ∀ (l : List MapEntry) (i : Nat), (∀ x ∈ l, ∃ q, x.key = ptrK q ∧ Live w q) →
    ((Instr.findAsking kt (ptrK k) l i).run P w = .ok none w ∧ ∀ x ∈ l, x.key ≠ ptrK k) ∨ ∃ j e, (Instr.findAsking kt (ptrK k) l i).run P w = .ok (some (i + j, e.val)) w ∧ l[j]? = some e ∧ e.key = ptrK k
  | [], _, _ => .inl ⟨rfl, by simp⟩
  | e :: es, i, h => by
    obtain ⟨q, hq, hql⟩ := h e (.head _)
    have he := run_equal_ptr (w := w) hk k q hkl hql
    by_cases hkq : k = q
    · subst hkq
      refine .inr ⟨0, e, ?_, rfl, hq⟩
      rw [Instr.findAsking, Sem.run_bind, hq, he]
      simp [Result.andThen]
    · have hne : e.key ≠ ptrK k := fun x => hkq (ptrK_inj (x.symm.trans hq))
      rw [decide_eq_false hkq] at he
      have hstep : (Instr.findAsking kt (ptrK k) (e :: es) i).run P w = (Instr.findAsking kt (ptrK k) es (i + 1)).run P w := by
        rw [Instr.findAsking, Sem.run_bind, hq, he]
        simp [Result.andThen]
      rcases run_asking hk k hkl es (i + 1) (fun x hx => h x (.tail _ hx)) with ⟨h1, h2⟩ | ⟨j, e', h1, h2, h3⟩
      · exact .inl ⟨by rw [hstep, h1], fun x hx => by
          cases hx with
          | head => exact hne
          | tail _ hx => exact h2 x hx⟩
      · exact .inr ⟨j + 1, e', by rw [hstep, h1, show i + 1 + j = i + (j + 1) by omega], by simpa using h2, h3⟩
theorem run_find_ptr (hk : PtrT P kt) (k : Nat) (l : List MapEntry) (h : ∀ x ∈ l, ∃ q, x.key = ptrK q ∧ Live w q) : (Instr.findKey kt (ptrK k) l).run P w = (Instr.findAsking kt (ptrK k) l 0).run P w := by
  obtain ⟨tt, j, h1, h2, h3⟩ := hk.x
  cases l with
  | nil => simp [Instr.findKey, run_underlying h1, Result.andThen, Instr.findNow, Instr.findAsking]
  | cons e es =>
    obtain ⟨q, hq, _⟩ := h e (.head _)
    have : Instr.findNow (.pointer tt) (ptrK k) (e :: es) 0 = none := by
      rw [Instr.findNow, hq]
      simp [Instr.sameNow, ptrK]
    simp [Instr.findKey, run_underlying h1, Result.andThen, this]
theorem run_stays_ptr (k : Nat) : (Instr.keyThatStays (ptrK k) (ptrK k)).run P w = .ok (ptrK k) w := by
  have : Instr.sameBits 10000 (ptrK k) (ptrK k) = true := by simp [Instr.sameBits, ptrK]
  simp [Instr.keyThatStays, this]
end
/-- a map by nodes in memory: its entries -/
structure IM (w : World) (b : Nat) (L : List (Nat × Value)) : Prop where
  raw : ∃ es clock, w.heap[b]? = some (.map es clock) ∧ es.toList.map (fun e => (e.key, e.val)) = L.map (fun p => (ptrK p.1, p.2))
  nd : (L.map (·.1)).Nodup
section
variable {P : Program} {w w' : World} {b : Nat} {L : List (Nat × Value)} {t kt e : TypeId}
theorem IM.lt (h : IM w b L) : b < w.heap.size := by
  obtain ⟨es, c, hb, _⟩ := h.raw
  exact (Array.getElem?_eq_some_iff.1 hb).1
theorem IM.new (w : World) : IM (w.alloc (.map #[] 0)) w.heap.size [] := ⟨⟨#[], 0, heap_alloc_new w _, rfl⟩, List.nodup_nil⟩
theorem IM.keep (h : IM w b L) {F : Nat → Prop} (hf : Fr F w w') (hb : ¬ F b) : IM w' b L := by
  obtain ⟨es, c, h1, h2⟩ := h.raw
  exact ⟨⟨es, c, by rw [hf.block b h.lt hb]; exact h1, h2⟩, h.nd⟩
theorem im_find (hk : PtrT P kt) (h : IM w b L) (k : Nat) (hkl : Live w k) (hl : ∀ p ∈ L, Live w p.1) : ∃ es clock, w.heap[b]? = some (.map es clock) ∧ es.toList.map (fun e => (e.key, e.val)) = L.map (fun p => (ptrK p.1, p.2)) ∧
    ((getI L k = none ∧ (Instr.findKey kt (ptrK k) es.toList).run P w = .ok none w) ∨
     (∃ j e, getI L k = some e.val ∧ (Instr.findKey kt (ptrK k) es.toList).run P w = .ok (some (j, e.val)) w ∧ es.toList[j]? = some e ∧ e.key = ptrK k ∧ L[j]? = some (k, e.val))) := by
  obtain ⟨es, c, h1, h2⟩ := h.raw
  have hkk : ∀ x ∈ es.toList, ∃ q, x.key = ptrK q ∧ Live w q := by
    intro x hx
    have := List.mem_map_of_mem (f := fun e : MapEntry => (e.key, e.val)) hx
    rw [h2] at this
    obtain ⟨p, hp, e⟩ := List.mem_map.1 this
    have e1 := congrArg Prod.fst e
    simp only at e1
    exact ⟨p.1, e1.symm, hl p hp⟩
  refine ⟨es, c, h1, h2, ?_⟩
  rcases run_asking hk k hkl es.toList 0 hkk with ⟨h3, h4⟩ | ⟨j, e, h3, h4, h5⟩
  · refine .inl ⟨?_, (run_find_ptr hk k _ hkk).trans h3⟩
    rw [getI_none]
    intro p hp e
    have := List.mem_map_of_mem (f := fun p : Nat × Value => (ptrK p.1, p.2)) hp
    rw [← h2] at this
    obtain ⟨x, hx, e1⟩ := List.mem_map.1 this
    have e2 := congrArg Prod.fst e1
    simp only at e2
    exact h4 x hx (by rw [e2, e])
  · have hL : L[j]? = some (k, e.val) := by
      have h6 : (es.toList.map (fun e => (e.key, e.val)))[j]? = some (ptrK k, e.val) := by rw [List.getElem?_map, h4]; simp [h5]
      rw [h2, List.getElem?_map] at h6
      cases hh : L[j]? with
      | none => rw [hh] at h6; simp at h6
      | some p =>
        rw [hh] at h6
        simp at h6
        obtain ⟨a, b⟩ := p
        simp at h6
        rw [ptrK_inj h6.1, h6.2]
    exact .inr ⟨j, e, getI_mem h.nd hL, by rw [Nat.zero_add] at h3; exact (run_find_ptr hk k _ hkk).trans h3, h4, h5, hL⟩
theorem IM.look (h : IM w b L) (ht : P.underlying t = some (.map kt e)) (hk : PtrT P kt) {z : Value} (hz : (zeroValue e).run P w = .ok z w) (k : Nat) (hkl : Live w k) (hl : ∀ p ∈ L, Live w p.1) (c : Bool) :
    (Instr.lookup t (.map (some b)) (ptrK k) c).run P w = .ok (if c then .tuple #[(getI L k).getD z, .bool (getI L k).isSome] else (getI L k).getD z) w := by
  obtain ⟨es, cl, h1, h2, ⟨h3, h4⟩ | ⟨j, e0, h3, h4, h5, h6, _⟩⟩ := im_find hk h k hkl hl
  · simp [Instr.lookup, run_underlying ht, MapKept.run_getObj_map h1, run_check_ptr (w := w) hk k _ 9999, h4, hz, Result.andThen, h3]
  · simp [Instr.lookup, run_underlying ht, MapKept.run_getObj_map h1, run_check_ptr (w := w) hk k _ 9999, h4, Result.andThen, h3]
theorem IM.set_fr (h : IM w b L) (o : Obj) : Fr (fun j => j = b) w { w with heap := w.heap.setIfInBounds b o } :=
  ⟨rfl, rfl, rfl, by simp, fun j hj hb => by simp [Ne.symm hb]⟩
theorem IM.store (h : IM w b L) (ht : P.underlying t = some (.map kt e)) (hk : PtrT P kt) (k : Nat) (v : Value) (hkl : Live w k) (hl : ∀ p ∈ L, Live w p.1) :
    ∃ w', (Instr.mapUpdate t (.map (some b)) (ptrK k) v).run P w = .ok () w' ∧ IM w' b (putI L k v) ∧ Fr (fun j => j = b) w w' ∧ w'.heap.size = w.heap.size := by
  obtain ⟨es, cl, h1, h2, ⟨h3, h4⟩ | ⟨j, e0, h3, h4, h5, h6, h7⟩⟩ := im_find hk h k hkl hl
  · refine ⟨{ w with heap := w.heap.setIfInBounds b (.map (es.push { key := ptrK k, val := v, born := cl }) (cl + 1)) }, ?_, ⟨⟨_, _, (MapKept.heap_set h1).1, ?_⟩, ?_⟩, h.set_fr _, by simp⟩
    · simp [Instr.mapUpdate, run_underlying ht, MapKept.run_getObj_map h1, run_check_ptr (w := w) hk k _ 9999, h4, MapKept.run_setObj_map _ h1, Result.andThen]
    · rw [putI, h3, if_neg (by simp), Array.toList_push, List.map_append, List.map_append, h2]; rfl
    · rw [putI, h3, if_neg (by simp), List.map_append, List.nodup_append]
      refine ⟨h.nd, by simp, ?_⟩
      intro x hx y hy
      simp at hy
      subst hy
      obtain ⟨p, hp, rfl⟩ := List.mem_map.1 hx
      exact getI_none.1 h3 p hp
  · have hj : es[j]? = some e0 := by rw [← Array.getElem?_toList]; exact h5
    refine ⟨{ w with heap := w.heap.setIfInBounds b (.map (es.modify j fun e => { e with key := ptrK k, val := v }) cl) }, ?_, ⟨⟨_, _, (MapKept.heap_set h1).1, ?_⟩, ?_⟩, h.set_fr _, by simp⟩
    · simp [Instr.mapUpdate, run_underlying ht, MapKept.run_getObj_map h1, run_check_ptr (w := w) hk k _ 9999, h4, hj, h6, run_stays_ptr, MapKept.run_setObj_map _ h1, Result.andThen]
    · rw [putI, h3, if_pos (show (some e0.val).isSome = true from rfl)]
      apply List.ext_getElem?
      intro i
      rw [List.getElem?_map, List.getElem?_map, List.getElem?_map, Array.getElem?_toList, Array.getElem?_modify]
      have hi : (es.toList.map (fun e => (e.key, e.val)))[i]? = (L.map (fun p => (ptrK p.1, p.2)))[i]? := by rw [h2]
      rw [List.getElem?_map, List.getElem?_map, Array.getElem?_toList] at hi
      by_cases hij : j = i
      · subst hij
        rw [if_pos rfl, hj, h7]
        simp
      · rw [if_neg hij, hi]
        cases hL : L[i]? with
        | none => rfl
        | some p =>
          have hne : p.1 ≠ k := by
            intro e
            have a1 : (L.map (·.1))[i]? = some k := by rw [List.getElem?_map, hL]; simp [e]
            have a2 : (L.map (·.1))[j]? = some k := by rw [List.getElem?_map, h7]; rfl
            have hi2 := (List.getElem?_eq_some_iff.1 a1).1
            have hj2 := (List.getElem?_eq_some_iff.1 a2).1
            exact hij ((List.getElem?_inj hj2 h.nd).1 (a2.trans a1.symm))
          simp [hne]
    · rw [putI, h3, if_pos (show (some e0.val).isSome = true from rfl), List.map_map]
      rw [show ((fun p : Nat × Value => p.1) ∘ fun p => if p.1 = k then (k, v) else p) = (fun p => p.1) by
        funext p
        simp only [Function.comp]
        split
        · rename_i h; exact h.symm
        · rfl]
      exact h.nd
end
end Go.Proofs.YtglglbbjacgbdaaDoor
