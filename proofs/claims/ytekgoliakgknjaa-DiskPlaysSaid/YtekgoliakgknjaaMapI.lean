import Derived.Test.YtekgoliakgknjaaFr
import Derived.Maps.OwnSet
namespace Go.Proofs.Ytekgoliakgknjaa
open Go.RowKit
set_option linter.unusedVariables false

/-! ### maps keyed by int, as lists of entries -/
def getI (L : List (Int × Value)) (k : Int) : Option Value := (L.find? fun p => p.1 == k).map (·.2)
def putI (L : List (Int × Value)) (k : Int) (v : Value) : List (Int × Value) := if (getI L k).isSome then L.map (fun p => if p.1 = k then (k, v) else p) else L ++ [(k, v)]
def delI (L : List (Int × Value)) (k : Int) : List (Int × Value) := L.filter fun p => p.1 != k
theorem getI_nil (k : Int) : getI [] k = none := rfl
theorem getI_cons (p : Int × Value) (L : List (Int × Value)) (k : Int) : getI (p :: L) k = if p.1 = k then some p.2 else getI L k := by
  unfold getI
  rw [List.find?_cons]
  by_cases h : p.1 = k
  · rw [if_pos h, beq_iff_eq.2 h]; rfl
  · rw [if_neg h, beq_eq_false_iff_ne.2 h]
theorem getI_append (L M : List (Int × Value)) (k : Int) : getI (L ++ M) k = (getI L k).or (getI M k) := by
  unfold getI
  rw [List.find?_append]
  cases L.find? (fun p => p.1 == k) <;> simp
theorem getI_map (L : List (Int × Value)) (k : Int) (v : Value) (k' : Int) : getI (L.map (fun p => if p.1 = k then (k, v) else p)) k' = if k' = k then (getI L k).map (fun _ => v) else getI L k' := by
  induction L with
  | nil => simp [getI_nil]
  | cons p L ih =>
    rw [List.map_cons, getI_cons, ih, getI_cons, getI_cons]
    by_cases h : p.1 = k
    · rw [if_pos h]
      by_cases h' : k' = k
      · subst h'; simp [h]
      · rw [if_neg h', if_neg h', if_neg (fun e => h' e.symm), if_neg (fun e => h' (e.symm.trans h))]
    · rw [if_neg h]
      by_cases h' : k' = k
      · subst h'; simp [h]
      · rw [if_neg h', if_neg h']
theorem getI_put (L : List (Int × Value)) (k : Int) (v : Value) (k' : Int) : getI (putI L k v) k' = if k' = k then some v else getI L k' := by
  unfold putI
  cases h : getI L k with
  | some u => rw [if_pos (show (some u).isSome = true from rfl), getI_map, h]; rfl
  | none =>
    rw [if_neg (by simp), getI_append, getI_cons, getI_nil]
    by_cases h' : k' = k
    · subst h'; simp [h]
    · rw [if_neg h', if_neg (fun e => h' e.symm)]; cases getI L k' <;> rfl
theorem getI_del (L : List (Int × Value)) (k k' : Int) : getI (delI L k) k' = if k' = k then none else getI L k' := by
  unfold delI
  induction L with
  | nil => simp [getI_nil]
  | cons p L ih =>
    rw [List.filter_cons]
    by_cases h : p.1 = k
    · rw [if_neg (by simp [h]), ih, getI_cons]
      by_cases h' : k' = k
      · rw [if_pos h', if_pos h']
      · rw [if_neg h', if_neg h', if_neg (fun e => h' (e.symm.trans h))]
    · rw [if_pos (by simpa using h), getI_cons, ih, getI_cons]
      by_cases h' : k' = k
      · subst h'; simp [h]
      · rw [if_neg h', if_neg h']
theorem getI_mem {L : List (Int × Value)} {j : Nat} {k : Int} {v : Value} (hn : (L.map (·.1)).Nodup) (h : L[j]? = some (k, v)) : getI L k = some v := by
  induction L generalizing j with
  | nil => simp at h
  | cons p L ih =>
    rw [List.map_cons, List.nodup_cons] at hn
    rw [getI_cons]
    cases j with
    | zero => simp at h; subst h; rw [if_pos rfl]
    | succ j =>
      simp at h
      rw [if_neg, ih hn.2 h]
      intro e
      exact hn.1 (List.mem_map.2 ⟨_, List.mem_of_getElem? h, e.symm⟩)
theorem getI_none {L : List (Int × Value)} {k : Int} : getI L k = none ↔ ∀ p ∈ L, p.1 ≠ k := by
  unfold getI
  rw [Option.map_eq_none_iff, List.find?_eq_none]
  simp
theorem map_erase {α β : Type} (f : α → β) : ∀ (l : List α) (j : Nat), (l.eraseIdx j).map f = (l.map f).eraseIdx j
  | [], _ => by simp
  | a :: l, 0 => by simp
  | a :: l, j + 1 => by simp [map_erase f l j]
theorem filter_erase {L : List (Int × Value)} {j : Nat} {k : Int} {v : Value} (hn : (L.map (·.1)).Nodup) (h : L[j]? = some (k, v)) : L.filter (fun p => p.1 != k) = L.eraseIdx j := by
  induction L generalizing j with
  | nil => simp at h
  | cons p L ih =>
    rw [List.map_cons, List.nodup_cons] at hn
    cases j with
    | zero =>
      simp at h; subst h
      rw [List.filter_cons, if_neg (by simp), List.eraseIdx_cons_zero, List.filter_eq_self]
      intro q hq
      have : q.1 ≠ k := fun e => hn.1 (List.mem_map.2 ⟨q, hq, e⟩)
      simpa using this
    | succ j =>
      simp at h
      have : p.1 ≠ k := fun e => hn.1 (List.mem_map.2 ⟨_, List.mem_of_getElem? h, e.symm⟩)
      rw [List.filter_cons, if_pos (by simpa using this), List.eraseIdx_cons_succ, ih hn.2 h]
/-- a map by int in memory: its entries -/
structure IM (w : World) (b : Nat) (L : List (Int × Value)) : Prop where
  raw : ∃ es clock, w.heap[b]? = some (.map es clock) ∧ es.toList.map (fun e => (e.key, e.val)) = L.map (fun p => (Value.int .i64 p.1, p.2)) ∧ MapKept.Stamped es clock
  nd : (L.map (·.1)).Nodup
section
variable {P : Program} {w w' : World} {b : Nat} {L : List (Int × Value)} {t kt e : TypeId} {k : Int}
theorem IM.lt (h : IM w b L) : b < w.heap.size := by
  obtain ⟨es, c, hb, _, _⟩ := h.raw
  exact (Array.getElem?_eq_some_iff.1 hb).1
theorem IM.new (w : World) : IM (w.alloc (.map #[] 0)) w.heap.size [] := ⟨⟨#[], 0, heap_alloc_new w _, rfl, MapKept.stamped_empty 0⟩, List.nodup_nil⟩
theorem IM.keep (h : IM w b L) {F : Nat → Prop} (hf : Fr F w w') (hb : ¬ F b) : IM w' b L := by
  obtain ⟨es, c, h1, h2, h9⟩ := h.raw
  exact ⟨⟨es, c, by rw [hf.block b h.lt hb]; exact h1, h2, h9⟩, h.nd⟩
theorem im_find (h : IM w b L) (k : Int) : ∃ es clock, w.heap[b]? = some (.map es clock) ∧ es.toList.map (fun e => (e.key, e.val)) = L.map (fun p => (Value.int .i64 p.1, p.2)) ∧ MapKept.Stamped es clock ∧
    ((getI L k = none ∧ Instr.findNow (.int .i64) (.int .i64 k) es.toList 0 = some none ∧ ∀ x ∈ es.toList, x.key ≠ .int .i64 k) ∨
     (∃ j e, getI L k = some e.val ∧ Instr.findNow (.int .i64) (.int .i64 k) es.toList 0 = some (some (j, e.val)) ∧ es.toList[j]? = some e ∧ e.key = .int .i64 k ∧ L[j]? = some (k, e.val))) := by
  obtain ⟨es, c, h1, h2, hS⟩ := h.raw
  have hk : ∀ x ∈ es.toList, MapKept.IsKey (.int .i64) x.key := by
    intro x hx
    have := List.mem_map_of_mem (f := fun e : MapEntry => (e.key, e.val)) hx
    rw [h2] at this
    obtain ⟨p, _, e⟩ := List.mem_map.1 this
    have e1 := congrArg Prod.fst e
    simp only at e1
    rw [← e1]; rfl
  refine ⟨es, c, h1, h2, hS, ?_⟩
  rcases MapKept.findNow_spec (d := .int .i64) (k := .int .i64 k) rfl es.toList 0 hk with ⟨h3, h4⟩ | ⟨j, e, h3, h4, h5⟩
  · refine .inl ⟨?_, h3, h4⟩
    rw [getI_none]
    intro p hp e
    have := List.mem_map_of_mem (f := fun p : Int × Value => (Value.int .i64 p.1, p.2)) hp
    rw [← h2] at this
    obtain ⟨x, hx, e1⟩ := List.mem_map.1 this
    have e2 := congrArg Prod.fst e1
    simp only at e2
    exact h4 x hx (by rw [e2, e])
  · have hL : L[j]? = some (k, e.val) := by
      have h6 : (es.toList.map (fun e => (e.key, e.val)))[j]? = some (.int .i64 k, e.val) := by rw [List.getElem?_map, h4]; simp [h5]
      rw [h2, List.getElem?_map] at h6
      cases hh : L[j]? with
      | none => rw [hh] at h6; simp at h6
      | some p =>
        rw [hh] at h6
        simp at h6
        obtain ⟨a, b⟩ := p
        simp at h6
        rw [h6.1, h6.2]
    exact .inr ⟨j, e, getI_mem h.nd hL, by rw [Nat.zero_add] at h3; exact h3, h4, h5, hL⟩
theorem IM.look (h : IM w b L) (ht : P.underlying t = some (.map kt e)) (hk : P.underlying kt = some (.int .i64)) {z : Value} (hz : (zeroValue e).run P w = .ok z w) (k : Int) (c : Bool) :
    (Instr.lookup t (.map (some b)) (.int .i64 k) c).run P w = .ok (if c then .tuple #[(getI L k).getD z, .bool (getI L k).isSome] else (getI L k).getD z) w := by
  obtain ⟨es, cl, h1, h2, hS, ⟨h3, h4, hno⟩ | ⟨j, e0, h3, h4, h5, h6, _⟩⟩ := im_find h k
  · simp [Instr.lookup, run_underlying ht, MapKept.run_getObj_map h1, MapKept.run_checkKey (w := w) hk (show MapKept.IsKey (.int .i64) (.int .i64 k) from rfl) _ 9999, MapKept.run_findKey (w := w) hk h4, hz, Result.andThen, h3]
  · simp [Instr.lookup, run_underlying ht, MapKept.run_getObj_map h1, MapKept.run_checkKey (w := w) hk (show MapKept.IsKey (.int .i64) (.int .i64 k) from rfl) _ 9999, MapKept.run_findKey (w := w) hk h4, Result.andThen, h3]
theorem IM.set_fr (h : IM w b L) (o : Obj) : Fr (fun j => j = b) w { w with heap := w.heap.setIfInBounds b o } :=
  ⟨rfl, rfl, rfl, by simp, fun j hj hb => by simp [Ne.symm hb]⟩
theorem IM.store (h : IM w b L) (ht : P.underlying t = some (.map kt e)) (hk : P.underlying kt = some (.int .i64)) (k : Int) (v : Value) :
    ∃ w', (Instr.mapUpdate t (.map (some b)) (.int .i64 k) v).run P w = .ok () w' ∧ IM w' b (putI L k v) ∧ Fr (fun j => j = b) w w' ∧ w'.heap.size = w.heap.size := by
  obtain ⟨es, cl, h1, h2, hS, ⟨h3, h4, hno⟩ | ⟨j, e0, h3, h4, h5, h6, h7⟩⟩ := im_find h k
  · refine ⟨{ w with heap := w.heap.setIfInBounds b (.map (es.push { key := .int .i64 k, val := v, born := cl }) (cl + 1)) }, ?_, ⟨⟨_, _, (MapKept.heap_set h1).1, ?_, ?_⟩, ?_⟩, h.set_fr _, by simp⟩
    · simp [Instr.mapUpdate, run_underlying ht, MapKept.run_getObj_map h1, MapKept.run_checkKey (w := w) hk (show MapKept.IsKey (.int .i64) (.int .i64 k) from rfl) _ 9999, MapKept.run_findKey (w := w) hk h4, MapKept.run_setObj_map _ h1, Result.andThen]
    · rw [putI, h3, if_neg (by simp), Array.toList_push, List.map_append, List.map_append, h2]; rfl
    · exact MapKept.stamped_push hS hno
    · rw [putI, h3, if_neg (by simp), List.map_append, List.nodup_append]
      refine ⟨h.nd, by simp, ?_⟩
      intro x hx y hy
      simp at hy
      subst hy
      obtain ⟨p, hp, rfl⟩ := List.mem_map.1 hx
      exact getI_none.1 h3 p hp
  · have hj : es[j]? = some e0 := by rw [← Array.getElem?_toList]; exact h5
    refine ⟨{ w with heap := w.heap.setIfInBounds b (.map (es.modify j fun e => { e with key := .int .i64 k, val := v }) cl) }, ?_, ⟨⟨_, _, (MapKept.heap_set h1).1, ?_, ?_⟩, ?_⟩, h.set_fr _, by simp⟩
    · simp [Instr.mapUpdate, run_underlying ht, MapKept.run_getObj_map h1, MapKept.run_checkKey (w := w) hk (show MapKept.IsKey (.int .i64) (.int .i64 k) from rfl) _ 9999, MapKept.run_findKey (w := w) hk h4, hj, h6, MapKept.run_keyThatStays (d := .int .i64) (show MapKept.IsKey (.int .i64) (.int .i64 k) from rfl), MapKept.run_setObj_map _ h1, Result.andThen]
    · rw [putI, h3, if_pos (show (some e0.val).isSome = true from rfl)]
      apply List.ext_getElem?
      intro i
      rw [List.getElem?_map, List.getElem?_map, List.getElem?_map, Array.getElem?_toList, Array.getElem?_modify]
      have hi : (es.toList.map (fun e => (e.key, e.val)))[i]? = (L.map (fun p => (Value.int .i64 p.1, p.2)))[i]? := by rw [h2]
      rw [List.getElem?_map, List.getElem?_map, Array.getElem?_toList] at hi
      by_cases hij : j = i
      · subst hij
        rw [if_pos rfl, hj, h7]
        simp
      · rw [if_neg hij, hi]
        cases hL : L[i]? with
        | none => rfl
        | some p =>
          have hne : p.1 ≠ k := by
            intro e
            have a1 : (L.map (·.1))[i]? = some k := by rw [List.getElem?_map, hL]; simp [e]
            have a2 : (L.map (·.1))[j]? = some k := by rw [List.getElem?_map, h7]; rfl
            have hi2 := (List.getElem?_eq_some_iff.1 a1).1
            have hj2 := (List.getElem?_eq_some_iff.1 a2).1
            exact hij ((List.getElem?_inj hj2 h.nd).1 (a2.trans a1.symm))
          simp [hne]
    · exact MapKept.stamped_modify hS j _ (fun e he => rfl) (fun e he e2 => by rw [hj] at e2; rw [← Option.some.inj e2, h6])
    · rw [putI, h3, if_pos (show (some e0.val).isSome = true from rfl), List.map_map]
      rw [show ((fun p : Int × Value => p.1) ∘ fun p => if p.1 = k then (k, v) else p) = (fun p => p.1) by
        funext p
        simp only [Function.comp]
        split
        · rename_i h; exact h.symm
        · rfl]
      exact h.nd
theorem IM.drop (h : IM w b L) (ht : P.underlying t = some (.map kt e)) (hk : P.underlying kt = some (.int .i64)) (k : Int) (ty : TypeId) :
    ∃ w', (Builtin.delete_ #[t, kt] ty #[.map (some b), .int .i64 k]).run P w = .ok (.tuple #[]) w' ∧ IM w' b (delI L k) ∧ Fr (fun j => j = b) w w' ∧ w'.heap.size = w.heap.size := by
  obtain ⟨es, cl, h1, h2, hS, ⟨h3, h4, hno⟩ | ⟨j, e0, h3, h4, h5, h6, h7⟩⟩ := im_find h k
  · refine ⟨{ w with heap := w.heap.setIfInBounds b (.map es cl) }, ?_, ⟨⟨_, _, (MapKept.heap_set h1).1, ?_, ?_⟩, ?_⟩, h.set_fr _, by simp⟩
    · simp [Builtin.delete_, run_underlying ht, MapKept.run_getObj_map h1, MapKept.run_checkKey (w := w) hk (show MapKept.IsKey (.int .i64) (.int .i64 k) from rfl) _ 9999, MapKept.run_findKey (w := w) hk h4, MapKept.run_setObj_map _ h1, Result.andThen]
    · have e1 : delI L k = L := by
        rw [delI, List.filter_eq_self]
        intro p hp
        simpa using getI_none.1 h3 p hp
      rw [e1]; exact h2
    · exact hS
    · exact List.Nodup.sublist (List.Sublist.map _ List.filter_sublist) h.nd
  · refine ⟨{ w with heap := w.heap.setIfInBounds b (.map (es.eraseIdxIfInBounds j) cl) }, ?_, ⟨⟨_, _, (MapKept.heap_set h1).1, ?_, ?_⟩, ?_⟩, h.set_fr _, by simp⟩
    · simp [Builtin.delete_, run_underlying ht, MapKept.run_getObj_map h1, MapKept.run_checkKey (w := w) hk (show MapKept.IsKey (.int .i64) (.int .i64 k) from rfl) _ 9999, MapKept.run_findKey (w := w) hk h4, MapKept.run_setObj_map _ h1, Result.andThen]
    · have e1 : delI L k = L.eraseIdx j := by
        unfold delI
        exact filter_erase h.nd h7
      rw [e1, Array.toList_eraseIdxIfInBounds]
      rw [map_erase, map_erase, h2]
    · exact MapKept.stamped_erase hS j
    · exact List.Nodup.sublist (List.Sublist.map _ List.filter_sublist) h.nd
end
/-- a map by int in memory: what it holds -/
def FM (w : World) (b : Nat) (m : Int → Option Value) : Prop := ∃ L, IM w b L ∧ ∀ k, getI L k = m k
section
variable {P : Program} {w w' : World} {b : Nat} {m : Int → Option Value} {t kt e : TypeId}
theorem FM.lt (h : FM w b m) : b < w.heap.size := by obtain ⟨L, h, _⟩ := h; exact h.lt
theorem FM.new (w : World) : FM (w.alloc (.map #[] 0)) w.heap.size (fun _ => none) := ⟨[], IM.new w, fun _ => rfl⟩
theorem FM.keep (h : FM w b m) {F : Nat → Prop} (hf : Fr F w w') (hb : ¬ F b) : FM w' b m := by obtain ⟨L, h, h2⟩ := h; exact ⟨L, h.keep hf hb, h2⟩
theorem FM.look (h : FM w b m) (ht : P.underlying t = some (.map kt e)) (hk : P.underlying kt = some (.int .i64)) {z : Value} (hz : (zeroValue e).run P w = .ok z w) (k : Int) :
    (Instr.lookup t (.map (some b)) (.int .i64 k) false).run P w = .ok ((m k).getD z) w := by
  obtain ⟨L, h, h2⟩ := h
  rw [← h2]; exact h.look ht hk hz k false
theorem FM.look2 (h : FM w b m) (ht : P.underlying t = some (.map kt e)) (hk : P.underlying kt = some (.int .i64)) {z : Value} (hz : (zeroValue e).run P w = .ok z w) (k : Int) :
    (Instr.lookup t (.map (some b)) (.int .i64 k) true).run P w = .ok (.tuple #[(m k).getD z, .bool (m k).isSome]) w := by
  obtain ⟨L, h, h2⟩ := h
  rw [← h2]; exact h.look ht hk hz k true
theorem FM.store (h : FM w b m) (ht : P.underlying t = some (.map kt e)) (hk : P.underlying kt = some (.int .i64)) (k : Int) (v : Value) :
    ∃ w', (Instr.mapUpdate t (.map (some b)) (.int .i64 k) v).run P w = .ok () w' ∧ FM w' b (fun k' => if k' = k then some v else m k') ∧ Fr (fun j => j = b) w w' ∧ w'.heap.size = w.heap.size := by
  obtain ⟨L, h, h2⟩ := h
  obtain ⟨w', h3, h4, h5, h6⟩ := h.store ht hk k v
  exact ⟨w', h3, ⟨_, h4, fun k' => by rw [getI_put, h2]⟩, h5, h6⟩
theorem FM.drop (h : FM w b m) (ht : P.underlying t = some (.map kt e)) (hk : P.underlying kt = some (.int .i64)) (k : Int) (ty : TypeId) :
    ∃ w', (Builtin.delete_ #[t, kt] ty #[.map (some b), .int .i64 k]).run P w = .ok (.tuple #[]) w' ∧ FM w' b (fun k' => if k' = k then none else m k') ∧ Fr (fun j => j = b) w w' ∧ w'.heap.size = w.heap.size := by
  obtain ⟨L, h, h2⟩ := h
  obtain ⟨w', h3, h4, h5, h6⟩ := h.drop ht hk k ty
  exact ⟨w', h3, ⟨_, h4, fun k' => by rw [getI_del, h2]⟩, h5, h6⟩
end
end Go.Proofs.Ytekgoliakgknjaa
