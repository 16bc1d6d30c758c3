import Derived.Test.YtglglbbjacgbdaaDoorTsC
namespace Go.Proofs.YtglglbbjacgbdaaDoor
set_option linter.unusedVariables false
set_option linter.unusedSimpArgs false

/-! ### how many names a thing has -/
def idsOf (n : Nat) : List Id := [(0, 1), (0, 5), (0, 9), (0, 13)] ++ (List.range n).map fun k => (k + 1, 0)
def listAt (A : TS) (id : Id) : List Ch := ((A.nd id).map NR.list).getD []
def cntL (l : List Ch) (b : Nat) : Nat := l.countP fun c => c.2 == b
def namesOf (A : TS) (n b : Nat) : Nat := ((idsOf n).map fun id => cntL (listAt A id) b).sum
theorem idsOf_succ (n : Nat) : idsOf (n + 1) = idsOf n ++ [(n + 1, 0)] := by simp [idsOf, List.range_succ]
theorem idsOf_mem {n : Nat} {id : Id} : id ∈ idsOf n ↔ (id.1 = 0 ∧ ∃ z, z < 4 ∧ id.2 = 1 + z * 4) ∨ (1 ≤ id.1 ∧ id.1 ≤ n ∧ id.2 = 0) := by
  obtain ⟨a, i⟩ := id
  simp only [idsOf, List.mem_append, List.mem_cons, List.not_mem_nil, or_false, List.mem_map, List.mem_range, Prod.mk.injEq]
  constructor
  · rintro ((h | h | h | h) | ⟨k, hk, h1, h2⟩)
    · exact .inl ⟨h.1, 0, by omega, by omega⟩
    · exact .inl ⟨h.1, 1, by omega, by omega⟩
    · exact .inl ⟨h.1, 2, by omega, by omega⟩
    · exact .inl ⟨h.1, 3, by omega, by omega⟩
    · exact .inr ⟨by omega, by omega, by omega⟩
  · rintro (⟨h1, z, h2, h3⟩ | ⟨h1, h2, h3⟩)
    · left
      have : z = 0 ∨ z = 1 ∨ z = 2 ∨ z = 3 := by omega
      rcases this with rfl | rfl | rfl | rfl <;> omega
    · exact .inr ⟨a - 1, by omega, by omega, by omega⟩
theorem idsOf_nodup (n : Nat) : (idsOf n).Nodup := by
  unfold idsOf
  rw [List.nodup_append]
  refine ⟨by decide, ?_, ?_⟩
  · unfold List.Nodup
    rw [List.pairwise_map]
    exact List.Pairwise.imp (fun h e => h (by injection e with e _; omega)) (List.nodup_range (n := n))
  · rintro a ha b hb rfl
    obtain ⟨k, _, rfl⟩ := List.mem_map.1 hb
    simp at ha
theorem sum_upd {α : Type} [DecidableEq α] (f f' : α → Nat) (a : α) (hf : ∀ x, x ≠ a → f' x = f x) : ∀ (L : List α), L.Nodup → a ∈ L → (L.map f').sum + f a = (L.map f).sum + f' a
  | [], _, h => by simp at h
  | x :: L, hn, h => by
    rw [List.nodup_cons] at hn
    rw [List.map_cons, List.sum_cons, List.map_cons, List.sum_cons]
    by_cases hx : x = a
    · subst hx
      have : L.map f' = L.map f := List.map_congr_left fun y hy => hf y (fun e => hn.1 (by rw [← e]; exact hy))
      rw [this]; omega
    · have ha : a ∈ L := by
        rcases List.mem_cons.1 h with e | e
        · exact absurd e.symm hx
        · exact e
      have := sum_upd f f' a hf L hn.2 ha
      rw [hf x hx]; omega
theorem sum_zero : ∀ (l : List Nat), (∀ x ∈ l, x = 0) → l.sum = 0
  | [], _ => rfl
  | a :: l, h => by rw [List.sum_cons, h a (by simp), sum_zero l (fun x hx => h x (by simp [hx]))]
theorem sum_ge : ∀ (l : List Nat) (x : Nat), x ∈ l → x ≤ l.sum
  | a :: l, x, h => by
    rw [List.sum_cons]
    rcases List.mem_cons.1 h with rfl | h
    · omega
    · have := sum_ge l x h; omega
section
variable {A : TS} {n : Nat}
theorem listAt_some {id : Id} {r : NR} (h : A.nd id = some r) : listAt A id = r.list := by unfold listAt; rw [h]; rfl
theorem names_upd (id : Id) (r0 r : NR) (h0 : A.nd id = some r0) (hm : id ∈ idsOf n) (x : Nat) : namesOf (A.upd id r) n x + cntL r0.list x = namesOf A n x + cntL r.list x := by
  have h := sum_upd (fun i => cntL (listAt A i) x) (fun i => cntL (listAt (A.upd id r) i) x) id (fun i hi => by
    unfold listAt; rw [upd_other _ _ hi]) (idsOf n) (idsOf_nodup n) hm
  rw [listAt_some h0, listAt_some (upd_same A id r)] at h
  exact h
theorem names_same {id : Id} {r0 r : NR} (h0 : A.nd id = some r0) (hm : id ∈ idsOf n) (hl : r.list = r0.list) (x : Nat) : namesOf (A.upd id r) n x = namesOf A n x := by
  have := names_upd (n := n) id r0 r h0 hm x
  rw [hl] at this; omega
theorem cntL_ins (l : List Ch) (i : Nat) (s : ByteArray) (q x : Nat) : cntL (insC l i (s, q)) x = cntL l x + (if q = x then 1 else 0) := by
  unfold cntL insC
  rw [List.countP_append, List.countP_append]
  have : l.countP (fun c => c.2 == x) = (l.take i).countP (fun c => c.2 == x) + (l.drop i).countP (fun c => c.2 == x) := by rw [← List.countP_append, List.take_append_drop]
  rw [this, List.countP_singleton]
  by_cases h : q = x
  · rw [if_pos h, if_pos (by simpa using h)]; omega
  · rw [if_neg h, if_neg (by simpa using h)]; omega
theorem names_put {id : Id} {r : NR} (h0 : A.nd id = some r) (hm : id ∈ idsOf n) (s : ByteArray) (q x : Nat) : namesOf (A.upd id (putR r s q)) n x = namesOf A n x + (if q = x then 1 else 0) := by
  have := names_upd (n := n) id r (putR r s q) h0 hm x
  rw [show (putR r s q).list = insC r.list (plc r.list s) (s, q) from rfl, cntL_ins] at this
  omega
theorem cntL_erase (l : List Ch) (i : Nat) (h : i < l.length) (x : Nat) : cntL (l.eraseIdx i) x + (if (l.getD i (⟨#[]⟩, 0)).2 = x then 1 else 0) = cntL l x := by
  unfold cntL
  rw [List.eraseIdx_eq_take_drop_succ, List.countP_append, getD_get _ _ _ h]
  have : l.countP (fun c => c.2 == x) = (l.take i).countP (fun c => c.2 == x) + ([l[i]].countP (fun c => c.2 == x) + (l.drop (i + 1)).countP (fun c => c.2 == x)) := by
    rw [← List.countP_append, ← List.countP_append, List.singleton_append, List.getElem_cons_drop, List.take_append_drop]
  rw [this, List.countP_singleton]
  by_cases h : (l[i]).2 = x
  · rw [if_pos h, if_pos (by simpa using h)]; omega
  · rw [if_neg h, if_neg (by simpa using h)]; omega
theorem names_drop {id : Id} {r : NR} (h0 : A.nd id = some r) (hs : SortedC r.list) (hm : id ∈ idsOf n) {s : ByteArray} {b : Nat} (hk : kid r.list s = some b) (x : Nat) : namesOf (A.upd id (dropR r s)) n x + (if b = x then 1 else 0) = namesOf A n x := by
  have hh := kid_hasN hk
  have hlt := (plc_lt hs hh).1
  have he : (r.list.getD (plc r.list s) (⟨#[]⟩, 0)).2 = b := by unfold kid at hk; rw [if_pos hh] at hk; exact Option.some.inj hk
  have h1 := names_upd (n := n) id r (dropR r s) h0 hm x
  have h2 := cntL_erase r.list _ hlt x
  rw [he] at h2
  have h3 : (dropR r s).list = r.list.eraseIdx (plc r.list s) := by unfold dropR; rw [if_pos hh]
  rw [h3] at h1
  omega
theorem names_new (h : Inv A n) (k l : Int) (x : Nat) : namesOf (A.upd (n + 1, 0) ⟨k, l, ⟨#[]⟩, []⟩) (n + 1) x = namesOf A n x := by
  unfold namesOf
  rw [idsOf_succ, List.map_append, List.sum_append]
  have e1 : (idsOf n).map (fun id => cntL (listAt (A.upd (n + 1, 0) ⟨k, l, ⟨#[]⟩, []⟩) id) x) = (idsOf n).map fun id => cntL (listAt A id) x := List.map_congr_left fun i hi => by
    unfold listAt
    rw [upd_other]
    intro e
    subst e
    rcases idsOf_mem.1 hi with ⟨h1, _⟩ | ⟨_, h2, _⟩
    · dsimp only at h1; omega
    · dsimp only at h2; omega
  rw [e1]
  rw [List.map_singleton, List.sum_singleton, listAt_some (upd_same A _ _)]
  simp [cntL]
theorem names_none (h : Inv A n) : namesOf A n (n + 1) = 0 := by
  unfold namesOf
  apply sum_zero
  intro y hy
  obtain ⟨id, _, rfl⟩ := List.mem_map.1 hy
  unfold cntL
  rw [List.countP_eq_zero]
  intro c hc e
  unfold listAt at hc
  cases hx : A.nd id with
  | none => rw [hx] at hc; simp at hc
  | some r =>
    rw [hx] at hc
    obtain ⟨rc, hrc⟩ := h.ok.kids _ _ hx c hc
    have : c.2 = n + 1 := by simpa using e
    rw [this, h.fresh] at hrc; cases hrc
theorem names_mem {id : Id} {r : NR} (h0 : A.nd id = some r) (hm : id ∈ idsOf n) {c : Ch} (hc : c ∈ r.list) : 1 ≤ namesOf A n c.2 := by
  unfold namesOf
  have h1 : 1 ≤ cntL (listAt A id) c.2 := by
    rw [listAt_some h0]
    exact List.countP_pos_iff.2 ⟨c, hc, by simp⟩
  have h2 : cntL (listAt A id) c.2 ∈ (idsOf n).map fun id => cntL (listAt A id) c.2 := List.mem_map.2 ⟨id, hm, rfl⟩
  have := sum_ge _ _ h2
  omega
theorem names_succ (h : Inv A n) (x : Nat) : namesOf A (n + 1) x = namesOf A n x := by
  unfold namesOf
  rw [idsOf_succ, List.map_append, List.sum_append]
  have : listAt A (n + 1, 0) = [] := by unfold listAt; rw [h.fresh]; rfl
  simp [this, cntL]
/-- the links are the names; a folder has one at most -/
structure InvL (A : TS) (n : Nat) : Prop where
  lc : ∀ b r, A.nd (b, 0) = some r → r.links = namesOf A n b
  f1 : ∀ b r, A.nd (b, 0) = some r → r.kind = 2 → namesOf A n b ≤ 1
theorem InvL.succ (hl : InvL A n) (h : Inv A n) : InvL A (n + 1) := ⟨fun b r e => by rw [names_succ h]; exact hl.lc b r e, fun b r e k => by rw [names_succ h]; exact hl.f1 b r e k⟩
theorem Inv.succ (hi : Inv A n) : Inv A (n + 1) := ⟨hi.ok, fun i ri e => by
    rcases hi.dom _ _ e with h | ⟨a, b, c⟩
    · exact .inl h
    · exact .inr ⟨a, by omega, c⟩, hi.kd, hi.rk, hi.rm, hi.fl⟩
theorem Inv.mem (h : Inv A n) {id : Id} {r : NR} (hr : A.nd id = some r) : id ∈ idsOf n := idsOf_mem.2 (h.dom _ _ hr)
end
end Go.Proofs.YtglglbbjacgbdaaDoor
