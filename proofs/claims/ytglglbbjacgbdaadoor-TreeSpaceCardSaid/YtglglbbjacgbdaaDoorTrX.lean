import Derived.Test.YtglglbbjacgbdaaDoorTrW
namespace Go.Proofs.YtglglbbjacgbdaaDoor
set_option linter.unusedVariables false
set_option linter.unusedSimpArgs false

/-! ### a name put into a sorted list -/
theorem insC_cons (a : Ch) (l : List Ch) (i : Nat) (c : Ch) : insC (a :: l) (i + 1) c = a :: insC l i c := by simp [insC]
theorem insC_mem {l : List Ch} {i : Nat} {c x : Ch} (h : x ∈ insC l i c) : x = c ∨ x ∈ l := by
  simp only [insC, List.mem_append, List.mem_singleton] at h
  rcases h with (h | h) | h
  · exact .inr (List.mem_of_mem_take h)
  · exact .inl h
  · exact .inr (List.mem_of_mem_drop h)
theorem insC_sorted (s : ByteArray) (q : Nat) : ∀ (l : List Ch), SortedC l → (∀ c ∈ l, c.1 ≠ s) → SortedC (insC l (plc l s) (s, q))
  | [], _, _ => by simp [insC, SortedC]
  | a :: l, hs, hn => by
    have hs' := List.pairwise_cons.1 hs
    cases ha : ltB a.1 s with
    | true =>
      have hp : plc (a :: l) s = plc l s + 1 := by simp [plc, List.countP_cons, ha]
      rw [hp, insC_cons]
      refine List.pairwise_cons.2 ⟨fun x hx => ?_, insC_sorted s q l hs'.2 (fun c hc => hn c (by simp [hc]))⟩
      rcases insC_mem hx with rfl | hx
      · exact ha
      · exact hs'.1 x hx
    | false =>
      have hsa : ltB s a.1 = true := ltB_tri ha (hn a (by simp))
      have hl : ∀ x ∈ l, ltB x.1 s = false := fun x hx => by
        cases hx2 : ltB x.1 s with
        | false => rfl
        | true => rw [ltB_trans (hs'.1 x hx) hx2] at ha; cases ha
      have hp : plc (a :: l) s = 0 := by
        unfold plc
        rw [List.countP_eq_zero]
        intro x hx
        rcases List.mem_cons.1 hx with rfl | hx
        · simp [ha]
        · simp [hl x hx]
      rw [hp]
      show SortedC ((s, q) :: a :: l)
      refine List.pairwise_cons.2 ⟨fun x hx => ?_, hs⟩
      rcases List.mem_cons.1 hx with rfl | hx
      · exact hsa
      · exact ltB_trans hsa (hs'.1 x hx)
theorem hasN_ne {l : List Ch} {s : ByteArray} (h : hasN l s = false) : ∀ c ∈ l, c.1 ≠ s := by
  intro c hc e
  have : hasN l s = true := List.any_eq_true.2 ⟨c, hc, by simp [e]⟩
  rw [h] at this; cases this
theorem okN_put {r : NR} (h : OkN r) {s : ByteArray} (hn : hasN r.list s = false) (hs : s.size ≤ 100) (hl : r.list.length < 2000) (q : Nat) : OkN (putR r s q) :=
  ⟨insC_sorted s q _ h.so (hasN_ne hn), by show (insC _ _ _).length ≤ 2000; rw [insC_length _ _ (plc_le _ _)]; omega, fun c hc => by
    rcases insC_mem (show c ∈ insC _ _ _ from hc) with rfl | hc
    · exact hs
    · exact h.nm c hc, h.dat⟩
/-- the tree with a name put into one list: well-formed -/
theorem okT_put {S : TS} {g : Nat} (ho : OkT S g) {id : Id} {r r1 : NR} (hr : S.nd id = some r) {s : ByteArray} (hn : hasN r.list s = false) (hs : s.size ≤ 100) (hl : r.list.length < 2000) {q : Nat} (hq : S.nd (q, 0) = some r1) : OkT (S.upd id (putR r s q)) g := by
  have hup : ∀ x, (S.upd id (putR r s q)).nd x = if x = id then some (putR r s q) else S.nd x := fun _ => rfl
  have hex : ∀ x rx, S.nd x = some rx → ∃ r', (S.upd id (putR r s q)).nd x = some r' := fun x rx hx => by
    rw [hup]; split
    · exact ⟨_, rfl⟩
    · exact ⟨_, hx⟩
  refine ⟨fun z hz => ?_, fun i ri e c hc => ?_, fun i ri e => ?_, ?_⟩
  · obtain ⟨r0, e, hk⟩ := ho.root z hz
    rw [hup]
    split
    · rename_i hh
      rw [hh, hr] at e; cases e
      exact ⟨_, rfl, hk⟩
    · exact ⟨_, e, hk⟩
  · rw [hup] at e
    split at e
    · cases e
      rcases insC_mem (show c ∈ insC _ _ _ from hc) with rfl | hc
      · exact hex _ _ hq
      · obtain ⟨r', e'⟩ := ho.kids _ _ hr c hc
        exact hex _ _ e'
    · obtain ⟨r', e'⟩ := ho.kids _ _ e c hc
      exact hex _ _ e'
  · rw [hup] at e
    split at e
    · cases e; exact okN_put (ho.okn _ _ hr) hn hs hl q
    · exact ho.okn _ _ e
  · obtain ⟨U, hU, hU2⟩ := ho.fin
    refine ⟨U, hU, fun b rb e => ?_⟩
    rw [hup] at e
    split at e
    · rename_i hh; exact hU2 b r (by rw [hh]; exact hr)
    · exact hU2 b rb e
/-- how many nodes there are beside the root's lists -/
def NumT (S : TS) (n : Nat) : Prop := ∃ U : List Nat, U.length ≤ n ∧ ∀ b r, S.nd (b, 0) = some r → b ∈ U
theorem numT_put {S : TS} {n : Nat} (h : NumT S n) {id : Id} {r r' : NR} (hr : S.nd id = some r) : NumT (S.upd id r') n := by
  obtain ⟨U, h1, h2⟩ := h
  refine ⟨U, h1, fun b rb e => ?_⟩
  rw [show (S.upd id r').nd (b, 0) = if (b, 0) = id then some r' else S.nd (b, 0) from rfl] at e
  split at e
  · rename_i hh; exact h2 b r (by rw [hh]; exact hr)
  · exact h2 b rb e
theorem okT_add {S : TS} {g n : Nat} (ho : OkT S g) (hu : NumT S n) (hn : n + 1 ≤ 1000) {N : Nat} (hN : S.nd (N, 0) = none) (k l : Int) :
    OkT (S.upd (N, 0) ⟨k, l, ⟨#[]⟩, []⟩) g ∧ NumT (S.upd (N, 0) ⟨k, l, ⟨#[]⟩, []⟩) (n + 1) := by
  have hup : ∀ x, (S.upd (N, 0) ⟨k, l, ⟨#[]⟩, []⟩).nd x = if x = (N, 0) then some ⟨k, l, ⟨#[]⟩, []⟩ else S.nd x := fun _ => rfl
  have hold : ∀ x rx, S.nd x = some rx → (S.upd (N, 0) ⟨k, l, ⟨#[]⟩, []⟩).nd x = some rx := fun x rx hx => by
    rw [hup, if_neg (fun e => by rw [e, hN] at hx; cases hx)]; exact hx
  have hnum : NumT (S.upd (N, 0) ⟨k, l, ⟨#[]⟩, []⟩) (n + 1) := by
    obtain ⟨U, h1, h2⟩ := hu
    refine ⟨N :: U, by simp; omega, fun b rb e => ?_⟩
    rw [hup] at e
    split at e
    · rename_i hh; cases hh; simp
    · exact List.mem_cons_of_mem _ (h2 b rb e)
  refine ⟨⟨fun z hz => ?_, fun i ri e c hc => ?_, fun i ri e => ?_, ?_⟩, hnum⟩
  · obtain ⟨r0, e, hk⟩ := ho.root z hz
    exact ⟨r0, hold _ _ e, hk⟩
  · rw [hup] at e
    split at e
    · cases e; simp at hc
    · obtain ⟨r', e'⟩ := ho.kids _ _ e c hc
      exact ⟨r', hold _ _ e'⟩
  · rw [hup] at e
    split at e
    · cases e
      exact ⟨by simp [SortedC], by simp, by simp, by show (⟨#[]⟩ : ByteArray).size ≤ 10000; decide⟩
    · exact ho.okn _ _ e
  · obtain ⟨U, h1, h2⟩ := hnum
    exact ⟨U, by omega, h2⟩
theorem kdT_upd {S : TS} (h : KdT S) {id : Id} {r' : NR} (hk : id.2 = 0 → r'.kind = 1 ∨ r'.kind = 2) (hl : 0 ≤ r'.links) : KdT (S.upd id r') := by
  have hup : ∀ x, (S.upd id r').nd x = if x = id then some r' else S.nd x := fun _ => rfl
  refine ⟨fun b r e => ?_, fun i r e => ?_⟩
  · rw [hup] at e
    split at e
    · rename_i hh; cases e; exact hk (by rw [← hh])
    · exact h.kd b r e
  · rw [hup] at e
    split at e
    · cases e; exact hl
    · exact h.lk i r e
theorem kdT_put {S : TS} (h : KdT S) {id : Id} {r : NR} (hr : S.nd id = some r) (s : ByteArray) (q : Nat) : KdT (S.upd id (putR r s q)) :=
  kdT_upd h (fun e => h.kd id.1 r (by rw [← e]; exact hr)) (h.lk id r hr)
end Go.Proofs.YtglglbbjacgbdaaDoor
