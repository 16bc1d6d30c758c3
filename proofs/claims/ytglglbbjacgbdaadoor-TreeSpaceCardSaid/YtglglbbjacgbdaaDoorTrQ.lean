import Derived.Test.YtglglbbjacgbdaaDoorTrP
namespace Go.Proofs.YtglglbbjacgbdaaDoor
open Go.RowKit
set_option linter.unusedVariables false
set_option linter.unusedSimpArgs false

/-! ### one node of a tree turns; the others stand -/
/-- nodes lie apart; rows lie apart; no node's block is a row -/
structure SepT (w : World) (g : Nat) (S : TS) (vs : Id → Value) : Prop where
  blk : ∀ id r, S.nd id = some r → ∃ t cs, Blk w id.1 t cs ∧ t ≠ 72
  ids : ∀ id r, S.nd id = some r → (id.1 = g ∧ ∃ z, z < 4 ∧ id.2 = 1 + z * 4) ∨ (id.1 ≠ g ∧ id.2 = 0)
  rows : ∀ id id' r r' k, S.nd id = some r → S.nd id' = some r' → (vs id).ownBlock = some k → (vs id').ownBlock = some k → id = id'
  groot : ∃ t cs, Blk w g t cs ∧ t ≠ 72
/-- the blocks that a tree has -/
def ownT (g : Nat) (S : TS) (vs : Id → Value) (k : Nat) : Prop := k = g ∨ ∃ id r, S.nd id = some r ∧ (k = id.1 ∨ (vs id).ownBlock = some k)
def TS.upd (S : TS) (id : Id) (r : NR) : TS := ⟨S.room, fun x => if x = id then some r else S.nd x⟩
def vsU (vs : Id → Value) (id : Id) (v : Value) : Id → Value := fun x => if x = id then v else vs x
section
variable {w w' : World} {g : Nat} {S : TS} {vs : Id → Value} {id : Id} {r r' : NR} {v' : Value}
theorem Blk.uniq {t t' : TypeId} {cs cs' : Array Value} {k : Nat} (h : Blk w k t cs) (h' : Blk w k t' cs') : t = t' := by
  have e : some (Obj.cells cs t (0, 0)) = some (Obj.cells cs' t' (0, 0)) := (show w.heap[k]? = _ from h).symm.trans h'
  simp only [Option.some.injEq, Obj.cells.injEq] at e
  exact e.2.1
theorem IsT.upd (h : IsT w g S vs) (hs : SepT w g S vs) (hr : S.nd id = some r) (hN : IsN w' id r' v') (hF : Fr (fun k => k = id.1 ∨ (vs id).ownBlock = some k) w w')
    {t : TypeId} {cs : Array Value} (hb : Blk w' id.1 t cs) (ht : t ≠ 72) (hc : ∀ o, (o < id.2 ∨ id.2 + 4 ≤ o) → w'.cell? ⟨id.1, o, none⟩ = w.cell? ⟨id.1, o, none⟩)
    (hv : v'.ownBlock = (vs id).ownBlock ∨ ∃ k, v'.ownBlock = some k ∧ w.heap.size ≤ k) :
    IsT w' g (S.upd id r') (vsU vs id v') ∧ SepT w' g (S.upd id r') (vsU vs id v') ∧ Fr (ownT g S vs) w w' ∧ (∀ k, ownT g (S.upd id r') (vsU vs id v') k → ownT g S vs k ∨ w.heap.size ≤ k) := by
  have hrow := (h.node id r hr).row
  -- a block of another kind than a row stands, if it is not the node's own
  have keep : ∀ k t' cs', Blk w k t' cs' → t' ≠ 72 → k ≠ id.1 → Blk w' k t' cs' := fun k t' cs' hk h9 hne =>
    hF.blk hk (fun e => by
      rcases e with e | e
      · exact hne e
      · exact own_blk_ne hrow hk (Ne.symm h9) e)
  have blk' : ∀ k t' cs', Blk w k t' cs' → t' ≠ 72 → ∃ t'' cs'', Blk w' k t'' cs'' ∧ t'' ≠ 72 := fun k t' cs' hk h9 => by
    by_cases e : k = id.1
    · subst e; exact ⟨t, cs, hb, ht⟩
    · exact ⟨t', cs', keep k t' cs' hk h9 e, h9⟩
  have hids := hs.ids id r hr
  have cell' : ∀ k o t' cs', Blk w k t' cs' → t' ≠ 72 → (k = id.1 → o < id.2 ∨ id.2 + 4 ≤ o) → w'.cell? ⟨k, o, none⟩ = w.cell? ⟨k, o, none⟩ := fun k o t' cs' hk h9 hoo => by
    by_cases e : k = id.1
    · rw [e]; exact hc o (hoo e)
    · rw [(keep k t' cs' hk h9 e).cell, hk.cell]
  obtain ⟨tg, cg, hg, hg9⟩ := hs.groot
  refine ⟨⟨?_, ?_⟩, ⟨?_, ?_, ?_, ?_⟩, ?_, ?_⟩
  · refine (cell' g 0 tg cg hg hg9 (fun e => ?_)).trans h.rm
    rcases hids with ⟨_, z, _, hz⟩ | ⟨hne, _⟩
    · left; omega
    · exact absurd e.symm hne
  · intro id2 r2 h2
    by_cases e : id2 = id
    · subst e
      have : r' = r2 := by simpa [TS.upd] using h2
      subst this
      simpa [vsU] using hN
    · have h2' : S.nd id2 = some r2 := by simpa [TS.upd, e] using h2
      have hN2 := h.node id2 r2 h2'
      obtain ⟨t2, c2, hb2, h29⟩ := hs.blk id2 r2 h2'
      have hoff : ∀ j, j < 4 → id2.1 = id.1 → id2.2 + j < id.2 ∨ id.2 + 4 ≤ id2.2 + j := fun j hj e1 => by
        rcases hids with ⟨ha, z, _, hz⟩ | ⟨ha, hz⟩
        · rcases hs.ids id2 r2 h2' with ⟨_, z2, _, hz2⟩ | ⟨hne, _⟩
          · by_cases ez : z = z2
            · exact absurd (Prod.ext e1 (by rw [hz, hz2, ez])) e
            · omega
          · exact absurd (e1.trans ha) hne
        · rcases hs.ids id2 r2 h2' with ⟨ha2, _⟩ | ⟨_, hz2⟩
          · exact absurd (e1.symm.trans ha2) ha
          · exact absurd (Prod.ext e1 (by rw [hz, hz2])) e
      have ev : vsU vs id v' id2 = vs id2 := by simp [vsU, e]
      rw [ev]
      refine ⟨(cell' _ _ _ _ hb2 h29 (hoff 0 (by omega))).trans hN2.c0, (cell' _ _ _ _ hb2 h29 (hoff 1 (by omega))).trans hN2.c1, (cell' _ _ _ _ hb2 h29 (hoff 2 (by omega))).trans hN2.c2, (cell' _ _ _ _ hb2 h29 (hoff 3 (by omega))).trans hN2.c3, hF.own hN2.row (fun k hk hk2 => ?_), ?_⟩
      · rcases hk2 with e1 | e1
        · obtain ⟨t1, c1, hb1, h19⟩ := hs.blk id r hr
          subst e1
          exact own_blk_ne hN2.row hb1 (Ne.symm h19) hk
        · exact e (hs.rows id2 id r2 r k h2' hr hk e1)
      · obtain ⟨t3, c3, hb3, _⟩ := blk' _ _ _ hb2 h29
        exact ⟨c3, t3, hb3⟩
  · intro id2 r2 h2
    by_cases e : id2 = id
    · subst e; exact ⟨t, cs, hb, ht⟩
    · have h2' : S.nd id2 = some r2 := by simpa [TS.upd, e] using h2
      obtain ⟨t2, c2, hb2, h29⟩ := hs.blk id2 r2 h2'
      exact blk' _ _ _ hb2 h29
  · intro id2 r2 h2
    by_cases e : id2 = id
    · subst e; exact hids
    · exact hs.ids id2 r2 (by simpa [TS.upd, e] using h2)
  · have old : ∀ id2 r2 k, S.nd id2 = some r2 → (vs id2).ownBlock = some k → k < w.heap.size := fun id2 r2 k e2 ek => ((h.node id2 r2 e2).row.lt k ek).2
    intro i1 i2 r1 r2 k e1 e2 k1 k2
    by_cases x1 : i1 = id
    · by_cases x2 : i2 = id
      · rw [x1, x2]
      · subst x1
        have e2' : S.nd i2 = some r2 := by simpa [TS.upd, x2] using e2
        have k1' : v'.ownBlock = some k := by simpa [vsU] using k1
        have k2' : (vs i2).ownBlock = some k := by simpa [vsU, x2] using k2
        rcases hv with hv | ⟨k', hv, hk'⟩
        · exact hs.rows _ _ _ _ k hr e2' (hv ▸ k1') k2'
        · have := old _ _ _ e2' k2'
          rw [hv] at k1'
          have := Option.some.inj k1'
          omega
    · by_cases x2 : i2 = id
      · subst x2
        have e1' : S.nd i1 = some r1 := by simpa [TS.upd, x1] using e1
        have k2' : v'.ownBlock = some k := by simpa [vsU] using k2
        have k1' : (vs i1).ownBlock = some k := by simpa [vsU, x1] using k1
        rcases hv with hv | ⟨k', hv, hk'⟩
        · exact hs.rows _ _ _ _ k e1' hr k1' (hv ▸ k2')
        · have := old _ _ _ e1' k1'
          rw [hv] at k2'
          have := Option.some.inj k2'
          omega
      · exact hs.rows _ _ r1 r2 k (by simpa [TS.upd, x1] using e1) (by simpa [TS.upd, x2] using e2) (by simpa [vsU, x1] using k1) (by simpa [vsU, x2] using k2)
  · exact blk' _ _ _ hg hg9
  · exact hF.mono fun k hk _ => .inr ⟨id, r, hr, hk⟩
  · intro k hk
    rcases hk with hk | ⟨i, ri, ei, hk⟩
    · exact .inl (.inl hk)
    · by_cases x : i = id
      · subst x
        rcases hk with hk | hk
        · exact .inl (.inr ⟨i, r, hr, .inl hk⟩)
        · have hk' : v'.ownBlock = some k := by simpa [vsU] using hk
          rcases hv with hv | ⟨k', hv, hk2⟩
          · exact .inl (.inr ⟨i, r, hr, .inr (hv ▸ hk')⟩)
          · rw [hv] at hk'
            have := Option.some.inj hk'
            right; omega
      · have ei' : S.nd i = some ri := by simpa [TS.upd, x] using ei
        have hk' : k = i.1 ∨ (vs i).ownBlock = some k := by simpa [vsU, x] using hk
        exact .inl (.inr ⟨i, ri, ei', hk'⟩)
end
end Go.Proofs.YtglglbbjacgbdaaDoor
