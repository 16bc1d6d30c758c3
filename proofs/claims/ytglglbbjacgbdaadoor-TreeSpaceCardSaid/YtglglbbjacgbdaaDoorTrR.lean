import Derived.Test.YtglglbbjacgbdaaDoorTrQ
namespace Go.Proofs.YtglglbbjacgbdaaDoor
open Go.RowKit
set_option linter.unusedVariables false
set_option linter.unusedSimpArgs false

/-! ### put, on the tree; a node is added; nodes are forgotten -/
section
variable {w w' : World} {g : Nat} {S : TS} {vs : Id → Value} {id : Id} {r r' : NR} {v' : Value}
def putR (r : NR) (s : ByteArray) (q : Nat) : NR := { r with list := insC r.list (plc r.list s) (s, q) }
/-- what a step leaves: the tree as said, apart, nothing else touched -/
structure Went (w w' : World) (g : Nat) (S : TS) (vs : Id → Value) (S' : TS) (vs' : Id → Value) : Prop where
  tree : IsT w' g S' vs'
  sep : SepT w' g S' vs'
  fr : Fr (ownT g S vs) w w'
  own : ∀ k, ownT g S' vs' k → ownT g S vs k ∨ w.heap.size ≤ k
theorem Went.refl (h : IsT w g S vs) (hs : SepT w g S vs) : Went w w g S vs S vs := ⟨h, hs, Fr.refl _ _, fun _ h => .inl h⟩
theorem SepT.low (hs : SepT w g S vs) (hb : Below w.heap.size w w') : SepT w' g S vs :=
  ⟨fun id r e => by obtain ⟨t, cs, h, h9⟩ := hs.blk id r e; exact ⟨t, cs, h.below hb h.lt, h9⟩, hs.ids, hs.rows, by obtain ⟨t, cs, h, h9⟩ := hs.groot; exact ⟨t, cs, h.below hb h.lt, h9⟩⟩
theorem Went.low (h : IsT w g S vs) (hs : SepT w g S vs) (hb : Below w.heap.size w w') : Went w w' g S vs S vs := ⟨h.low hb, hs.low hb, Fr.of_below hb _, fun _ h => .inl h⟩
theorem Went.trans {w'' : World} {S' S'' : TS} {vs' vs'' : Id → Value} (h : Went w w' g S vs S' vs') (h' : Went w' w'' g S' vs' S'' vs'') : Went w w'' g S vs S'' vs'' := by
  refine ⟨h'.tree, h'.sep, ?_, ?_⟩
  · refine ⟨h'.fr.os.trans h.fr.os, h'.fr.tape.trans h.fr.tape, h'.fr.output.trans h.fr.output, Nat.le_trans h.fr.size h'.fr.size, fun k hk hn => (h'.fr.block k (Nat.lt_of_lt_of_le hk h.fr.size) (fun e => ?_)).trans (h.fr.block k hk hn)⟩
    rcases h.own k e with e | e
    · exact hn e
    · omega
  · intro k hk
    rcases h'.own k hk with e | e
    · exact h.own k e
    · have := h.fr.size; right; omega
theorem put_tree (h : IsT w g S vs) (hs : SepT w g S vs) (hr : S.nd id = some r) (ho : OkN r) (hlen : r.list.length < 2000) (s : ByteArray) (q : Nat) :
    Calls Tryd.prog 26 #[.pointer (some ⟨id.1, id.2, none⟩), .string s, .pointer (some ⟨q, 0, none⟩)] w fun e w' => e = .returned (.tuple #[]) ∧ ∃ v', Went w w' g S vs (S.upd id (putR r s q)) (vsU vs id v') := by
  obtain ⟨t, cs, hb, ht⟩ := hs.blk id r hr
  have hN := h.node id r hr
  refine (put_any hN ho hlen hb ht s q).mono ?_
  rintro e w' ⟨rfl, v', cs', h1, h2, h3, h4, h5, h6⟩
  refine ⟨rfl, v', ?_⟩
  have hN' : IsN w' id (putR r s q) v' := ⟨(h4 _ (by omega)).trans hN.c0, (h4 _ (by omega)).trans hN.c1, (h4 _ (by omega)).trans hN.c2, h3, by rw [show (putR r s q).list.length = r.list.length + 1 from insC_length _ _ (plc_le _ _) _]; exact h1, ⟨cs', t, h2⟩⟩
  obtain ⟨k1, k2, k3, k4⟩ := h.upd hs hr hN' h5 h2 ht (fun o ho' => h4 o (by omega)) h6
  exact ⟨k1, k2, k3, k4⟩
/-- a new node with no list -/
theorem Went.add (h : IsT w g S vs) (hs : SepT w g S vs) (r' : NR) (hl : r'.list = []) (hn : S.nd (w.heap.size, 0) = none) :
    Went w (w.alloc (.cells #[.int .i64 r'.kind, .int .i64 r'.links, .string r'.data, .slice none 0 0] 42)) g S vs (S.upd (w.heap.size, 0) r') (vsU vs (w.heap.size, 0) (.slice none 0 0)) := by
  have hB : Below w.heap.size w (w.alloc (.cells #[.int .i64 r'.kind, .int .i64 r'.links, .string r'.data, .slice none 0 0] 42)) := (Below.refl _ w).alloc (Nat.le_refl _) _
  have hnew : Blk (w.alloc (.cells #[.int .i64 r'.kind, .int .i64 r'.links, .string r'.data, .slice none 0 0] 42)) w.heap.size 42 #[.int .i64 r'.kind, .int .i64 r'.links, .string r'.data, .slice none 0 0] := Blk.new w 42 _
  generalize w.alloc (.cells #[.int .i64 r'.kind, .int .i64 r'.links, .string r'.data, .slice none 0 0] 42) = w' at *
  have h' := h.low hB
  have hs' := hs.low hB
  have hne : ∀ id r, S.nd id = some r → id ≠ (w.heap.size, 0) := fun id r e e2 => by rw [e2, hn] at e; cases e
  have hgl : g < w.heap.size := World.block_lt_of_cell? _ _ h.rm
  refine ⟨⟨h'.rm, ?_⟩, ⟨?_, ?_, ?_, hs'.groot⟩, Fr.of_below hB _, ?_⟩
  · intro id2 r2 e2
    by_cases e : id2 = (w.heap.size, 0)
    · subst e
      have : r' = r2 := by simpa [TS.upd] using e2
      subst this
      simp only [vsU, if_true]
      exact ⟨by rw [hnew.cell]; rfl, by rw [hnew.cell]; rfl, by rw [hnew.cell]; rfl, by rw [hnew.cell]; rfl, by rw [hl]; exact World.ownsRow_nil _ _ _ _, ⟨_, _, hnew⟩⟩
    · have := h'.node id2 r2 (by simpa [TS.upd, e] using e2)
      simpa [vsU, e] using this
  · intro id2 r2 e2
    by_cases e : id2 = (w.heap.size, 0)
    · subst e; exact ⟨42, _, hnew, by decide⟩
    · exact hs'.blk id2 r2 (by simpa [TS.upd, e] using e2)
  · intro id2 r2 e2
    by_cases e : id2 = (w.heap.size, 0)
    · subst e; exact .inr ⟨by dsimp only; omega, rfl⟩
    · exact hs'.ids id2 r2 (by simpa [TS.upd, e] using e2)
  · intro i1 i2 r1 r2 k e1 e2 k1 k2
    by_cases x1 : i1 = (w.heap.size, 0)
    · subst x1; simp [vsU, Value.ownBlock] at k1
    · by_cases x2 : i2 = (w.heap.size, 0)
      · subst x2; simp [vsU, Value.ownBlock] at k2
      · exact hs.rows _ _ r1 r2 k (by simpa [TS.upd, x1] using e1) (by simpa [TS.upd, x2] using e2) (by simpa [vsU, x1] using k1) (by simpa [vsU, x2] using k2)
  · intro k hk
    rcases hk with hk | ⟨i, ri, ei, hk⟩
    · exact .inl (.inl hk)
    · by_cases x : i = (w.heap.size, 0)
      · subst x
        rcases hk with hk | hk
        · right; rw [hk]; exact Nat.le_refl _
        · simp [vsU, Value.ownBlock] at hk
      · exact .inl (.inr ⟨i, ri, by simpa [TS.upd, x] using ei, by simpa [vsU, x] using hk⟩)
/-- nodes that nothing names are forgotten -/
theorem Went.cut (h : IsT w g S vs) (hs : SepT w g S vs) (S' : TS) (hr : S'.room = S.room) (hsub : ∀ id r, S'.nd id = some r → S.nd id = some r) : Went w w g S vs S' vs :=
  ⟨⟨by rw [hr]; exact h.rm, fun id r e => h.node id r (hsub _ _ e)⟩, ⟨fun id r e => hs.blk id r (hsub _ _ e), fun id r e => hs.ids id r (hsub _ _ e), fun a b r r' k e1 e2 => hs.rows a b r r' k (hsub _ _ e1) (hsub _ _ e2), hs.groot⟩, Fr.refl _ _, fun k hk => by
    rcases hk with hk | ⟨i, ri, ei, hk⟩
    · exact .inl (.inl hk)
    · exact .inl (.inr ⟨i, ri, hsub _ _ ei, hk⟩)⟩
end
end Go.Proofs.YtglglbbjacgbdaaDoor
