import Derived.Test.YtekgoliakgknjaaDr
namespace Go.Proofs.Ytekgoliakgknjaa
open Go.RowKit
set_option linter.unusedVariables false
attribute [local go_sem] b_max2 b_min2 b_max b_min

/-! ### both disks, side by side -/
def TD (B w : World) (g : Nat) (d : DS) (r : Nat) (R : RS) (Z : Nat → Prop) : Prop := ∃ G, IsR w r G R ∧ DZ B w g d (fun k => Z k ∨ G k) ∧ ∀ k, G k → B.heap.size ≤ k ∧ ¬ Z k
section
variable {B w w' : World} {g r : Nat} {d d' : DS} {R R' : RS} {Z Z' : Nat → Prop}
theorem TD.b (h : TD B w g d r R Z) : Below B.heap.size B w := by obtain ⟨G, _, h, _⟩ := h; exact h.b
theorem TD.ok (h : TD B w g d r R Z) : R.ok := by obtain ⟨G, h, _⟩ := h; exact h.ok
theorem TD.dop (h : TD B w g d r R Z) : ∃ Z', DZ B w g d Z' ∧ (∀ k, Z k → Z' k) ∧ ∀ w' d', DZ B w' g d' Z' → Keeps Z' w w' → TD B w' g d' r R Z ∧ Keeps Z w w' := by
  obtain ⟨G, h1, h2, h3⟩ := h
  refine ⟨_, h2, fun k => .inl, fun w' d' a1 a2 => ⟨⟨G, ⟨h1.x.elim fun vs hx => ⟨vs, hx.keeps a2 (fun k hk => .inr hk) ?_⟩, h1.ok, h1.cap⟩, a1, h3⟩, fun z t cs hz hb => a2 z t cs (.inl hz) hb⟩⟩
  obtain ⟨_, _, _, _, _, h⟩ := a1
  exact h
theorem TD.rop (h : TD B w g d r R Z) : ∃ G, IsR w r G R ∧ (∀ k, G k → B.heap.size ≤ k ∧ ¬ Z k) ∧ ∀ w' d', AftR w w' r G R d' → ∃ R', TD B w' g d r R' Z ∧ R'.ds = d' ∧ Grow R R' ∧ Keeps Z w w' := by
  obtain ⟨G, h1, h2, h3⟩ := h
  refine ⟨G, h1, h3, fun w' d' ha => ?_⟩
  obtain ⟨G', R', a1, a2, a3, a4, a5⟩ := ha
  obtain ⟨F, b1, b2, b3, b4, b5⟩ := h2
  refine ⟨R', ⟨G', a1, ⟨F, b1.keep a4 (fun k hG hF => (b4 k hF).2 (.inr hG)), b2, a4.below b3 (fun k hk => (h3 k hk).1), fun k hk => ⟨(b4 k hk).1, fun e => ?_⟩, fun z hz => ?_⟩, fun k hk => ?_⟩, a2, a3, fun z t cs hz hb => a4.blk hb (fun hG => (h3 z hG).2 hz)⟩
  · rcases e with e | e
    · exact (b4 k hk).2 (.inl e)
    · rcases a5 k e with e | e
      · exact (b4 k hk).2 (.inr e)
      · have := b1.fb k hk; omega
  · rcases hz with hz | hz
    · exact Nat.lt_of_lt_of_le (b5 z (.inl hz)) a4.size
    · exact a1.x.elim fun vs hx => hx.fb z hz
  · rcases a5 k hk with e | e
    · exact h3 k e
    · exact ⟨Nat.le_trans b3.size e, fun hz => by have := b5 k (.inl hz); omega⟩
theorem TD.low (h : TD B w g d r R Z) (hb : Below w.heap.size w w') : TD B w' g d r R Z ∧ Keeps Z w w' := by
  obtain ⟨Z', h1, _, h2⟩ := h.dop
  have := h1.low hb
  exact h2 _ _ this.1 this.2
theorem TD.drewN (h : TD B w g d r R Z) (n : Nat) : TD B (w.drewN n) g d r R Z := (h.low (bdrewN (Below.refl _ _) n)).1
theorem TD.grow (h : TD B w g d r R Z) (o : Obj) : TD B (w.alloc o) g d r R (fun k => Z k ∨ k = w.heap.size) := by
  obtain ⟨G, h1, h2, h3⟩ := h
  refine ⟨G, h1.low ((Below.refl _ _).alloc (Nat.le_refl _) o), (h2.grow o).less (fun k hk => ?_), fun k hk => ⟨(h3 k hk).1, fun e => e.elim (h3 k hk).2 (fun e => ?_)⟩⟩
  · rcases hk with (hk | hk) | hk
    · exact .inl (.inl hk)
    · exact .inr hk
    · exact .inl (.inr hk)
  · have := h1.x.elim fun vs hx => hx.fb k hk
    omega
theorem TD.less (h : TD B w g d r R Z) (hZ : ∀ k, Z' k → Z k) : TD B w g d r R Z' := by
  obtain ⟨G, h1, h2, h3⟩ := h
  exact ⟨G, h1, h2.less (fun k hk => hk.imp (hZ k) id), fun k hk => ⟨(h3 k hk).1, fun e => (h3 k hk).2 (hZ k e)⟩⟩
/-- picks that the law was given -/
theorem TD.picks (hB : Below B.heap.size B w) {A : Option Addr} {n : Nat} {zs : List Int} (hl : zs.length = n) (hb : ∀ z ∈ zs, -9223372036854775808 ≤ z ∧ z ≤ 9223372036854775807) (hr : Reads B B.heap.size 1 A n (zs.map (Value.int .i64))) :
    PK B w Z A n zs ∧ ∀ G : Nat → Prop, (∀ k, G k → B.heap.size ≤ k) → Picks w G A n zs := by
  have hown : 0 < n → ∀ ad, A = some ad → ad.block < B.heap.size := by
    intro h0 ad e
    obtain ⟨ad', e', h1, _⟩ := hr.2 h0
    rw [e] at e'
    obtain rfl := Option.some.inj e'
    exact h1
  exact ⟨⟨hl, ⟨_, hr.below hB⟩, fun h0 ad e => ⟨.inl (hown h0 ad e), Nat.lt_of_lt_of_le (hown h0 ad e) hB.size⟩, hb⟩,
    fun G hG => ⟨hl, ⟨_, hr.below hB⟩, fun h0 ad e => ⟨fun hg => by have := hG _ hg; have := hown h0 ad e; omega, Nat.lt_of_lt_of_le (hown h0 ad e) hB.size⟩, hb⟩⟩
/-! ### whose caches are not empty -/
def CS (d d' : DS) (k : Int) : Prop := ∀ j, d'.caches j ≠ [] → d.caches j ≠ [] ∨ j = k
theorem CS.refl (d : DS) (k : Int) : CS d d k := fun _ h => .inl h
theorem cs_reg (d : DS) (k j : Int) : CS d (fReg d k).1 j := by
  unfold fReg
  split
  · exact CS.refl d j
  · split <;> exact CS.refl d j
theorem cs_write (d : DS) (k s : Int) (t : ByteArray) : CS d (fWrite d k s t).1 k := by
  unfold fWrite
  dsimp only
  split
  · intro j hj
    by_cases h : j = k
    · exact .inr h
    · exact .inl (by unfold DS.setCache at hj; dsimp only at hj; rw [if_neg h] at hj; exact hj)
  · exact CS.refl d k
theorem cs_settle (d : DS) (k : Int) (st : Nat → Bool) (j : Int) : CS d (fSettle d k st) j := by
  intro i hi
  rw [fSettle_caches] at hi
  by_cases h : i = k
  · rw [if_pos h] at hi; exact absurd rfl hi
  · rw [if_neg h] at hi; exact .inl hi
theorem cs_flush (d : DS) (k j : Int) : CS d (fFlush d k).1 j := by
  unfold fFlush
  dsimp only
  split
  · exact cs_settle d k _ j
  · exact CS.refl d j
theorem cs_swap (d : DS) (k s : Int) (a b : ByteArray) (j : Int) : CS d (fSwap d k s a b).1 j := by
  unfold fSwap
  split
  · exact CS.refl d j
  · split
    · exact CS.refl d j
    · split <;> exact CS.refl d j
theorem cs_fence (d : DS) (k t j : Int) : CS d (fFence d k t).1 j := by
  unfold fFence
  split
  · exact CS.refl d j
  · dsimp only; split <;> exact CS.refl d j
theorem cs_takes (d : DS) (zs : List Int) (j : Int) : CS d (fTakes d zs).1 j := by
  unfold fTakes
  split
  · exact CS.refl d j
  · exact cs_settle ((d.setPend _).setKey _ false) _ _ j
theorem cs_pow : ∀ (ms zs : List Int) (d : DS) (j : Int), CS d ((fPow ms zs d).setPend []) j
  | [], _, d, j => CS.refl d j
  | k :: ks, zs, d, j => fun i hi => by
    rcases cs_pow ks (zs.drop (d.caches k).length) (fSettle d k (pickF zs)) j i hi with h | h
    · exact cs_settle d k _ j i h
    · exact .inr h
/-! ### what is asked of both -/
theorem TD.cached (h : TD B w g d r R Z) (hd : R.ds = d) (k : Int) : Calls Try.prog 19 #[.pointer (some ⟨g, 0, none⟩), .int .i64 k] w (fun e w' => e = .returned (.int .i64 ((cacheOf R.puts k).length : Nat)) ∧ w = w') ∧ Calls Try.prog 40 #[.pointer (some ⟨r, 0, none⟩), .int .i64 k] w (fun e w' => e = .returned (.int .i64 ((cacheOf R.puts k).length : Nat)) ∧ w = w') := by
  subst hd
  obtain ⟨G, h1, h2, _⟩ := h
  exact ⟨h2.cached k, rcached_any h1 k⟩
theorem TD.registered (h : TD B w g d r R Z) (hd : R.ds = d) (k : Int) : Calls Try.prog 23 #[.pointer (some ⟨g, 0, none⟩), .int .i64 k] w (fun e w' => e = .returned (.bool ((keyOf R.ks R.on k).getD false)) ∧ w = w') ∧ Calls Try.prog 41 #[.pointer (some ⟨r, 0, none⟩), .int .i64 k] w (fun e w' => e = .returned (.bool ((keyOf R.ks R.on k).getD false)) ∧ w = w') := by
  subst hd
  obtain ⟨G, h1, h2, _⟩ := h
  exact ⟨h2.registered k _ rfl, rregistered_any h1 k⟩
/-- the document's rows, as they lie -/
theorem TD.rows (h : TD B w g d r R Z) : ∃ A0 c0 A4 c4, w.cell? ⟨r, 0, none⟩ = some (.slice A0 R.L.length c0) ∧ w.cell? ⟨r, 4, none⟩ = some (.slice A4 R.pend.length c4) ∧ Reads w w.heap.size 1 A0 R.L.length (R.L.map Value.string) ∧ Reads w w.heap.size 1 A4 R.pend.length (R.pend.map (Value.int .i64)) := by
  obtain ⟨G, h1, _⟩ := h
  obtain ⟨vs, hx⟩ := h1.x
  have c0 : w.cell? ⟨r, 0, none⟩ = some (vs 0) := by simpa using hx.blk.cell 0
  have c4 : w.cell? ⟨r, 4, none⟩ = some (vs 4) := by simpa using hx.blk.cell 4
  obtain ⟨A, c, e0, _, hR⟩ := Reads.of_own (show w.ownsRow 0 9 1 (vs 0) R.L.length (R.L.map Value.string) from hx.row 0 (by omega))
  obtain ⟨A4, c4', e4, _, hR4⟩ := (show ORow w 3 (vs 4) R.pend.length (R.pend.map (Value.int .i64)) from hx.row 4 (by omega)).reads
  rw [e0] at c0
  rw [e4] at c4
  exact ⟨A, c, A4, c4', c0, c4, hR, hR4⟩
end
end Go.Proofs.Ytekgoliakgknjaa
