import Derived.Test.YtekgoliakgknjaaDiO
namespace Go.Proofs.Ytekgoliakgknjaa
open Go.RowKit
set_option linter.unusedVariables false
attribute [local go_sem] b_max2 b_min2 b_max b_min

/-! ### a disk beside blocks of the law's own -/
def DZ (B w : World) (g : Nat) (d : DS) (Z : Nat → Prop) : Prop := ∃ F, IsD w g F d ∧ d.ok ∧ Below B.heap.size B w ∧ (∀ k, F k → B.heap.size ≤ k ∧ ¬ Z k) ∧ ∀ z, Z z → z < w.heap.size
def Keeps (Z : Nat → Prop) (w w' : World) : Prop := ∀ z t cs, Z z → Blk w z t cs → Blk w' z t cs
section
variable {B w w' : World} {g : Nat} {d d' : DS} {Z : Nat → Prop}
theorem DZ.b (h : DZ B w g d Z) : Below B.heap.size B w := by obtain ⟨F, _, _, h, _⟩ := h; exact h
theorem DL.dz (h : DL B w g d) (hb : Below w.heap.size w w') (hZ : ∀ z, Z z → w.heap.size ≤ z ∧ z < w'.heap.size) : DZ B w' g d Z := by
  obtain ⟨F, h1, h2, h3, h4⟩ := h
  exact ⟨F, h1.low hb, h2, h3.trans (hb.mono h3.size), fun k hk => ⟨h4 k hk, fun hz => by have := h1.fb k hk; have := (hZ k hz).1; omega⟩, fun z hz => (hZ z hz).2⟩
theorem DZ.low (h : DZ B w g d Z) (hb : Below w.heap.size w w') : DZ B w' g d Z ∧ Keeps Z w w' := by
  obtain ⟨F, h1, h2, h3, h4, h5⟩ := h
  exact ⟨⟨F, h1.low hb, h2, h3.trans (hb.mono h3.size), h4, fun z hz => Nat.lt_of_lt_of_le (h5 z hz) hb.size⟩, fun z t cs hz hB => Fr.blk_low hb hB⟩
/-- a store into a block of the law's own -/
theorem DZ.set_ (h : DZ B w g d Z) {z : Nat} (hz : Z z) (hzB : B.heap.size ≤ z) (i : Nat) (u : Value) : DZ B (w.setCell ⟨z, i, none⟩ u) g d Z := by
  obtain ⟨F, h1, h2, h3, h4, h5⟩ := h
  exact ⟨F, h1.keep (Fr.setCell (F := fun j => j = z) w z i u rfl) (fun k hk hF => by subst hk; exact (h4 k hF).2 hz), h2, h3.setCell (p := ⟨z, i, none⟩) hzB u, h4, fun z' hz' => by simpa using h5 z' hz'⟩
theorem DZ.drewN (h : DZ B w g d Z) (n : Nat) : DZ B (w.drewN n) g d Z := (h.low (bdrewN (Below.refl _ _) n)).1
theorem Aft.dz {F : Nat → Prop} (ha : Aft w w' g F d') (hok : d'.ok) (h3 : Below B.heap.size B w) (h4 : ∀ k, F k → B.heap.size ≤ k ∧ ¬ Z k) (h5 : ∀ z, Z z → z < w.heap.size) : DZ B w' g d' Z ∧ Keeps Z w w' := by
  obtain ⟨F', a1, a2, a3⟩ := ha
  refine ⟨⟨F', a1, hok, a2.below h3 (fun k hk => (h4 k hk).1), fun k hk => ?_, fun z hz => Nat.lt_of_lt_of_le (h5 z hz) a2.size⟩, fun z t cs hz hB => a2.blk hB (fun hF => (h4 z hF).2 hz)⟩
  rcases a3 k hk with e | e
  · exact h4 k e
  · exact ⟨Nat.le_trans h3.size e, fun hz => by have := h5 k hz; omega⟩
theorem DZ.write (h : DZ B w g d Z) (k s : Int) (t : ByteArray) (r : Int) (hl : (d.caches k).length ≤ 1000) (hr : fWrite d k s t = (d', r)) :
    Calls Try.prog 14 #[.pointer (some ⟨g, 0, none⟩), .int .i64 k, .int .i64 s, .string t] w fun e w' => e = .returned (.int .i64 r) ∧ DZ B w' g d' Z ∧ Keeps Z w w' := by
  obtain ⟨F, h1, h2, h3, h4, h5⟩ := h
  exact (write_any h1 k s t hl).mono fun e w' ⟨e1, e2⟩ => by rw [hr] at e1 e2; exact ⟨e1, e2.dz (by have := DS.ok_write h2 k s t; rw [hr] at this; exact this) h3 h4 h5⟩
theorem DZ.flush (h : DZ B w g d Z) (k r : Int) (hl : (d.caches k).length ≤ 100000) (hr : fFlush d k = (d', r)) :
    Calls Try.prog 17 #[.pointer (some ⟨g, 0, none⟩), .int .i64 k] w fun e w' => e = .returned (.int .i64 r) ∧ DZ B w' g d' Z ∧ Keeps Z w w' := by
  obtain ⟨F, h1, h2, h3, h4, h5⟩ := h
  have hok : (fFlush d k).1.ok := by unfold fFlush; dsimp only; split; exact DS.ok_settle h2 k _; exact h2
  exact (flush_any h1 h2 k hl).mono fun e w' ⟨e1, e2, e3⟩ => by rw [hr] at e1 e2 hok; exact ⟨e1, (Aft.of_same e2 e3).dz hok h3 h4 h5⟩
theorem DZ.read (h : DZ B w g d Z) (k s : Int) (t : ByteArray) (r : Int) (hl : (d.caches k).length ≤ 100000) (hr : fRead d k s = (t, r)) :
    Calls Try.prog 15 #[.pointer (some ⟨g, 0, none⟩), .int .i64 k, .int .i64 s] w fun e w' => e = .returned (.tuple #[.string t, .int .i64 r]) ∧ DZ B w' g d Z ∧ Keeps Z w w' := by
  have h' := h
  obtain ⟨F, h1, h2, h3, h4, h5⟩ := h
  exact (read_any h1 k s hl).mono fun e w' ⟨e1, e2⟩ => by rw [hr] at e1; exact ⟨e1, h'.low e2⟩
theorem DZ.peek (h : DZ B w g d Z) (s : Int) (t : ByteArray) (hr : fPeek d s = t) : Calls Try.prog 16 #[.pointer (some ⟨g, 0, none⟩), .int .i64 s] w fun e w' => e = .returned (.string t) ∧ w = w' := by
  obtain ⟨F, h1, _⟩ := h
  rw [← hr]; exact peek_any h1 s
theorem DZ.cached (h : DZ B w g d Z) (k : Int) : Calls Try.prog 19 #[.pointer (some ⟨g, 0, none⟩), .int .i64 k] w fun e w' => e = .returned (.int .i64 ((d.caches k).length : Nat)) ∧ w = w' := by
  obtain ⟨F, h1, _⟩ := h
  exact cached_any h1 k
end
/-- key 1 alone, what lies and what its cache holds -/
def FL (L : List ByteArray) (C : List Put) : DS := ⟨L, K1, fun j => if j = 1 then C else [], []⟩
section
variable {L : List ByteArray} {C : List Put}
theorem fl_may (hL : L.length = 4) {s : Nat} (hs : s < 4) : fMay (FL L C) 1 s false = 0 := by
  unfold fMay
  rw [if_neg (by simp [FL, hL]; omega)]
  rfl
theorem fl_write (hL : L.length = 4) {s : Nat} (hs : s < 4) (b : Nat) : fWrite (FL L C) 1 s (sec b) = (FL L (C ++ [(s, sec b)]), 0) := by
  unfold fWrite
  rw [oddB_sec, fl_may hL hs, if_pos rfl]
  congr 1
  unfold FL DS.setCache
  congr 1
  funext j
  dsimp only
  by_cases hj : j = 1
  · rw [if_pos hj, if_pos hj, if_pos rfl]; rfl
  · rw [if_neg hj, if_neg hj, if_neg hj]
theorem fl_flush (hL : L.length = 4) : fFlush (FL L C) 1 = (FL (LA C L) [], 0) := by
  unfold fFlush
  rw [show fMay (FL L C) 1 0 false = 0 from fl_may hL (s := 0) (by omega), if_pos rfl]
  congr 1
  unfold FL fSettle DS.setCache DS.setLies
  congr 1
  funext j
  dsimp only
  by_cases hj : j = 1
  · rw [if_pos hj, if_pos hj]
  · rw [if_neg hj, if_neg hj, if_neg hj]
theorem fl_read (hL : L.length = 4) {s : Nat} (hs : s < 4) : fRead (FL L C) 1 s = ((LA C L).getD s ⟨#[]⟩, 0) := by
  unfold fRead
  rw [fl_may hL hs, if_pos rfl, LA_last C L s (by omega)]
  rfl
theorem fl_peek (hL : L.length = 4) {s : Nat} (hs : s < 4) : fPeek (FL L C) s = L.getD s ⟨#[]⟩ := by
  unfold fPeek
  rw [if_pos (by simp [FL, hL]; omega)]
  rfl
end
def strs (L : List ByteArray) : Array Value := (L.map Value.string).toArray
theorem strs_get (L : List ByteArray) {s : Nat} (hs : s < L.length) : (strs L)[s]? = some (.string (L.getD s ⟨#[]⟩)) := by
  rw [strs, List.getElem?_toArray, List.getElem?_map, List.getElem?_eq_getElem hs, List.getD_eq_getElem?_getD, List.getElem?_eq_getElem hs]; rfl
theorem strs_set (L : List ByteArray) (s : Nat) (x : ByteArray) : (strs L).setIfInBounds s (.string x) = strs (L.set s x) := by
  unfold strs
  rw [List.map_set]
  simp
end Go.Proofs.Ytekgoliakgknjaa
