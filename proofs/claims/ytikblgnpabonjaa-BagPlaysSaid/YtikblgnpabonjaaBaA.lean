import Derived.Test.YtikblgnpabonjaaRows
import Derived.Test.YtikblgnpabonjaaBase
import Derived.RegionTactic
import Derived.ChangeAlike
namespace Go.Proofs.Ytikblgnpabonjaa
open Go.RowKit
set_option linter.unusedVariables false
attribute [local go_sem] b_max2 b_min2 b_max b_min

/-! ### what may have turned: blocks of F alone -/
structure Fr (F : Nat → Prop) (w w' : World) : Prop where
  os : w'.os = w.os
  tape : w'.tape = w.tape
  output : w'.output = w.output
  size : w.heap.size ≤ w'.heap.size
  block : ∀ k, k < w.heap.size → ¬ F k → w'.heap[k]? = w.heap[k]?
/-- F, and what has been made since -/
def Fup (F : Nat → Prop) (w w' : World) : Nat → Prop := fun k => F k ∨ (w.heap.size ≤ k ∧ k < w'.heap.size)
section
variable {F G : Nat → Prop} {w w' w'' : World}
theorem Fr.refl (F : Nat → Prop) (w : World) : Fr F w w := ⟨rfl, rfl, rfl, Nat.le_refl _, fun _ _ _ => rfl⟩
theorem Fr.trans (h : Fr F w w') (h' : Fr F w' w'') : Fr F w w'' :=
  ⟨h'.os.trans h.os, h'.tape.trans h.tape, h'.output.trans h.output, Nat.le_trans h.size h'.size, fun k hk hf => (h'.block k (Nat.lt_of_lt_of_le hk h.size) hf).trans (h.block k hk hf)⟩
theorem Fr.mono (h : Fr F w w') (hFG : ∀ k, F k → k < w.heap.size → G k) : Fr G w w' := ⟨h.os, h.tape, h.output, h.size, fun k hk hg => h.block k hk (fun hf => hg (hFG k hf hk))⟩
theorem Fr.of_grown {r : Option Nat} (h : w.grownBy w' r) : Fr (fun k => r = some k) w w' := ⟨h.os, h.tape, h.output, h.size, fun k hk hr => h.block k hk (fun e => hr e.symm)⟩
theorem Fr.of_below (h : Below w.heap.size w w') (F : Nat → Prop) : Fr F w w' := ⟨h.os, h.tape, h.output, h.size, fun k hk _ => h.block k hk⟩
theorem Fr.alloc (F : Nat → Prop) (w : World) (o : Obj) : Fr F w (w.alloc o) := Fr.of_below ((Below.refl _ _).alloc (Nat.le_refl _) o) F
theorem Fr.drewN (F : Nat → Prop) (w : World) (n : Nat) : Fr F w (w.drewN n) := ⟨rfl, rfl, rfl, Nat.le_refl _, fun _ _ _ => rfl⟩
theorem Fr.setCell (w : World) (g i : Nat) (u : Value) (hF : F g) : Fr F w (w.setCell ⟨g, i, none⟩ u) :=
  ⟨rfl, rfl, rfl, by simp, fun k _ hk => Below.heap_setCell w _ u k (fun e => hk (by rw [e]; exact hF))⟩
theorem Fr.below {B : World} (h : Fr F w w') (hb : Below B.heap.size B w) (hF : ∀ k, F k → B.heap.size ≤ k) : Below B.heap.size B w' :=
  hb.trans ⟨h.os, h.tape, h.output, h.size, fun k hk => h.block k (by have := hb.size; omega) (fun hf => by have := hF k hf; omega)⟩
theorem Fr.blk {g : Nat} {t : TypeId} {cs : Array Value} (h : Fr F w w') (hb : Blk w g t cs) (hg : ¬ F g) : Blk w' g t cs := (h.block g hb.lt hg).trans hb
theorem Fr.own {base e size n : Nat} {v : Value} {xs : List Value} (h : Fr F w w') (ho : w.ownsRow base e size v n xs) (hv : ∀ k, v.ownBlock = some k → ¬ F k) : w'.ownsRow base e size v n xs := by
  refine ⟨ho.1, ?_⟩
  rcases ho.2 with hn | ⟨g, cap, cur, rfl, hb, hg, rest⟩
  · exact .inl hn
  · refine .inr ⟨g, cap, cur, rfl, hb, ?_, rest⟩
    rw [h.block g (Array.getElem?_eq_some_iff.1 hg).1 (hv g (by simp [Value.ownBlock]))]
    exact hg
theorem own_mono {base e size n : Nat} {v : Value} {xs : List Value} (ho : w.ownsRow base e size v n xs) : w.ownsRow 0 e size v n xs := World.ownsRow.mono ho (Nat.zero_le _)
end

/-! ### the network in memory: a block of 64 lists, each a row of its own -/
structure IsN (w : World) (g : Nat) (F : Nat → Prop) (vs : List Value) (Ls : List (List ByteArray)) : Prop where
  lv : vs.length = 64
  ll : Ls.length = 64
  blk : Blk w g 57 vs.toArray
  own : ∀ (i : Nat) (v : Value) (l : List ByteArray), vs[i]? = some v → Ls[i]? = some l → w.ownsRow 0 9 1 v l.length (l.map Value.string)
  dis : ∀ (i j : Nat) (v v' : Value) (k : Nat), i ≠ j → vs[i]? = some v → vs[j]? = some v' → v.ownBlock = some k → v'.ownBlock ≠ some k
  fg : F g
  fo : ∀ (i : Nat) (v : Value) (k : Nat), vs[i]? = some v → v.ownBlock = some k → F k
  fb : ∀ k, F k → k < w.heap.size
  cap : ∀ l ∈ Ls, l.length ≤ 200

section
variable {w w' w1 : World} {g : Nat} {F : Nat → Prop} {vs : List Value} {Ls : List (List ByteArray)}
/-- what leaves F alone leaves the network -/
theorem IsN.keep (h : IsN w g F vs Ls) {G : Nat → Prop} (hf : Fr G w w') (hG : ∀ k, G k → ¬ F k) : IsN w' g F vs Ls :=
  ⟨h.lv, h.ll, hf.blk h.blk (fun e => hG _ e h.fg), fun i v l hv hl => hf.own (h.own i v l hv hl) (fun k hk e => hG k e (h.fo i v k hv hk)), h.dis, h.fg, h.fo,
    fun k hk => Nat.lt_of_lt_of_le (h.fb k hk) hf.size, h.cap⟩
theorem IsN.low (h : IsN w g F vs Ls) (hb : Below w.heap.size w w') : IsN w' g F vs Ls := h.keep (G := fun _ => False) (Fr.of_below hb _) (fun _ h => h.elim)
theorem IsN.drewN (h : IsN w g F vs Ls) (n : Nat) : IsN (w.drewN n) g F vs Ls := h.keep (G := fun _ => False) (Fr.drewN _ _ _) (fun _ h => h.elim)
theorem IsN.alloc (h : IsN w g F vs Ls) (o : Obj) : IsN (w.alloc o) g F vs Ls := h.keep (G := fun _ => False) (Fr.alloc _ _ _) (fun _ h => h.elim)
theorem IsN.cell (h : IsN w g F vs Ls) {i : Nat} {v : Value} (hi : vs[i]? = some v) : w.cell? ⟨g, i, none⟩ = some v := by rw [h.blk.cell]; simpa using hi
theorem IsN.get (h : IsN w g F vs Ls) {i : Nat} (hi : i < 64) : ∃ v l, vs[i]? = some v ∧ Ls[i]? = some l ∧ w.ownsRow 0 9 1 v l.length (l.map Value.string) ∧ l.length ≤ 200 := by
  have h1 : i < vs.length := by rw [h.lv]; exact hi
  have h2 : i < Ls.length := by rw [h.ll]; exact hi
  exact ⟨vs[i], Ls[i], List.getElem?_eq_getElem h1, List.getElem?_eq_getElem h2, h.own i _ _ (List.getElem?_eq_getElem h1) (List.getElem?_eq_getElem h2), h.cap _ (List.getElem_mem h2)⟩
/-- one link's list is turned -/
theorem IsN.upd (h : IsN w g F vs Ls) {i : Nat} {v v' : Value} {l' : List ByteArray} (hi : vs[i]? = some v) (hfr : Fr (fun k => v.ownBlock = some k) w w1)
    (hown : w1.ownsRow 0 9 1 v' l'.length (l'.map Value.string)) (hb : v'.ownBlock = v.ownBlock ∨ v'.ownBlock = none ∨ ∃ K, v'.ownBlock = some K ∧ w.heap.size ≤ K) (hlen : l'.length ≤ 200) :
    IsN (w1.setCell ⟨g, i, none⟩ v') g (Fup F w (w1.setCell ⟨g, i, none⟩ v')) (vs.set i v') (Ls.set i l') ∧ Fr F w (w1.setCell ⟨g, i, none⟩ v') := by
  have hne : ∀ (j : Nat) (u : Value) (l : List ByteArray), vs[j]? = some u → Ls[j]? = some l → u.ownBlock ≠ some g := fun j u l hu hl => own_blk_ne (h.own j u l hu hl) h.blk (by decide)
  have hil : i < vs.length := (List.getElem?_eq_some_iff.1 hi).1
  have hgl := h.blk.lt
  obtain ⟨li, hli⟩ : ∃ l, Ls[i]? = some l := ⟨Ls[i]'(by rw [h.ll, ← h.lv]; exact hil), List.getElem?_eq_getElem _⟩
  have hblk1 : Blk w1 g 57 vs.toArray := hfr.blk h.blk (hne i v li hi hli)
  have hv'g : v'.ownBlock ≠ some g := own_blk_ne hown hblk1 (by decide)
  have hsz : (w1.setCell ⟨g, i, none⟩ v').heap.size = w1.heap.size := by simp
  have hFr : Fr F w (w1.setCell ⟨g, i, none⟩ v') := (hfr.mono (fun k hk _ => h.fo i v k hi hk)).trans (Fr.setCell w1 g i v' h.fg)
  refine ⟨⟨by simpa using h.lv, by simpa using h.ll, ?_, ?_, ?_, .inl h.fg, ?_, ?_, set_mem' h.cap i l' hlen⟩, hFr⟩
  · have e := hblk1.set_ i v'
    have e2 : vs.toArray.setIfInBounds i v' = (vs.set i v').toArray := by simp
    rwa [e2] at e
  · intro j u l hu hl
    rw [List.getElem?_set] at hu hl
    by_cases hj : i = j
    · subst hj
      rw [if_pos rfl, if_pos (by rw [h.ll, ← h.lv]; exact hil)] at hl
      rw [if_pos rfl, if_pos hil] at hu
      obtain rfl := Option.some.inj hu
      obtain rfl := Option.some.inj hl
      exact hown.kept (grownBy_setCell w1 g i v') (.inr hv'g)
    · rw [if_neg hj] at hu hl
      have h1 := hfr.own (h.own j u l hu hl) (fun k hk hk2 => h.dis j i u v k (fun e => hj e.symm) hu hi hk hk2)
      exact h1.kept (grownBy_setCell w1 g i v') (.inr (hne j u l hu hl))
  · have hnew : ∀ k, v'.ownBlock = some k → ∀ (j : Nat) (u : Value), j ≠ i → vs[j]? = some u → u.ownBlock ≠ some k := by
      intro k hk j u hj hu hk2
      rcases hb with e | e | ⟨K, e, hK⟩
      · rw [e] at hk; exact h.dis j i u v k hj hu hi hk2 hk
      · rw [e] at hk; cases hk
      · rw [e] at hk
        obtain rfl := Option.some.inj hk
        have := h.fb K (h.fo j u K hu hk2)
        omega
    intro a b u u' k hab hu hu' hk hk'
    rw [List.getElem?_set] at hu hu'
    by_cases ha : i = a
    · subst ha
      rw [if_pos rfl, if_pos hil] at hu
      rw [if_neg hab] at hu'
      obtain rfl := Option.some.inj hu
      exact hnew k hk b u' (fun e => hab e.symm) hu' hk'
    · rw [if_neg ha] at hu
      by_cases hb' : i = b
      · subst hb'
        rw [if_pos rfl, if_pos hil] at hu'
        obtain rfl := Option.some.inj hu'
        exact hnew k hk' a u (fun e => ha e.symm) hu hk
      · rw [if_neg hb'] at hu'
        exact h.dis a b u u' k hab hu hu' hk hk'
  · intro j u k hu hk
    rw [List.getElem?_set] at hu
    by_cases hj : i = j
    · subst hj
      rw [if_pos rfl, if_pos hil] at hu
      obtain rfl := Option.some.inj hu
      rcases hb with e | e | ⟨K, e, hK⟩
      · rw [e] at hk; exact .inl (h.fo i v k hi hk)
      · rw [e] at hk; cases hk
      · rw [e] at hk
        obtain rfl := Option.some.inj hk
        exact .inr ⟨hK, by rw [hsz]; exact (hown.lt K e).2⟩
    · rw [if_neg hj] at hu
      exact .inl (h.fo j u k hu hk)
  · intro k hk
    rcases hk with hk | ⟨_, hk⟩
    · exact Nat.lt_of_lt_of_le (h.fb k hk) hFr.size
    · exact hk
end
end Go.Proofs.Ytikblgnpabonjaa
