import Derived.Test.YtglglbbjacgbdaaDoorProg
import Derived.Test.YtglglbbjacgbdaaDoorBase
import Derived.RegionTactic
import Derived.ChangeAlike
import Derived.Laws.OwnMore
import Derived.Deep.Onto
import Derived.Maps.AppendAt
namespace Go.Proofs.YtglglbbjacgbdaaDoor
open Go.RowKit
set_option linter.unusedVariables false

/-! ### what may have turned: blocks of F alone -/
structure Fr (F : Nat → Prop) (w w' : World) : Prop where
  os : w'.os = w.os
  tape : w'.tape = w.tape
  output : w'.output = w.output
  size : w.heap.size ≤ w'.heap.size
  block : ∀ k, k < w.heap.size → ¬ F k → w'.heap[k]? = w.heap[k]?
/-- F, and what has been made since -/
def Fup (F : Nat → Prop) (w w' : World) : Nat → Prop := fun k => F k ∨ (w.heap.size ≤ k ∧ k < w'.heap.size)
section
variable {F G : Nat → Prop} {w w' w'' : World}
theorem Fr.refl (F : Nat → Prop) (w : World) : Fr F w w := ⟨rfl, rfl, rfl, Nat.le_refl _, fun _ _ _ => rfl⟩
theorem Fr.trans (h : Fr F w w') (h' : Fr F w' w'') : Fr F w w'' :=
  ⟨h'.os.trans h.os, h'.tape.trans h.tape, h'.output.trans h.output, Nat.le_trans h.size h'.size, fun k hk hf => (h'.block k (Nat.lt_of_lt_of_le hk h.size) hf).trans (h.block k hk hf)⟩
theorem Fr.mono (h : Fr F w w') (hFG : ∀ k, F k → k < w.heap.size → G k) : Fr G w w' := ⟨h.os, h.tape, h.output, h.size, fun k hk hg => h.block k hk (fun hf => hg (hFG k hf hk))⟩
theorem Fr.of_grown {r : Option Nat} (h : w.grownBy w' r) : Fr (fun k => r = some k) w w' := ⟨h.os, h.tape, h.output, h.size, fun k hk hr => h.block k hk (fun e => hr e.symm)⟩
theorem Fr.of_below (h : Below w.heap.size w w') (F : Nat → Prop) : Fr F w w' := ⟨h.os, h.tape, h.output, h.size, fun k hk _ => h.block k hk⟩
theorem Fr.alloc (F : Nat → Prop) (w : World) (o : Obj) : Fr F w (w.alloc o) := Fr.of_below ((Below.refl _ _).alloc (Nat.le_refl _) o) F
theorem Fr.drewN (F : Nat → Prop) (w : World) (n : Nat) : Fr F w (w.drewN n) := ⟨rfl, rfl, rfl, Nat.le_refl _, fun _ _ _ => rfl⟩
theorem Fr.setCell (w : World) (g i : Nat) (u : Value) (hF : F g) : Fr F w (w.setCell ⟨g, i, none⟩ u) :=
  ⟨rfl, rfl, rfl, by simp, fun k _ hk => Below.heap_setCell w _ u k (fun e => hk (by rw [e]; exact hF))⟩
theorem Fr.below {B : World} (h : Fr F w w') (hb : Below B.heap.size B w) (hF : ∀ k, F k → B.heap.size ≤ k) : Below B.heap.size B w' :=
  hb.trans ⟨h.os, h.tape, h.output, h.size, fun k hk => h.block k (by have := hb.size; omega) (fun hf => by have := hF k hf; omega)⟩
theorem Fr.blk {g : Nat} {t : TypeId} {cs : Array Value} (h : Fr F w w') (hb : Blk w g t cs) (hg : ¬ F g) : Blk w' g t cs := (h.block g hb.lt hg).trans hb
theorem Fr.own {base e size n : Nat} {v : Value} {xs : List Value} (h : Fr F w w') (ho : w.ownsRow base e size v n xs) (hv : ∀ k, v.ownBlock = some k → ¬ F k) : w'.ownsRow base e size v n xs := by
  refine ⟨ho.1, ?_⟩
  rcases ho.2 with hn | ⟨g, cap, cur, rfl, hb, hg, rest⟩
  · exact .inl hn
  · refine .inr ⟨g, cap, cur, rfl, hb, ?_, rest⟩
    rw [h.block g (Array.getElem?_eq_some_iff.1 hg).1 (hv g (by simp [Value.ownBlock]))]
    exact hg
theorem own_mono {base e size n : Nat} {v : Value} {xs : List Value} (ho : w.ownsRow base e size v n xs) : w.ownsRow 0 e size v n xs := World.ownsRow.mono ho (Nat.zero_le _)
end


theorem Fr.own_low {base e size n : Nat} {v : Value} {xs : List Value} {w w' : World} (hb : Below w.heap.size w w') (ho : w.ownsRow base e size v n xs) : w'.ownsRow base e size v n xs := (Fr.of_below hb fun _ => False).own ho (fun _ _ h => h)
theorem Fr.blk_low {g : Nat} {t : TypeId} {cs : Array Value} {w w' : World} (hb : Below w.heap.size w w') (h : Blk w g t cs) : Blk w' g t cs := (Fr.of_below hb fun _ => False).blk h (fun h => h)
/-! ### bytes -/
theorem Reads.new {B size : Nat} (w : World) (cs : Array Value) (t : TypeId) (n : Nat) (hn : cs.size = n * size) (hk : B = w.heap.size) : Reads (w.alloc (.cells cs t)) (B + 1) size (some ⟨B, 0, none⟩) n cs.toList :=
  ⟨by simpa using hn, fun _ => ⟨_, rfl, by simp, new_cells w cs t B hk⟩⟩
theorem bne_ba {x y : ByteArray} (h : x ≠ y) : (x == y) = false := by
  obtain ⟨a⟩ := x
  obtain ⟨b⟩ := y
  rw [Bool.eq_false_iff]
  intro e
  have e' : (a == b) = true := e
  exact h (congrArg ByteArray.mk (eq_of_beq e'))
theorem bne_ba2 {x y : ByteArray} (h : x ≠ y) : ¬ x.data = y.data := by
  obtain ⟨a⟩ := x
  obtain ⟨b⟩ := y
  exact fun e => h (congrArg ByteArray.mk e)
theorem bne_list {x y : ByteArray} (h : x ≠ y) : (x.toList == y.toList) = false := by rw [← beq_toListBytes]; exact bne_ba h
theorem beq_list (x : ByteArray) : (x.toList == x.toList) = true := by simp
theorem ba_size (X : ByteArray) : X.toList.length = X.size := by rw [ByteArray.toList_eq]; rfl
theorem ba_isEmpty {X : ByteArray} (h : X.size ≠ 0) : X.toList.isEmpty = false := by
  have h1 := ba_size X
  cases hh : X.toList with
  | nil => rw [hh] at h1; simp at h1; omega
  | cons a b => rfl
theorem ba_nil {X : ByteArray} (h : X.size = 0) : X = ⟨#[]⟩ := by obtain ⟨d⟩ := X; exact congrArg ByteArray.mk (Array.eq_empty_of_size_eq_zero h)
theorem str_info : (Tryd.prog.info? 9).map (fun i => (i.zero, i.size, i.bytes)) = some (some (.string ⟨#[]⟩), 1, 16) := by kernel_rfl
theorem ext_ext (P : ByteArray) (i j a b : Nat) (h : i + b ≤ j) : (P.extract i j).extract a b = P.extract (i + a) (i + b) := by
  rw [ByteArray.extract_extract, Nat.min_eq_left h]
theorem ext_cat (P : ByteArray) {i j k : Nat} (h1 : i ≤ j) (h2 : j ≤ k) : P.extract i j ++ P.extract j k = P.extract i k := by
  apply ByteArray.ext
  rw [ByteArray.data_append, ByteArray.data_extract, ByteArray.data_extract, ByteArray.data_extract, Array.extract_append_extract, Nat.min_eq_left h1, Nat.max_eq_right h2]
theorem ext_left (s t : ByteArray) {i j : Nat} (h : j ≤ s.size) : (s ++ t).extract i j = s.extract i j := by
  apply ByteArray.ext
  rw [ByteArray.data_extract, ByteArray.data_append, ByteArray.data_extract, Array.extract_append]
  have : s.data.size = s.size := rfl
  rw [show j - s.data.size = 0 by omega]
  simp
theorem ext_all (s : ByteArray) {j : Nat} (h : s.size ≤ j) : s.extract 0 j = s := by
  apply ByteArray.ext
  rw [ByteArray.data_extract]
  have : s.data.size = s.size := rfl
  rw [Array.extract_eq_self_of_le (by omega)]
theorem ext_nil (s : ByteArray) (i : Nat) : s.extract i i = ⟨#[]⟩ := by
  apply ByteArray.ext
  rw [ByteArray.data_extract]
  simp; exact Nat.min_le_left _ _
end Go.Proofs.YtglglbbjacgbdaaDoor
