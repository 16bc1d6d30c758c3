import Derived.Test.YtglglbbjacgbdaaDoorTrM
import Derived.Shelf.Spec.SlicesInsertGrow
namespace Go.Proofs.YtglglbbjacgbdaaDoor
open Go.RowKit
set_option linter.unusedVariables false
set_option linter.unusedSimpArgs false
attribute [local go_sem] b_max2 b_min2 b_max b_min

/-! ### copy of a row whose elements have more cells than one -/
/-- cells laid over a list from o on -/
def pl (L : List Value) (o : Nat) (cs : List Value) : List Value := L.take o ++ cs ++ L.drop (o + cs.length)
theorem pl_length (L : List Value) (o : Nat) (cs : List Value) (h : o + cs.length ≤ L.length) : (pl L o cs).length = L.length := by
  simp [pl]; omega
theorem pl_shift (L vs ys : List Value) (o : Nat) (h : o + vs.length + ys.length ≤ L.length) :
    pl (pl L (o + vs.length) ys) o vs = L.take o ++ vs ++ (ys ++ L.drop (o + vs.length + ys.length)) := by
  have h1 : (L.take (o + vs.length)).length = o + vs.length := by rw [List.length_take]; omega
  have e1 : (pl L (o + vs.length) ys).take o = L.take o := by
    unfold pl
    rw [List.append_assoc, List.take_append_of_le_length (by omega), List.take_take, Nat.min_eq_left (by omega)]
  have e2 : (pl L (o + vs.length) ys).drop (o + vs.length) = ys ++ L.drop (o + vs.length + ys.length) := by
    unfold pl
    rw [List.append_assoc]
    exact List.drop_left' h1
  rw [pl, e1, e2]
theorem pl_fill (L vs ys : List Value) (o : Nat) (h : o + vs.length + ys.length ≤ L.length) :
    pl (pl L o vs) (o + vs.length) ys = L.take o ++ vs ++ (ys ++ L.drop (o + vs.length + ys.length)) := by
  have h1 : (L.take o ++ vs).length = o + vs.length := by rw [List.length_append, List.length_take]; omega
  have e1 : (pl L o vs).take (o + vs.length) = L.take o ++ vs := by
    unfold pl
    exact List.take_left' h1
  have e2 : (pl L o vs).drop (o + vs.length + ys.length) = L.drop (o + vs.length + ys.length) := by
    unfold pl
    rw [List.drop_append, h1, List.drop_eq_nil_of_le (by omega), List.nil_append, List.drop_drop]
    congr 1; omega
  rw [pl, e1, e2, List.append_assoc, List.append_assoc]

theorem run_copy_k {P : Program} (w : World) (dT sT ty elem : TypeId) (size g o dLen dCap : Nat) (A : Addr) (sLen sCap : Nat) (cur : Array Value) (t : TypeId) (cs : List Value)
    (hu : P.underlying dT = some (.slice elem)) (hs : (P.info? elem).map (·.size) = some size)
    (hg : Blk w g t cur) (hn : cs.length = Nat.min sLen dLen * size)
    (hsrc : ∀ j v, cs[j]? = some v → w.cell? (A.add j) = some v) (hfit : o + cs.length ≤ cur.size) (h1 : ∀ v ∈ cs, v.oneCell' = true) :
    (Builtin.copy_ #[dT, sT] ty #[.slice (some ⟨g, o, none⟩) dLen dCap, .slice (some A) sLen sCap]).run P w =
      .ok (goInt (Nat.min sLen dLen)) (w.setRow g (pl cur.toList o cs).toArray) := by
  have hl := run_loadCells_list (P := P) w A cs hsrc
  have hst := run_storeCells_at P g o t cs 0 cur w hg (by simpa using hfit) h1
  cases hq : P.info? elem with
  | none => simp [hq] at hs
  | some i =>
    have hi : i.size = size := by simpa [hq] using hs
    rw [hn] at hl
    simp [Builtin.copy_, run_underlying hu, Builtin.lenOf, Builtin.firstCells, sizeOf, typeInfo, hq, hi, hl, hst, pl]
theorem grownBy_setCell (w : World) (g i : Nat) (u : Value) : w.grownBy (w.setCell ⟨g, i, none⟩ u) (some g) :=
  ⟨rfl, rfl, rfl, by simp, fun k _ hk => Below.heap_setCell w _ u k (fun e => hk (by rw [e]))⟩
theorem grownBy_trans {a b c : World} {r : Option Nat} (h : a.grownBy b r) (h' : b.grownBy c r) : a.grownBy c r :=
  ⟨h'.os.trans h.os, h'.tape.trans h.tape, h'.output.trans h.output, Nat.le_trans h.size h'.size, fun k hk hr => (h'.block k (Nat.lt_of_lt_of_le hk h.size) hr).trans (h.block k hk hr)⟩
theorem grownBy_of_below {a b : World} (h : Below a.heap.size a b) (r : Option Nat) : a.grownBy b r := ⟨h.os, h.tape, h.output, h.size, fun k hk _ => h.block k hk⟩
theorem grownBy_drewN (w : World) (n : Nat) (r : Option Nat) : w.grownBy (w.drewN n) r := ⟨rfl, rfl, rfl, Nat.le_refl _, fun _ _ _ => rfl⟩
theorem grownBy_refl (w : World) (r : Option Nat) : w.grownBy w r := ⟨rfl, rfl, rfl, Nat.le_refl _, fun _ _ _ => rfl⟩
theorem mixedOk : Tryd.prog.follows Departure.mixedOrders = true := by kernel_rfl
theorem Blk.row {w : World} {g : Nat} {t : TypeId} {cs : Array Value} (h : Blk w g t cs) (ds : Array Value) : Blk (w.setRow g ds) g t ds := setRow_heap w g cs ds t (0, 0) h
theorem Blk.row_far {w : World} {g k : Nat} {t : TypeId} {cs : Array Value} (h : Blk w k t cs) (ds : Array Value) (hne : k ≠ g) : Blk (w.setRow g ds) k t cs := (setRow_other w g k ds hne).trans h
theorem grownBy_setRow (w : World) (g : Nat) (cs : Array Value) : w.grownBy (w.setRow g cs) (some g) :=
  ⟨rfl, rfl, rfl, by simp, fun k _ hne => setRow_other w g k cs fun e => hne (by rw [e])⟩
theorem own_blk2 {w : World} {B : Nat} {e : TypeId} {r n c : Nat} {xs : List Value} (h : w.ownsRow B e 2 (.slice (some ⟨r, 0, none⟩) n c) n xs) : ∃ cur, Blk w r e cur ∧ cur.size = c * 2 ∧ cur.toList.take (n * 2) = xs ∧ n ≤ c ∧ c ≤ maxLen ∧ xs.length = n * 2 ∧ B ≤ r := by
  obtain ⟨h1, h2⟩ := h
  rcases h2 with ⟨h, _⟩ | ⟨g, cap, cur, hv, hB, hg, hn, hm, hs, ht⟩
  · cases h
  · simp only [Value.slice.injEq, Option.some.injEq, Addr.mk.injEq, and_true, true_and] at hv
    obtain ⟨rfl, rfl⟩ := hv
    exact ⟨cur, hg, hs, ht, hn, hm, h1, hB⟩
theorem child_info : (Tryd.prog.info? 72).map (fun i => (i.zero, i.size, i.bytes)) = some (some (.agg #[.string ⟨#[]⟩, .pointer none]), 2, 24) := by kernel_rfl
end Go.Proofs.YtglglbbjacgbdaaDoor
