import Derived.Test.YtglglbbjacgbdaaDoorTrB
namespace Go.Proofs.YtglglbbjacgbdaaDoor
open Go.RowKit
set_option linter.unusedVariables false
attribute [local go_sem] b_max2 b_min2 b_max b_min

/-- where a node lies: its block, its place in it -/
abbrev Id := Nat × Nat
/-- a node in memory; v: its list -/
structure IsN (w : World) (id : Id) (r : NR) (v : Value) : Prop where
  c0 : w.cell? ⟨id.1, id.2, none⟩ = some (.int .i64 r.kind)
  c1 : w.cell? ⟨id.1, id.2 + 1, none⟩ = some (.int .i64 r.links)
  c2 : w.cell? ⟨id.1, id.2 + 2, none⟩ = some (.string r.data)
  c3 : w.cell? ⟨id.1, id.2 + 3, none⟩ = some v
  row : w.ownsRow 0 72 2 v r.list.length (cellsC r.list)
  bl : ∃ cs t, w.heap[id.1]? = some (.cells cs t (0, 0))
/-- what holds of every node: its list is sorted, not too long, with short names -/
structure OkN (r : NR) : Prop where
  so : SortedC r.list
  len : r.list.length ≤ 2000
  nm : ∀ c ∈ r.list, c.1.size ≤ 100
  dat : r.data.size ≤ 10000
def sumN (l : List Ch) : Nat := (l.map fun c => c.1.size + 6).sum
def sizeN (r : NR) : Int := if r.kind = 1 then (r.data.size : Int) else (sumN r.list : Int)
theorem sumN_snoc (l : List Ch) (c : Ch) : sumN (l ++ [c]) = sumN l + (c.1.size + 6) := by simp [sumN]
theorem sumN_take (l : List Ch) (i : Nat) (h : i < l.length) : sumN (l.take (i + 1)) = sumN (l.take i) + ((nmAt l i).size + 6) := by
  rw [List.take_succ_eq_append_getElem h, sumN_snoc, nmAt, getD_get _ _ _ h]
theorem sumN_le (l : List Ch) (h : ∀ c ∈ l, c.1.size ≤ 100) : sumN l ≤ l.length * 106 := by
  induction l with
  | nil => simp [sumN]
  | cons a l ih =>
    have h1 := ih (fun c hc => h c (by simp [hc]))
    have h2 := h a (by simp)
    simp only [sumN, List.map_cons, List.sum_cons, List.length_cons] at *
    omega
section
variable {w w' : World} {id : Id} {r : NR} {v : Value}
theorem IsN.lt (h : IsN w id r v) : id.1 < w.heap.size := World.block_lt_of_cell? _ _ h.c0
theorem IsN.low (h : IsN w id r v) (hb : Below w.heap.size w w') : IsN w' id r v := by
  have hl := h.lt
  exact ⟨(hb.cell (p := ⟨id.1, id.2, none⟩) hl).trans h.c0, (hb.cell (p := ⟨id.1, id.2 + 1, none⟩) hl).trans h.c1, (hb.cell (p := ⟨id.1, id.2 + 2, none⟩) hl).trans h.c2, (hb.cell (p := ⟨id.1, id.2 + 3, none⟩) hl).trans h.c3, Fr.own_low hb h.row, by obtain ⟨cs, t, e⟩ := h.bl; exact ⟨cs, t, (hb.block _ hl).trans e⟩⟩
set_option maxRecDepth 100000 in
set_option maxHeartbeats 1000000 in
theorem place_any (h : IsN w id r v) (ho : OkN r) (s : ByteArray) :
    Calls Tryd.prog 24 #[.pointer (some ⟨id.1, id.2, none⟩), .string s] w fun e w' => e = .returned (.tuple #[.int .i64 (plc r.list s), .bool (hasN r.list s)]) ∧ Below w.heap.size w w' := by
  obtain ⟨A, c, rfl, hc, hr⟩ := Reads.of_own h.row
  have hb := bsearch_any A r.list.length c r.list s w rfl (by have := ho.len; omega) hr ho.so
  have c3 := h.c3
  generalize plc r.list s = p at *
  generalize hasN r.list s = q at *
  clear h ho hr
  go_enter Tryd.func24, Tryd.ntmps24
  go_wp2_with fail
  refine hb.mono ?_
  rintro e w1 ⟨rfl, b1⟩
  go_wp2_with fail
  go_ret2
  exact ⟨rfl, b1⟩
set_option maxRecDepth 100000 in
set_option maxHeartbeats 1000000 in
theorem size_any (h : IsN w id r v) (ho : OkN r) :
    Calls Tryd.prog 18 #[.pointer (some ⟨id.1, id.2, none⟩)] w fun e w' => e = .returned (.int .i64 (sizeN r)) ∧ Below w.heap.size w w' := by
  obtain ⟨A, c, rfl, hc, hr⟩ := Reads.of_own h.row
  have c0 := h.c0
  have c2 := h.c2
  have c3 := h.c3
  by_cases hk : r.kind = 1
  · have hs : sizeN r = (r.data.size : Int) := if_pos hk
    rw [hs]
    rw [hk] at c0
    clear h ho hr hs hc
    go_enter Tryd.func18, Tryd.ntmps18
    go_wp2_with fail
    go_ret
    exact ⟨rfl, Below.refl _ _⟩
  · have hs : sizeN r = (sumN r.list : Int) := if_neg hk
    rw [hs]
    have hk1 : (r.kind == 1) = false := by simpa using hk
    have hsl := sumN_le r.list ho.nm
    have hln := ho.len
    have hst := fun i h => sumN_take r.list i h
    have hnm : ∀ i, i < r.list.length → (nmAt r.list i).size ≤ 100 := fun i hi => ho.nm _ (by rw [getD_get _ _ _ hi]; exact List.getElem_mem hi)
    have hle : ∀ i, sumN (r.list.take i) ≤ 212000 := fun i => by
      have := sumN_le (r.list.take i) (fun c hc => ho.nm c (List.mem_of_mem_take hc))
      rw [List.length_take] at this
      omega
    have hfull : sumN (r.list.take r.list.length) = sumN r.list := by rw [List.take_length]
    generalize hn : r.list.length = n at *
    have HS := Lib.hid hst; have HNM := Lib.hid hnm; have HLE := Lib.hid hle; have HFU := Lib.hid hfull
    clear h ho hs hk hst hnm hle hfull
    generalize r.list = l at *
    generalize r.kind = kd at *
    go_enter Tryd.func18, Tryd.ntmps18
    go_wp2_with fail
    go_loopw [3, 5, 21] (fun sm _ p wr => ∃ i : Nat, p = .int .i64 i ∧ i ≤ n ∧ sm = .int .i64 (sumN (l.take i)) ∧ Below w.heap.size w wr) (fun _ _ p _ => n - (intOf p).toNat)
    case atStart => exact ⟨0, rfl, by omega, rfl, Below.refl _ _⟩
    case round =>
      obtain ⟨i, rfl, hi, rfl, hb⟩ := hrel
      by_cases hlt : i < n
      · obtain ⟨ad, rfl, _, q1, q2⟩ := kids_at (hr.below hb) hn hlt
        have hnx := HS.out i hlt
        have hl1 := HLE.out i
        have hl2 := HNM.out i hlt
        change sumN (l.take (i + 1)) = sumN (l.take i) + ((l.getD i (⟨#[]⟩, 0)).1.size + 6) at hnx
        change (l.getD i (⟨#[]⟩, 0)).1.size ≤ 100 at hl2
        generalize l.getD i (⟨#[]⟩, 0) = x at *
        obtain ⟨xn, xb⟩ := x
        dsimp only at *
        have HX := Lib.hid hnx; clear hnx
        generalize sumN (l.take i) = sm at *
        have b2 := hb.alloc hb.size (.cells #[.string xn, .pointer (some ⟨xb, 0, none⟩)] 72)
        go_wp2_with fail
        go_roundw
        case rel => exact ⟨i + 1, vint (by omega), by omega, by rw [HX.out]; exact vint (by omega), b2⟩
        case measure => simp [intOf]; omega
      · obtain rfl : i = n := by omega
        rw [HFU.out]
        go_wp2_with fail
        go_ret
        exact ⟨rfl, hb⟩
end
def need (n : Int) : Int := if n < 1 then 0 else min ((n - 1) / 512 + 1) 1125899906842624
set_option maxRecDepth 100000 in
set_option maxHeartbeats 400000 in
theorem need_any (n : Int) (w : World) (h0 : -9223372036854775808 ≤ n) (h1 : n ≤ 9223372036854775807) :
    Calls Tryd.prog 17 #[.int .i64 n] w fun e w' => e = .returned (.int .i64 (need n)) ∧ w = w' := by
  unfold need
  by_cases hn : n < 1
  · rw [if_pos hn]
    go_enter Tryd.func17, Tryd.ntmps17
    go_wp2
    go_ret
    exact ⟨rfl, rfl⟩
  · rw [if_neg hn]
    go_enter Tryd.func17, Tryd.ntmps17
    go_wp2
    go_ret
    exact ⟨rfl, rfl⟩
end Go.Proofs.YtglglbbjacgbdaaDoor
