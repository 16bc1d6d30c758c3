import Derived.Test.YtglglbbjacgbdaaDoorTrR
import Derived.Test.YtglglbbjacgbdaaDoorTsC
import Derived.Lib.SliceRun
import Derived.Deep.RegionLaw
namespace Go.Proofs.YtglglbbjacgbdaaDoor
open Go.RowKit
set_option linter.unusedVariables false
set_option linter.unusedSimpArgs false
attribute [local go_sem] b_max2 b_min2 b_max b_min

/-! ### slices.Delete of one child -/
def setMany (cs : Array Value) : Nat → List Value → Array Value
  | _, [] => cs
  | o, v :: r => setMany (cs.setIfInBounds o v) (o + 1) r
theorem setMany_size : ∀ (vs : List Value) (cs : Array Value) (o : Nat), (setMany cs o vs).size = cs.size
  | [], _, _ => rfl
  | v :: r, cs, o => by rw [setMany, setMany_size r]; simp
theorem setMany_get : ∀ (vs : List Value) (cs : Array Value) (o j : Nat), o + vs.length ≤ cs.size → (setMany cs o vs)[j]? = if o ≤ j ∧ j < o + vs.length then vs[j - o]? else cs[j]?
  | [], cs, o, j, _ => by rw [setMany, if_neg (by simp only [List.length_nil]; omega)]
  | v :: r, cs, o, j, h => by
    rw [setMany, setMany_get r _ _ _ (by simp at *; omega)]
    simp only [List.length_cons] at *
    by_cases h1 : o + 1 ≤ j ∧ j < o + 1 + r.length
    · rw [if_pos h1, if_pos (by omega), show j - o = (j - (o + 1)) + 1 by omega, List.getElem?_cons_succ]
    · rw [if_neg h1, Array.getElem?_setIfInBounds]
      by_cases h2 : o = j
      · subst h2; rw [if_pos rfl, if_pos (by omega), if_pos (by omega)]; simp
      · rw [if_neg h2, if_neg (by omega)]
theorem Blk.setCells {g : Nat} {t : TypeId} : ∀ (vs : List Value) (o : Nat) (w : World) (cs : Array Value), Blk w g t cs → Blk (w.setCells g o vs) g t (setMany cs o vs)
  | [], _, _, _, h => h
  | v :: r, o, w, cs, h => Blk.setCells r (o + 1) _ _ (h.set_ o v)
theorem grownBy_setCells (g : Nat) : ∀ (vs : List Value) (o : Nat) (w : World), w.grownBy (w.setCells g o vs) (some g)
  | [], _, w => grownBy_refl w _
  | v :: r, o, w => grownBy_trans (grownBy_setCell w g o v) (grownBy_setCells g r (o + 1) _)
theorem run_clear_child (w : World) (ty : TypeId) (b o c : Nat) (cur : Array Value) (hb : Blk w b 72 cur) (ho : o + 2 ≤ cur.size) :
    (Builtin.clear_ #[40] ty #[.slice (some ⟨b, o, none⟩) 1 c]).run Tryd.prog w = .ok (.tuple #[]) (w.setRow b (pl cur.toList o [.string ⟨#[]⟩, .pointer none]).toArray) := by
  have hzv : ∀ w, (zeroValue 72).run Tryd.prog w = .ok (.agg #[.string ⟨#[]⟩, .pointer none]) w := fun _ => by kernel_rfl
  have hst := run_storeCells_at Tryd.prog b o 72 [.string ⟨#[]⟩, .pointer none] 0 cur w hb (by simpa using ho) (by simp [Value.oneCell'])
  have hzc : (Builtin.zeroCells (Value.cells (.agg #[.string ⟨#[]⟩, .pointer none])) 1).toList = [.string ⟨#[]⟩, .pointer none] := by kernel_rfl
  simp [Builtin.clear_, run_underlying Tryd.underlying40, hzv, hzc, hst, pl]
theorem wpList_clear_child {w : World} {ops : Array Oper} {rest : List Oper} {o : Oper} {a : Act} {Q : Exit → Act → World → Prop} (hgd : o.guard = none) (s : Operand)
    (ho : o.op = .call { callee := .builtin .clear, args := #[s], argTypes := #[40] })
    (b q c : Nat) (hs : a.eval s = .slice (some ⟨b, q, none⟩) 1 c) (cur : Array Value) (hb : Blk w b 72 cur) (hq : q + 2 ≤ cur.size)
    (h : wpList Tryd.prog ops Q rest (a.put o.dst (.tuple #[])) (w.setRow b (pl cur.toList q [.string ⟨#[]⟩, .pointer none]).toArray)) : wpList Tryd.prog ops Q (o :: rest) a w :=
  wpList_plain hgd fun _ hK => by
    have hrun := run_clear_child w o.type b q c cur hb hq
    unfold Oper.wp execOp
    simp only [ho, resolve, invoke, builtin, Sem.run_bind, Sem.run_pure, Result.andThen_ok, List.map_toArray, List.map_cons, List.map_nil, hs, hrun]
    exact hK _ _ h
section
variable {w : World}
set_option maxRecDepth 100000 in
set_option maxHeartbeats 1000000 in
theorem del_any {r n c i : Nat} {xs : List Value} (ho : w.ownsRow 0 72 2 (.slice (some ⟨r, 0, none⟩) n c) n xs) (hi : i < n) (h1 : ∀ u ∈ xs, u.oneCell' = true) :
    Calls Tryd.prog 43 #[.slice (some ⟨r, 0, none⟩) n c, .int .i64 i, .int .i64 (i + 1)] w fun e w' =>
      e = .returned (.slice (some ⟨r, 0, none⟩) (n - 1) c) ∧ w'.ownsRow 0 72 2 (.slice (some ⟨r, 0, none⟩) (n - 1) c) (n - 1) (xs.take (i * 2) ++ xs.drop ((i + 1) * 2)) ∧ w.grownBy w' (some r) := by
  obtain ⟨i0, hi0, hz0, hz1, hz2⟩ := info_parts child_info
  obtain ⟨cur, hb, hcs, htk, hnc, hcm, hll, _⟩ := own_blk2 ho
  have hcm' : c ≤ 9223372036854775807 := by unfold maxLen at hcm; omega
  have HCM := Lib.hid hcm; clear hcm
  have hcell : ∀ j, w.cell? ⟨r, j, none⟩ = cur[j]? := hb.cell
  have hfz : ∀ j, w.frozen? ⟨r, j, none⟩ = false := hb.frozen
  have hcur : ∀ j, j < n * 2 → cur[j]? = xs[j]? := by
    intro j hj
    have : (cur.toList.take (n * 2))[j]? = cur[j]? := by rw [List.getElem?_take, if_pos hj]; simp
    rw [← this, htk]
  have hdl : (xs.drop ((i + 1) * 2)).length = (n - (i + 1)) * 2 := by rw [List.length_drop, hll]; omega
  have HA : ∃ A : Addr, (if c = i + 1 then some (⟨r, 0, none⟩ : Addr) else some ⟨r, (i + 1) * 2, none⟩) = some A ∧ Hid (∀ j u, (xs.drop ((i + 1) * 2))[j]? = some u → w.drew.cell? (A.add j) = some u) := by
    by_cases h : c = i + 1
    · refine ⟨⟨r, 0, none⟩, by simp [h], fun j u hu => ?_⟩
      rw [List.getElem?_eq_none (by omega)] at hu
      cases hu
    · refine ⟨⟨r, (i + 1) * 2, none⟩, by simp [h], fun j u hu => ?_⟩
      have hj := (List.getElem?_eq_some_iff.1 hu).1
      rw [hdl] at hj
      rw [List.getElem?_drop] at hu
      rw [Addr.add_lit]
      exact ((hcell _).trans (hcur _ (by omega))).trans hu
  obtain ⟨A, hA, hnews⟩ := HA
  have s1 : Hid ((xs.drop ((i + 1) * 2)).length = (n - (i + 1)) * 2) := hdl
  have s2 : Hid (∀ u ∈ xs.drop ((i + 1) * 2), u.oneCell' = true) := fun u hu => h1 u (List.mem_of_mem_drop hu)
  have s3 : Hid (∀ j, j < (xs.drop ((i + 1) * 2)).length → (w.drew.cell? ⟨r, 0 + i * 2 + j, none⟩).isSome = true ∧ w.drew.frozen? ⟨r, 0 + i * 2 + j, none⟩ = false) := by
    intro j hj
    rw [hdl] at hj
    refine ⟨?_, hfz _⟩
    show (w.cell? _).isSome = true
    rw [hcell]
    have : 0 + i * 2 + j < cur.size := by omega
    rw [Array.getElem?_eq_getElem this]; rfl
  have HC := Lib.hid hcell; have HF := Lib.hid hfz; have HU := Lib.hid hcur
  have hic : i ≤ c := by omega
  have hwr : IntKind.i64.wrap ((i : Int) + 1) = (i : Int) + 1 := by rw [IntKind.wrap_i64]; omega
  have hp0 : (0 : Int) ≤ (i : Int) + 1 := by omega
  have hp1 : (i : Int) + 1 ≤ (n : Int) := by omega
  have hp2 : ((i : Int) + 1).toNat = i + 1 := by omega
  have hne : ((i : Int) == (i : Int) + 1) = false := by simp; omega
  have HLL := Lib.hid hll; have HTK := Lib.hid htk; have HCS := Lib.hid hcs; have HDL := Lib.hid hdl
  clear hcell hfz hcur hll htk hcs hdl
  go_enter Tryd.func43, Tryd.ntmps43
  go_upto_region 5 with (fail)
  go_cut [0] (fun s w' => s = .slice (some ⟨r, 0, none⟩) (n - 1) c ∧ w' = w.drew.setCells r (i * 2) (xs.drop ((i + 1) * 2)))
  case first =>
    go_region_law (refine step_append_room rfl (.tmp 22) (.tmp 25) 40 rfl 72 i0 2 Tryd.underlying40 hi0 hz1 r 0 i c (by simp [Act.eval, Act.put]) A (n - (i + 1)) (c - (i + 1)) (xs.drop ((i + 1) * 2)) (by simp [Act.eval, Act.put]) s1.out hnews.out s2.out (by omega) s3.out ?_)
    go_wp2_with fail
    all_goals go_meet
    exact ⟨by congr 1; omega, rfl⟩
  case rest =>
  obtain ⟨rfl, hwc⟩ := hcut
  have hb1 : Blk wc r 72 (setMany cur (i * 2) (xs.drop ((i + 1) * 2))) := by rw [hwc]; exact Blk.setCells _ _ _ _ hb
  have hg1 : w.grownBy wc (some r) := by rw [hwc]; exact grownBy_trans (grownBy_drewN w 1 _) (grownBy_setCells _ _ _ _)
  clear hwc hnews s1 s2 s3 hA HC HF hwr hp0 hp1 hp2 hne
  obtain ⟨N, rfl⟩ : ∃ N, n = N + 1 := ⟨n - 1, by omega⟩
  rw [Nat.add_sub_cancel]
  have hsz1 : (setMany cur (i * 2) (xs.drop ((i + 1) * 2))).size = c * 2 := by rw [setMany_size, HCS.out]
  have hg2 : w.grownBy (wc.setRow r (pl (setMany cur (i * 2) (xs.drop ((i + 1) * 2))).toList (N * 2) [.string ⟨#[]⟩, .pointer none]).toArray) (some r) := grownBy_trans hg1 (grownBy_setRow _ _ _)
  have hb2 := Blk.row hb1 (pl (setMany cur (i * 2) (xs.drop ((i + 1) * 2))).toList (N * 2) [.string ⟨#[]⟩, .pointer none]).toArray
  have HG2 := Lib.hid hg2; have HB2 := Lib.hid hb2; have HS1 := Lib.hid hsz1; have HB1 := Lib.hid hb1
  have hq2 : N * 2 + 2 ≤ (setMany cur (i * 2) (xs.drop ((i + 1) * 2))).size := by rw [hsz1]; omega
  have HQ2 := Lib.hid hq2
  clear hg2 hb2 hsz1 hq2 hg1 hb1
  go_wp2_with (with_reducible refine wpList_clear_child rfl (.tmp 31) rfl r (N * 2) (c - N) ?e1 _ HB1.out HQ2.out ?_)
  case e1 => rfl
  go_ret
  have hll := HLL.out
  have hcs := HCS.out
  have hdl := HDL.out
  have hs1 := HS1.out
  have hpl : (pl (setMany cur (i * 2) (xs.drop ((i + 1) * 2))).toList (N * 2) [.string ⟨#[]⟩, .pointer none]).length = c * 2 := by rw [pl_length _ _ _ (by simp [hs1]; omega)]; simp [hs1]
  refine ⟨rfl, ⟨?_, .inr ⟨r, c, _, rfl, Nat.zero_le _, HB2.out, by omega, HCM.out, by rw [List.size_toArray, hpl], ?_⟩⟩, HG2.out⟩
  · simp only [List.length_append, List.length_take, hdl, hll]; omega
  · rw [List.toList_toArray]
    apply List.ext_getElem?
    intro j
    rw [List.getElem?_take, Nat.add_sub_cancel]
    by_cases hj : j < N * 2
    · rw [if_pos hj]
      have e1 : (pl (setMany cur (i * 2) (xs.drop ((i + 1) * 2))).toList (N * 2) [.string ⟨#[]⟩, .pointer none])[j]? = (setMany cur (i * 2) (xs.drop ((i + 1) * 2)))[j]? := by
        unfold pl
        rw [List.append_assoc, List.getElem?_append_left (by rw [List.length_take]; simp [hs1]; omega), List.getElem?_take, if_pos hj]
        simp
      rw [e1, setMany_get _ _ _ _ (by rw [hdl]; omega)]
      by_cases hij : i * 2 ≤ j
      · rw [if_pos (by rw [hdl]; omega), List.getElem?_append_right (by rw [List.length_take]; omega), List.getElem?_drop, List.getElem?_drop, List.length_take]
        congr 1; omega
      · rw [if_neg (by omega), HU.out j (by omega), List.getElem?_append_left (by rw [List.length_take]; omega), List.getElem?_take, if_pos (by omega)]
    · rw [if_neg hj, List.getElem?_eq_none (by simp only [List.length_append, List.length_take, hdl, hll]; omega)]
end
end Go.Proofs.YtglglbbjacgbdaaDoor
