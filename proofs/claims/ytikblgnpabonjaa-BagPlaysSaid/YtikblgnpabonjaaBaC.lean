import Derived.Test.YtikblgnpabonjaaBaB
import Derived.Lib.SliceRun
import Derived.Deep.RegionLaw
namespace Go.Proofs.Ytikblgnpabonjaa
open Go.RowKit
set_option linter.unusedVariables false
attribute [local go_sem] b_max2 b_min2 b_max b_min

/-! ### slices.Delete of one element -/
def setMany (cs : Array Value) : Nat → List Value → Array Value
  | _, [] => cs
  | o, v :: r => setMany (cs.setIfInBounds o v) (o + 1) r
theorem setMany_size : ∀ (vs : List Value) (cs : Array Value) (o : Nat), (setMany cs o vs).size = cs.size
  | [], _, _ => rfl
  | v :: r, cs, o => by rw [setMany, setMany_size r]; simp
theorem setMany_get : ∀ (vs : List Value) (cs : Array Value) (o j : Nat), o + vs.length ≤ cs.size → (setMany cs o vs)[j]? = if o ≤ j ∧ j < o + vs.length then vs[j - o]? else cs[j]?
  | [], cs, o, j, _ => by rw [setMany, if_neg (by simp only [List.length_nil]; omega)]
  | v :: r, cs, o, j, h => by
    rw [setMany, setMany_get r _ _ _ (by simp at *; omega)]
    simp only [List.length_cons] at *
    by_cases h1 : o + 1 ≤ j ∧ j < o + 1 + r.length
    · rw [if_pos h1, if_pos (by omega), show j - o = (j - (o + 1)) + 1 by omega, List.getElem?_cons_succ]
    · rw [if_neg h1, Array.getElem?_setIfInBounds]
      by_cases h2 : o = j
      · subst h2; rw [if_pos rfl, if_pos (by omega), if_pos (by omega)]; simp
      · rw [if_neg h2, if_neg (by omega)]
theorem Blk.setCells {g : Nat} {t : TypeId} : ∀ (vs : List Value) (o : Nat) (w : World) (cs : Array Value), Blk w g t cs → Blk (w.setCells g o vs) g t (setMany cs o vs)
  | [], _, _, _, h => h
  | v :: r, o, w, cs, h => Blk.setCells r (o + 1) _ _ (h.set_ o v)
theorem grownBy_setCells (g : Nat) : ∀ (vs : List Value) (o : Nat) (w : World), w.grownBy (w.setCells g o vs) (some g)
  | [], _, w => grownBy_refl w _
  | v :: r, o, w => grownBy_trans (grownBy_setCell w g o v) (grownBy_setCells g r (o + 1) _)

theorem own_blk {w : World} {e : TypeId} {r n c : Nat} {xs : List Value} (h : w.ownsRow 0 e 1 (.slice (some ⟨r, 0, none⟩) n c) n xs) : ∃ cur, Blk w r e cur ∧ cur.size = c ∧ cur.toList.take n = xs ∧ n ≤ c ∧ c ≤ maxLen ∧ xs.length = n := by
  obtain ⟨h1, h2⟩ := h
  rcases h2 with ⟨h, _⟩ | ⟨g, cap, cur, hv, _, hg, hn, hm, hs, ht⟩
  · cases h
  · simp only [Value.slice.injEq, Option.some.injEq, Addr.mk.injEq, and_true, true_and] at hv
    obtain ⟨rfl, rfl⟩ := hv
    exact ⟨cur, hg, by simpa using hs, by simpa using ht, hn, hm, by simpa using h1⟩
theorem own_of_blk {w : World} {e : TypeId} {r n c : Nat} {xs : List Value} {cur : Array Value} (h : Blk w r e cur) (hs : cur.size = c) (ht : cur.toList.take n = xs) (hn : n ≤ c) (hm : c ≤ maxLen) : w.ownsRow 0 e 1 (.slice (some ⟨r, 0, none⟩) n c) n xs := by
  refine ⟨?_, .inr ⟨r, c, cur, rfl, Nat.zero_le _, h, hn, hm, by simpa using hs, by simpa using ht⟩⟩
  rw [← ht]; simp; omega

theorem wpList_clear {P : Program} {w : World} {ops : Array Oper} {rest : List Oper} {o : Oper} {a : Act} {Q : Exit → Act → World → Prop} (hgd : o.guard = none) (s : Operand) (t e : TypeId)
    (ho : o.op = .call { callee := .builtin .clear, args := #[s], argTypes := #[t] }) (z : Value) (ht : P.underlying t = some (.slice e)) (hv : ∀ w, (zeroValue e).run P w = .ok z w) (hz : z.cells = #[z]) (h1 : z.oneCell' = true)
    (b q n c : Nat) (hn : 0 < n) (hs : a.eval s = .slice (some ⟨b, q, none⟩) n c)
    (hc : ∀ j, j < n → (w.cell? ⟨b, q + j, none⟩).isSome = true) (hf : ∀ j, j < n → w.frozen? ⟨b, q + j, none⟩ = false)
    (h : wpList P ops Q rest (a.put o.dst (.tuple #[])) (w.setCells b q (List.replicate n z))) : wpList P ops Q (o :: rest) a w :=
  wpList_plain hgd fun _ hK => by
    have hrun := Lib.run_clear_slice (P := P) w t e o.type z ht hv hz h1 b q n c hn hc hf
    unfold Oper.wp execOp
    simp only [ho, resolve, invoke, builtin, Sem.run_bind, Sem.run_pure, Result.andThen_ok, List.map_toArray, List.map_cons, List.map_nil, hs, hrun]
    exact hK _ _ h

set_option maxRecDepth 100000 in
set_option maxHeartbeats 1000000 in
theorem del_any {w : World} {r n c i : Nat} {l : List ByteArray} (ho : w.ownsRow 0 9 1 (.slice (some ⟨r, 0, none⟩) n c) n (l.map Value.string)) (hi : i < n) :
    Calls Try.prog 31 #[.slice (some ⟨r, 0, none⟩) n c, .int .i64 i, .int .i64 (i + 1)] w fun e w' =>
      e = .returned (.slice (some ⟨r, 0, none⟩) (n - 1) c) ∧ w'.ownsRow 0 9 1 (.slice (some ⟨r, 0, none⟩) (n - 1) c) (n - 1) ((l.eraseIdx i).map Value.string) ∧ w.grownBy w' (some r) := by
  obtain ⟨i0, hi0, hz0, hz1, hz2⟩ := info_parts str_info
  obtain ⟨cur, hb, hcs, htk, hnc, hcm, hll⟩ := own_blk ho
  have hll' : l.length = n := by simpa using hll
  have hcm' : c ≤ 9223372036854775807 := by unfold maxLen at hcm; omega
  have HCM := Lib.hid hcm; clear hcm
  have hcell : ∀ j, w.cell? ⟨r, j, none⟩ = cur[j]? := hb.cell
  have hfz : ∀ j, w.frozen? ⟨r, j, none⟩ = false := hb.frozen
  have hcur : ∀ j, j < n → cur[j]? = (l.map Value.string)[j]? := by
    intro j hj
    have : (cur.toList.take n)[j]? = cur[j]? := by rw [List.getElem?_take, if_pos hj]; simp
    rw [← this, htk]
  have HA : ∃ A : Addr, (if c = i + 1 then some (⟨r, 0, none⟩ : Addr) else some ⟨r, i + 1, none⟩) = some A ∧ Hid (∀ j u, ((l.map Value.string).drop (i + 1))[j]? = some u → w.drew.cell? (A.add j) = some u) := by
    by_cases h : c = i + 1
    · refine ⟨⟨r, 0, none⟩, by simp [h], fun j u hu => ?_⟩
      rw [List.getElem?_drop, List.getElem?_eq_none (by simp; omega)] at hu
      cases hu
    · refine ⟨⟨r, i + 1, none⟩, by simp [h], fun j u hu => ?_⟩
      rw [List.getElem?_drop] at hu
      have hj : i + 1 + j < n := by
        have := (List.getElem?_eq_some_iff.1 hu).1
        simpa [hll'] using this
      rw [Addr.add_lit]
      exact ((hcell _).trans (hcur _ hj)).trans hu
  obtain ⟨A, hA, hnews⟩ := HA
  have s1 : Hid (((l.map Value.string).drop (i + 1)).length = (n - (i + 1)) * 1) := by show _ = _; simp [hll']
  have s2 : Hid (∀ u ∈ (l.map Value.string).drop (i + 1), u.oneCell' = true) := by
    intro u hu
    obtain ⟨x, _, rfl⟩ := List.mem_map.1 (List.mem_of_mem_drop hu)
    rfl
  have s3 : Hid (∀ j, j < ((l.map Value.string).drop (i + 1)).length → (w.drew.cell? ⟨r, 0 + i * 1 + j, none⟩).isSome = true ∧ w.drew.frozen? ⟨r, 0 + i * 1 + j, none⟩ = false) := by
    intro j hj
    rw [List.length_drop, List.length_map, hll'] at hj
    refine ⟨?_, hfz _⟩
    show (w.cell? _).isSome = true
    rw [hcell]
    have : i + j < cur.size := by omega
    simp [this]
  have HC := Lib.hid hcell; have HF := Lib.hid hfz; have HU := Lib.hid hcur
  have hic : i ≤ c := by omega
  have hwr : IntKind.i64.wrap ((i : Int) + 1) = (i : Int) + 1 := by rw [IntKind.wrap_i64]; omega
  have hp0 : (0 : Int) ≤ (i : Int) + 1 := by omega
  have hp1 : (i : Int) + 1 ≤ (n : Int) := by omega
  have hp2 : ((i : Int) + 1).toNat = i + 1 := by omega
  have hne : ((i : Int) == (i : Int) + 1) = false := by simp; omega
  have HLL := Lib.hid hll; have HLL' := Lib.hid hll'; have HTK := Lib.hid htk; have HCS := Lib.hid hcs
  clear hcell hfz hcur hll hll' htk hcs
  go_enter Try.func31, Try.ntmps31
  go_upto_region 5 with (fail)
  go_cut [0] (fun s w' => s = .slice (some ⟨r, 0, none⟩) (n - 1) c ∧ w' = w.drew.setCells r i ((l.map Value.string).drop (i + 1)))
  case first =>
    go_region_law (refine step_append_room rfl (.tmp 22) (.tmp 25) 53 rfl 9 i0 1 Try.underlying53 hi0 hz1 r 0 i c (by simp [Act.eval, Act.put]) A (n - (i + 1)) (c - (i + 1)) ((l.map Value.string).drop (i + 1)) (by simp [Act.eval, Act.put]) s1.out hnews.out s2.out (by omega) s3.out ?_)
    go_wp2_with fail
    all_goals go_meet
    exact ⟨by congr 1; omega, rfl⟩
  case rest =>
  obtain ⟨rfl, hwc⟩ := hcut
  have hb1 : Blk wc r 9 (setMany cur i ((l.map Value.string).drop (i + 1))) := by rw [hwc]; exact Blk.setCells _ _ _ _ hb
  have hg1 : w.grownBy wc (some r) := by rw [hwc]; exact grownBy_trans (grownBy_drewN w 1 _) (grownBy_setCells _ _ _ _)
  clear hwc hnews s1 s2 s3 hA HC HF hwr hp0 hp1 hp2 hne
  obtain ⟨N, rfl⟩ : ∃ N, n = N + 1 := ⟨n - 1, by omega⟩
  rw [Nat.add_sub_cancel]
  have z9 : ∀ w, (zeroValue 9).run Try.prog w = .ok (.string ⟨#[]⟩) w := fun _ => by kernel_rfl
  have k1 : ∀ j, j < 1 → (wc.cell? ⟨r, N + j, none⟩).isSome = true := by
    intro j hj
    rw [hb1.cell]
    have : N + j < (setMany cur i ((l.map Value.string).drop (i + 1))).size := by rw [setMany_size, HCS.out]; omega
    simp [this]
  have k2 : ∀ j, j < 1 → wc.frozen? ⟨r, N + j, none⟩ = false := fun j _ => hb1.frozen _
  have K1 := Lib.hid k1; have K2 := Lib.hid k2; have Z9 := Lib.hid z9; clear k1 k2 z9
  go_wp2_with (with_reducible refine wpList_clear rfl (.tmp 31) 53 9 rfl (.string ⟨#[]⟩) Try.underlying53 Z9.out rfl rfl r N 1 (c - N) (by omega) ?e1 K1.out K2.out ?_)
  case e1 => rfl
  go_ret
  have hll := HLL'.out
  have hfin : Blk (wc.setCells r N [.string ⟨#[]⟩]) r 9 (setMany (setMany cur i ((l.map Value.string).drop (i + 1))) N [.string ⟨#[]⟩]) := Blk.setCells _ _ _ _ hb1
  refine ⟨rfl, own_of_blk hfin (by rw [setMany_size, setMany_size]; exact HCS.out) ?_ (by omega) HCM.out, grownBy_trans hg1 (grownBy_setCells _ _ _ _)⟩
  have hcs := HCS.out
  apply List.ext_getElem?
  intro j
  rw [List.getElem?_take, Nat.add_sub_cancel]
  by_cases hj : j < N
  · rw [if_pos hj, Array.getElem?_toList, setMany_get _ _ _ _ (by rw [setMany_size]; simp; omega), if_neg (by simp; omega), setMany_get _ _ _ _ (by simp; omega)]
    rw [List.getElem?_map, List.getElem?_eraseIdx]
    by_cases hij : i ≤ j
    · rw [if_pos (by simp; omega), List.getElem?_drop, List.getElem?_map, if_neg (by omega), show i + 1 + (j - i) = j + 1 by omega]
    · rw [if_neg (by simp; omega), HU.out j (by omega), List.getElem?_map, if_pos (by omega)]
  · rw [if_neg hj, List.getElem?_eq_none (by rw [List.length_map, List.length_eraseIdx, if_pos (by omega)]; omega)]
end Go.Proofs.Ytikblgnpabonjaa
