import Derived.Test.YtglglbbjacgbdaaDoorTrN
namespace Go.Proofs.YtglglbbjacgbdaaDoor
open Go.RowKit Go.Shelf Go.Lib
set_option linter.unusedVariables false
set_option linter.unusedSimpArgs false
attribute [local go_sem] b_max2 b_min2 b_max b_min

/-! ### slices.Insert of one child -/
section
variable {w w' : World} {v : Value} {n i g : Nat} {xs : List Value} {s : ByteArray} {q : Option Addr}

set_option maxRecDepth 100000 in
set_option maxHeartbeats 1000000 in
theorem ins_end (ho : w.ownsRow 0 72 2 v n xs) (hn : n ≤ 2000) (hv : Blk w g 72 #[.string s, .pointer q]) :
    Calls Tryd.prog 42 #[v, .int .i64 n, .slice (some ⟨g, 0, none⟩) 1 1] w fun e w' =>
      ∃ v', e = .returned v' ∧ w'.ownsRow 0 72 2 v' (n + 1) (xs ++ [.string s, .pointer q]) ∧ w.grownBy w' v.ownBlock ∧ (v'.ownBlock = v.ownBlock ∨ v'.ownBlock = some w.heap.size) := by
  obtain ⟨i0, hi, hz0, hz1, hz2⟩ := info_parts child_info
  have hl := hv.lt
  have hrd : Reads w w.heap.size 2 (some ⟨g, 0, none⟩) 1 [.string s, .pointer q] := ⟨rfl, fun _ => ⟨_, rfl, hl, fun j u hj => by rw [add_zero', hv.cell]; simpa using hj⟩⟩
  obtain ⟨A, c, rfl, hc, _⟩ := Reads.of_own ho
  clear hv hl
  rcases Nat.lt_or_eq_of_le hc with hcn | rfl
  · have hcn' : ¬ c = n := by omega
    go_enter Tryd.func42, Tryd.ntmps42
    go_wp2_with (at_builtin; refine wpList_append_any _ rfl (.tmp 23) (.tmp 24) 40 rfl 0 72 i0 _ 2 24 Tryd.underlying40 hi hz0 hz1 hz2 rfl (by decide) (.slice A n c) n xs rfl ho w.heap.size (some ⟨g, 0, none⟩) 1 1 [.string s, .pointer q] rfl hrd (by simp [Value.oneCell']) (by simp only [maxLen]; omega) (by omega) (Nat.zero_le _) ?_; intro v' w1 h1 h2 h3)
    go_ret
    exact ⟨v', rfl, h1, h2, h3⟩
  · go_enter Tryd.func42, Tryd.ntmps42
    go_wp2_with (at_builtin; refine wpList_append_any _ rfl (.tmp 23) (.tmp 24) 40 rfl 0 72 i0 _ 2 24 Tryd.underlying40 hi hz0 hz1 hz2 rfl (by decide) (.slice A n n) n xs rfl ho w.heap.size (some ⟨g, 0, none⟩) 1 1 [.string s, .pointer q] rfl hrd (by simp [Value.oneCell']) (by simp only [maxLen]; omega) (by omega) (Nat.zero_le _) ?_; intro v' w1 h1 h2 h3)
    go_ret
    exact ⟨v', rfl, h1, h2, h3⟩

/-- what the new row is -/
theorem ins_list (L xs vs D : List Value) (n i : Nat) (hx : L.take (n * 2) = xs) (hxl : xs.length = n * 2) (hv : vs.length = 2) (hi : i ≤ n) :
    (L.take (i * 2) ++ vs ++ (xs.drop (i * 2) ++ D)).take ((n + 1) * 2) = xs.take (i * 2) ++ vs ++ xs.drop (i * 2) := by
  have e : L.take (i * 2) = xs.take (i * 2) := by rw [← hx, List.take_take, Nat.min_eq_left (by omega)]
  rw [e, ← List.append_assoc]
  refine List.take_left' ?_
  simp only [List.length_append, List.length_take, List.length_drop, hv, hxl]
  omega

set_option maxRecDepth 100000 in
set_option maxHeartbeats 1000000 in
theorem ins_room {b c : Nat} (ho : w.ownsRow 0 72 2 (.slice (some ⟨b, 0, none⟩) n c) n xs) (hn : n ≤ 2000) (hi : i < n) (hr : n + 1 ≤ c) (hv : Blk w g 72 #[.string s, .pointer q]) (hne : g ≠ b)
    (h1c : ∀ u ∈ xs, u.oneCell' = true) :
    Calls Tryd.prog 42 #[.slice (some ⟨b, 0, none⟩) n c, .int .i64 i, .slice (some ⟨g, 0, none⟩) 1 1] w fun e w' =>
      e = .returned (.slice (some ⟨b, 0, none⟩) (n + 1) c) ∧ w'.ownsRow 0 72 2 (.slice (some ⟨b, 0, none⟩) (n + 1) c) (n + 1) (xs.take (i * 2) ++ [.string s, .pointer q] ++ xs.drop (i * 2)) ∧ w.grownBy w' (some b) := by
  obtain ⟨i0, hi0, hz0, hz1, hz2⟩ := info_parts child_info
  obtain ⟨cur, hb, hcs, htk, hnc, hcm, hll, _⟩ := own_blk2 ho
  have hsz : (Tryd.prog.info? 72).map (·.size) = some 2 := by rw [hi0]; simp [hz1]
  have hcm' : c ≤ 9223372036854775807 := by unfold maxLen at hcm; omega
  have hz : ∀ w, (Go.sizeOf 72).run Tryd.prog w = .ok 2 w := fun _ => by kernel_rfl
  have hov : ∀ lb cb, (callFunc 59 #[.slice (some ⟨g, 0, none⟩) 1 1, .slice (some ⟨b, (i + 1) * 2, none⟩) lb cb]).run Tryd.prog w = .ok (.value (.bool false)) w := fun lb cb => by
    rw [run_callFunc_extern Tryd.func59 (by kernel_rfl) (by kernel_rfl) (by kernel_rfl) (e := Extern.SlicesOverlaps.overlaps #[40, 40] #[4]) (by kernel_rfl),
      Lib.run_overlaps_apart w 40 4 72 Tryd.underlying40 2 hz ⟨g, 0, none⟩ ⟨b, (i + 1) * 2, none⟩ 1 1 lb cb hne 72 72 2 (c * 2) (by simp only [World.shape?]; rw [show w.heap[g]? = _ from hv]; rfl) (by simp only [World.shape?]; rw [show w.heap[b]? = _ from hb]; show some (72, cur.size) = _; rw [hcs]) (by omega) (hv.frozen 0) (hv.frozen 2)]
    rfl
  have hcl : cur.toList.length = c * 2 := by simpa using hcs
  have hdl : (xs.drop (i * 2)).length = (n - i) * 2 := by rw [List.length_drop, hll]; omega
  have hcurx : ∀ j u, (xs.drop (i * 2))[j]? = some u → w.drew.cell? (⟨b, i * 2 + j, none⟩ : Addr) = some u := by
    intro j u hj
    have hj' := (List.getElem?_eq_some_iff.1 hj).1
    rw [hdl] at hj'
    rw [List.getElem?_drop, ← htk, List.getElem?_take, if_pos (by omega)] at hj
    show w.cell? _ = _
    rw [hb.cell]
    simpa using hj
  have hcp1 : ∀ ty dc sc, (Builtin.copy_ #[40, 40] ty #[.slice (some ⟨b, (i + 1) * 2, none⟩) (n - i) dc, .slice (some ⟨b, i * 2, none⟩) (n + 1 - i) sc]).run Tryd.prog w.drew = .ok (goInt (n - i : Nat)) (w.drew.setRow b (pl cur.toList ((i + 1) * 2) (xs.drop (i * 2))).toArray) := fun ty dc sc => by
    have hmin : Nat.min (n + 1 - i) (n - i) = n - i := by simp only [Nat.min_def]; split <;> omega
    have h := run_copy_k (P := Tryd.prog) w.drew 40 40 ty 72 2 b ((i + 1) * 2) (n - i) dc ⟨b, i * 2, none⟩ (n + 1 - i) sc cur 72 (xs.drop (i * 2)) Tryd.underlying40 hsz hb (by rw [hdl, hmin]) (fun j u hj => by rw [Addr.add_lit]; exact hcurx j u hj) (by rw [hdl, hcs]; omega) (fun u hu => h1c u (List.mem_of_mem_drop hu))
    rw [hmin] at h
    exact h
  obtain ⟨W1, hW1⟩ : ∃ W1, W1 = w.drew.setRow b (pl cur.toList ((i + 1) * 2) (xs.drop (i * 2))).toArray := ⟨_, rfl⟩
  rw [← hW1] at hcp1
  have hb1 : Blk W1 b 72 (pl cur.toList ((i + 1) * 2) (xs.drop (i * 2))).toArray := by rw [hW1]; exact Blk.row (w := w.drew) hb _
  have hv1 : Blk W1 g 72 #[.string s, .pointer q] := by rw [hW1]; exact Blk.row_far (w := w.drew) hv _ hne
  have hg1 : w.grownBy W1 (some b) := by rw [hW1]; exact grownBy_trans (grownBy_drewN w 1 _) (grownBy_setRow _ _ _)
  have hpl : (pl cur.toList ((i + 1) * 2) (xs.drop (i * 2))).length = c * 2 := by rw [pl_length _ _ _ (by rw [hdl, hcl]; omega), hcl]
  have hcp2 : ∀ ty dc, (Builtin.copy_ #[40, 40] ty #[.slice (some ⟨b, i * 2, none⟩) (n + 1 - i) dc, .slice (some ⟨g, 0, none⟩) 1 1]).run Tryd.prog W1 = .ok (goInt 1) (W1.setRow b (pl (pl cur.toList ((i + 1) * 2) (xs.drop (i * 2))) (i * 2) [.string s, .pointer q]).toArray) := fun ty dc => by
    have hmin : Nat.min 1 (n + 1 - i) = 1 := by simp only [Nat.min_def]; split <;> omega
    have h := run_copy_k (P := Tryd.prog) W1 40 40 ty 72 2 b (i * 2) (n + 1 - i) dc ⟨g, 0, none⟩ 1 1 _ 72 [.string s, .pointer q] Tryd.underlying40 hsz hb1 (by rw [hmin]; rfl) (fun j u hj => by rw [add_zero', hv1.cell]; simpa using hj) (by rw [List.size_toArray, hpl]; simp; omega) (by simp [Value.oneCell'])
    rw [hmin] at h
    exact h
  obtain ⟨W2, hW2⟩ : ∃ W2, W2 = W1.setRow b (pl (pl cur.toList ((i + 1) * 2) (xs.drop (i * 2))) (i * 2) [.string s, .pointer q]).toArray := ⟨_, rfl⟩
  rw [← hW2] at hcp2
  have hfin : W2.ownsRow 0 72 2 (.slice (some ⟨b, 0, none⟩) (n + 1) c) (n + 1) (xs.take (i * 2) ++ [.string s, .pointer q] ++ xs.drop (i * 2)) := by
    have e := pl_shift cur.toList [.string s, .pointer q] (xs.drop (i * 2)) (i * 2) (by rw [hdl, hcl]; simp; omega)
    rw [show i * 2 + [Value.string s, Value.pointer q].length = (i + 1) * 2 by simp; omega] at e
    have hB2 := Blk.row hb1 (pl (pl cur.toList ((i + 1) * 2) (xs.drop (i * 2))) (i * 2) [.string s, .pointer q]).toArray
    rw [← hW2] at hB2
    refine ⟨?_, .inr ⟨b, c, _, rfl, Nat.zero_le _, hB2, hr, hcm, ?_, ?_⟩⟩
    · simp only [List.length_append, List.length_take, hdl, hll]; simp; omega
    · rw [List.size_toArray, pl_length _ _ _ (by rw [hpl]; simp; omega), hpl]
    · rw [List.toList_toArray, e]
      exact ins_list _ _ _ _ n i htk hll rfl (by omega)
  have hg2 : w.grownBy W2 (some b) := by rw [hW2]; exact grownBy_trans hg1 (grownBy_setRow _ _ _)
  have hin : i ≤ n := by omega
  have hic : ¬ (c = i) := by omega
  have hic1 : ¬ (c = i + 1) := by omega
  have hne1 : ¬ ((i : Int) = (n : Int)) := by omega
  have hcmp : ((c : Int) < (n : Int) + 1) = False := by simp; omega
  have hw1 : IntKind.i64.wrap ((i : Int) + 1) = (i : Int) + 1 := by rw [IntKind.wrap_i64]; omega
  have hw2 : IntKind.i64.wrap ((n : Int) + 1) = (n : Int) + 1 := by rw [IntKind.wrap_i64]; omega
  have htn : ((i : Int) + 1).toNat = i + 1 := by omega
  have htn2 : ((n : Int) + 1).toNat = n + 1 := by omega
  have hb1' : (0 : Int) ≤ (i : Int) + 1 := by omega
  have hb2' : (0 : Int) ≤ (n : Int) + 1 := by omega
  have hb3' : (n : Int) + 1 ≤ (c : Int) := by omega
  have hb4' : (i : Int) + 1 ≤ (n : Int) + 1 := by omega
  have hb5' : (i : Int) ≤ (n : Int) + 1 := by omega
  have hCM := Lib.hid hcm
  clear ho hb hcs htk hll hsz hz hcl hdl hcurx hW1 hb1 hv1 hg1 hpl hW2 h1c hz0 hz1 hz2 hi0 hv hcm
  have mixed := mixedOk
  go_enter Tryd.func42, Tryd.ntmps42
  go_wp2_with (simp only [hov])
  go_region_law_o (refine step_copy_runI rfl _ _ 40 40 rfl _ _ (by simp [Act.eval, Act.put]) (by simp [Act.eval, Act.put]) (hcp1 _ _ _) ?_)
  go_wp2_with (at_builtin; refine wpList_copy_runI _ rfl _ _ 40 40 rfl _ _ rfl rfl (hcp2 _ _) ?_)
  go_ret
  exact ⟨rfl, hfin, hg2⟩

theorem grownBy_new {w w' : World} (h : w.grownBy w' none) (cs : Array Value) : w.grownBy (w'.setRow w.heap.size cs) none :=
  ⟨h.os, h.tape, h.output, by simpa using h.size, fun k hk hr => (setRow_other w' _ k cs (by omega)).trans (h.block k hk hr)⟩
set_option maxRecDepth 100000 in
set_option maxHeartbeats 1000000 in
theorem ins_grow {b c : Nat} (ho : w.ownsRow 0 72 2 (.slice (some ⟨b, 0, none⟩) n c) n xs) (hn : n ≤ 2000) (hi : i < n) (hr : c < n + 1) (hv : Blk w g 72 #[.string s, .pointer q])
    (h1c : ∀ u ∈ xs, u.oneCell' = true) :
    Calls Tryd.prog 42 #[.slice (some ⟨b, 0, none⟩) n c, .int .i64 i, .slice (some ⟨g, 0, none⟩) 1 1] w fun e w' =>
      ∃ c', e = .returned (.slice (some ⟨w.heap.size, 0, none⟩) (n + 1) c') ∧ w'.ownsRow 0 72 2 (.slice (some ⟨w.heap.size, 0, none⟩) (n + 1) c') (n + 1) (xs.take (i * 2) ++ [.string s, .pointer q] ++ xs.drop (i * 2)) ∧ w.grownBy w' none := by
  obtain ⟨i0, hi0, hz0, hz1, hz2⟩ := info_parts child_info
  obtain ⟨cur, hb, hcs, htk, hnc, hcm, hll, _⟩ := own_blk2 ho
  obtain rfl : c = n := by omega
  have hsz : (Tryd.prog.info? 72).map (·.size) = some 2 := by rw [hi0]; simp [hz1]
  have hcl : cur.toList.length = c * 2 := by simpa using hcs
  have hxc : cur.toList = xs := by rw [← htk, List.take_of_length_le (by omega)]
  have hcell : ∀ j u, xs[j]? = some u → w.cell? ⟨b, j, none⟩ = some u := by
    intro j u hj
    rw [hb.cell, ← Array.getElem?_toList, hxc]; exact hj
  have hbw := hb.lt
  have hgw := hv.lt
  have hdl : (xs.drop (i * 2)).length = (c - i) * 2 := by rw [List.length_drop, hll]; omega
  have htl : (xs.take (i * 2)).length = i * 2 := by rw [List.length_take, hll]; omega
  have hold : (Builtin.firstCells i0.size i (.slice (some ⟨b, 0, none⟩) i c)).run Tryd.prog w.drew = .ok (xs.take (i * 2)).toArray w.drew := by
    rw [hz1]
    exact run_firstCells_some w.drew 2 i ⟨b, 0, none⟩ i c (xs.take (i * 2)) htl (fun j v hj => by
      rw [add_zero']
      rw [List.getElem?_take] at hj
      split at hj
      · exact hcell j v hj
      · cases hj)
  have hrz : ∀ ty, (Builtin.append_ #[40, 3] ty #[.slice (some ⟨b, 0, none⟩) i c, .int .i64 ((c : Int) + 1 - (i : Int))]).run Tryd.prog w =
      .ok (.slice (some ⟨w.heap.size, 0, none⟩) (c + 1) (grownCap w (c + 1) c 72)) (w.drew.alloc (.cells ((xs.take (i * 2)).toArray ++ Builtin.zeroCells (Value.agg #[.string ⟨#[]⟩, .pointer none]).cells (c + 1 - i) ++ Builtin.zeroCells (Value.agg #[.string ⟨#[]⟩, .pointer none]).cells (grownCap w (c + 1) c 72 - (c + 1))) 72)) := fun ty => by
    have hik : i + (c + 1 - i) = c + 1 := by omega
    have h := Lib.run_append_grow_zeros (P := Tryd.prog) w 40 3 ty 72 i0 _ .i64 .i64 Tryd.underlying40 Tryd.underlying3 hi0 hz0 (some ⟨b, 0, none⟩) i c (xs.take (i * 2)) hold (c + 1 - i) (by omega) (by omega) (by omega) (by omega) (by rw [hz2]; omega) (by rw [hz2, hik]; exact growslice_fits (by omega) (by omega))
    rw [hik] at h
    rw [show (c : Int) + 1 - (i : Int) = ((c + 1 - i : Nat) : Int) by omega]
    exact h
  obtain ⟨G, hG⟩ : ∃ G, G = grownCap w (c + 1) c 72 := ⟨_, rfl⟩
  have hGn : c + 1 ≤ G := by rw [hG]; exact grownCap_ge w _ _ _
  have hGm : G ≤ maxLen := by
    rw [hG]; exact grownCap_le_maxLen w (c + 1) c 72 (by unfold maxLen; omega)
  have hG63 : G ≤ 9223372036854775807 := by unfold maxLen at hGm; omega
  rw [← hG] at hrz
  obtain ⟨ROW, hROW⟩ : ∃ ROW : Array Value, ROW = (xs.take (i * 2)).toArray ++ Builtin.zeroCells (Value.agg #[.string ⟨#[]⟩, .pointer none]).cells (c + 1 - i) ++ Builtin.zeroCells (Value.agg #[.string ⟨#[]⟩, .pointer none]).cells (G - (c + 1)) := ⟨_, rfl⟩
  rw [← hROW] at hrz
  have hRs : ROW.size = G * 2 := by
    rw [hROW]
    simp [Builtin.zeroCells, Value.cells, hll]
    omega
  have hRt : ROW.toList.take (i * 2) = xs.take (i * 2) := by
    rw [hROW, Array.toList_append, Array.toList_append, List.append_assoc]
    exact List.take_left' htl
  obtain ⟨W1, hW1⟩ : ∃ W1, W1 = w.drew.alloc (.cells ROW 72) := ⟨_, rfl⟩
  rw [← hW1] at hrz
  have hb1 : Blk W1 w.heap.size 72 ROW := by rw [hW1]; exact Blk.new w.drew 72 ROW
  have hv1 : Blk W1 g 72 #[.string s, .pointer q] := by rw [hW1]; exact Blk.alloc (w := w.drew) hv _
  have ho1 : Blk W1 b 72 cur := by rw [hW1]; exact Blk.alloc (w := w.drew) hb _
  have hg1 : w.grownBy W1 none := by
    rw [hW1]
    exact grownBy_of_below (((Below.refl w.heap.size w).drew).alloc (w := w.drew) (Nat.le_refl _) _) _
  have hRl : ROW.toList.length = G * 2 := by simpa using hRs
  have hpA : (pl ROW.toList (i * 2) [.string s, .pointer q]).length = G * 2 := by rw [pl_length _ _ _ (by rw [hRl]; simp; omega), hRl]
  have hcpA : ∀ W : World, Blk W w.heap.size 72 ROW → Blk W g 72 #[.string s, .pointer q] → ∀ ty dc, (Builtin.copy_ #[40, 40] ty #[.slice (some ⟨w.heap.size, i * 2, none⟩) (c + 1 - i) dc, .slice (some ⟨g, 0, none⟩) 1 1]).run Tryd.prog W = .ok (goInt 1) (W.setRow w.heap.size (pl ROW.toList (i * 2) [.string s, .pointer q]).toArray) := fun W k1 k2 ty dc => by
    have hmin : Nat.min 1 (c + 1 - i) = 1 := by simp only [Nat.min_def]; split <;> omega
    have h := run_copy_k (P := Tryd.prog) W 40 40 ty 72 2 w.heap.size (i * 2) (c + 1 - i) dc ⟨g, 0, none⟩ 1 1 _ 72 [.string s, .pointer q] Tryd.underlying40 hsz k1 (by rw [hmin]; rfl) (fun j u hj => by rw [add_zero', k2.cell]; simpa using hj) (by rw [hRs]; simp; omega) (by simp [Value.oneCell'])
    rw [hmin] at h
    exact h
  have hcpB : ∀ W : World, Blk W w.heap.size 72 (pl ROW.toList (i * 2) [.string s, .pointer q]).toArray → Blk W b 72 cur → ∀ ty dc sc, (Builtin.copy_ #[40, 40] ty #[.slice (some ⟨w.heap.size, (i + 1) * 2, none⟩) (c - i) dc, .slice (some ⟨b, i * 2, none⟩) (c - i) sc]).run Tryd.prog W = .ok (goInt (c - i : Nat)) (W.setRow w.heap.size (pl (pl ROW.toList (i * 2) [.string s, .pointer q]) ((i + 1) * 2) (xs.drop (i * 2))).toArray) := fun W k1 k2 ty dc sc => by
    have hmin : Nat.min (c - i) (c - i) = c - i := by simp only [Nat.min_def]; split <;> omega
    have h := run_copy_k (P := Tryd.prog) W 40 40 ty 72 2 w.heap.size ((i + 1) * 2) (c - i) dc ⟨b, i * 2, none⟩ (c - i) sc _ 72 (xs.drop (i * 2)) Tryd.underlying40 hsz k1 (by rw [hdl, hmin]) (fun j u hj => by
      rw [Addr.add_lit, k2.cell, ← Array.getElem?_toList, hxc]
      rw [List.getElem?_drop] at hj
      exact hj) (by rw [List.size_toArray, hpA, hdl]; omega) (fun u hu => h1c u (List.mem_of_mem_drop hu))
    rw [hmin] at h
    exact h
  have hfin : ∀ W : World, Blk W w.heap.size 72 (pl (pl ROW.toList (i * 2) [.string s, .pointer q]) ((i + 1) * 2) (xs.drop (i * 2))).toArray → W.ownsRow 0 72 2 (.slice (some ⟨w.heap.size, 0, none⟩) (c + 1) G) (c + 1) (xs.take (i * 2) ++ [.string s, .pointer q] ++ xs.drop (i * 2)) := fun W k => by
    have e := pl_fill ROW.toList [.string s, .pointer q] (xs.drop (i * 2)) (i * 2) (by rw [hdl, hRl]; simp; omega)
    rw [show i * 2 + [Value.string s, Value.pointer q].length = (i + 1) * 2 by simp; omega] at e
    refine ⟨?_, .inr ⟨w.heap.size, G, _, rfl, Nat.zero_le _, k, hGn, hGm, ?_, ?_⟩⟩
    · simp only [List.length_append, List.length_take, hdl, hll]; simp; omega
    · rw [List.size_toArray, pl_length _ _ _ (by rw [hpA, hdl]; omega), hpA]
    · rw [List.toList_toArray, e, hRt, ← List.append_assoc]
      refine List.take_left' ?_
      simp only [List.length_append, htl, hdl]; simp; omega
  have hHb := Lib.hid hb; have hHv := Lib.hid hv
  have hin : i ≤ c := by omega
  have hic : ¬ (c = i) := by omega
  have hGi : ¬ (G = i) := by omega
  have hGi1 : ¬ (G = i + 1) := by omega
  have hne1 : ¬ ((i : Int) = (c : Int)) := by omega
  have hw1 : IntKind.i64.wrap ((i : Int) + 1) = (i : Int) + 1 := by rw [IntKind.wrap_i64]; omega
  have hw2 : IntKind.i64.wrap ((c : Int) + 1) = (c : Int) + 1 := by rw [IntKind.wrap_i64]; omega
  have hw3 : IntKind.i64.wrap ((c : Int) + 1 - (i : Int)) = (c : Int) + 1 - (i : Int) := by rw [IntKind.wrap_i64]; omega
  have htn : ((i : Int) + 1).toNat = i + 1 := by omega
  have hb1' : (0 : Int) ≤ (i : Int) + 1 := by omega
  have hb3' : (c : Int) < (c : Int) + 1 := by omega
  have hb4' : (i : Int) + 1 ≤ (c : Int) + 1 := by omega
  have hb5' : (i : Int) ≤ (c : Int) + 1 := by omega
  have mixed := mixedOk
  have qA : ∀ ty dc, _ := hcpA W1 hb1 hv1
  obtain ⟨W2, hW2⟩ : ∃ W2, W2 = W1.setRow w.heap.size (pl ROW.toList (i * 2) [.string s, .pointer q]).toArray := ⟨_, rfl⟩
  rw [← hW2] at qA
  have hb2 : Blk W2 w.heap.size 72 (pl ROW.toList (i * 2) [.string s, .pointer q]).toArray := by rw [hW2]; exact Blk.row hb1 _
  have ho2 : Blk W2 b 72 cur := by rw [hW2]; exact Blk.row_far ho1 _ (by omega)
  have hg2 : w.grownBy W2 none := by rw [hW2]; exact grownBy_new hg1 _
  have qB := hcpB W2.drew hb2 ho2
  obtain ⟨W3, hW3⟩ : ∃ W3, W3 = W2.drew.setRow w.heap.size (pl (pl ROW.toList (i * 2) [.string s, .pointer q]) ((i + 1) * 2) (xs.drop (i * 2))).toArray := ⟨_, rfl⟩
  rw [← hW3] at qB
  have q1 := hfin W3 (by rw [hW3]; exact Blk.row hb2.drew _)
  have q2 : w.grownBy W3 none := by rw [hW3]; exact grownBy_new (grownBy_trans hg2 (grownBy_drewN W2 1 _)) _
  clear hW1 hW2 hW3 hb2 ho2 hg2 hHb hHv ho hb hcs htk hll hsz hcl hdl h1c hz0 hz1 hz2 hi0 hv hcm hold hxc hcell htl hRs hRt hRl hpA hROW hG hGm hb1 hv1 ho1 hg1 hfin hcpA hcpB
  go_enter Tryd.func42, Tryd.ntmps42
  go_wp2_with (first
    | (at_builtin; refine Lib.wpList_append_run _ rfl _ _ _ _ rfl _ _ rfl rfl _ _ (hrz _) ?_)
    | (at_builtin; refine wpList_copy_runI _ rfl _ _ 40 40 rfl _ _ rfl rfl (qA _ _) ?_))
  go_region_law_o (refine step_copy_runI rfl _ _ 40 40 rfl _ _ (by simp [Act.eval, Act.put]) (by simp [Act.eval, Act.put]) (qB _ _ _) ?_)
  go_wp2_with fail
  go_ret
  exact ⟨G, rfl, q1, q2⟩

theorem ins_any (ho : w.ownsRow 0 72 2 v n xs) (hn : n ≤ 2000) (hi : i ≤ n) (hv : Blk w g 72 #[.string s, .pointer q]) (hne : v.ownBlock ≠ some g) (h1c : ∀ u ∈ xs, u.oneCell' = true) :
    Calls Tryd.prog 42 #[v, .int .i64 i, .slice (some ⟨g, 0, none⟩) 1 1] w fun e w' =>
      ∃ v', e = .returned v' ∧ w'.ownsRow 0 72 2 v' (n + 1) (xs.take (i * 2) ++ [.string s, .pointer q] ++ xs.drop (i * 2)) ∧ w.grownBy w' v.ownBlock ∧ (v'.ownBlock = v.ownBlock ∨ v'.ownBlock = some w.heap.size) := by
  rcases Nat.lt_or_eq_of_le hi with hin | rfl
  · obtain ⟨b, c, rfl⟩ : ∃ b c, v = .slice (some ⟨b, 0, none⟩) n c := by
      rcases ho.2 with ⟨_, h0⟩ | ⟨b, c, _, h, _⟩
      · omega
      · exact ⟨b, c, h⟩
    have hi : i ≤ n := hi
    by_cases hr : n + 1 ≤ c
    · refine (ins_room ho hn hin hr hv (fun h => hne (by rw [h]; rfl)) h1c).mono ?_
      rintro e w' ⟨rfl, h1, h2⟩
      exact ⟨_, rfl, h1, h2, .inl rfl⟩
    · refine (ins_grow ho hn hin (by omega) hv h1c).mono ?_
      rintro e w' ⟨c', rfl, h1, h2⟩
      exact ⟨_, rfl, h1, ⟨h2.os, h2.tape, h2.output, h2.size, fun k hk _ => h2.block k hk (by simp)⟩, .inr rfl⟩
  · have hl : xs.length = i * 2 := ho.1
    rw [List.take_of_length_le (by omega), List.drop_eq_nil_of_le (by omega), List.append_nil]
    exact ins_end ho hn hv
end
end Go.Proofs.YtglglbbjacgbdaaDoor
