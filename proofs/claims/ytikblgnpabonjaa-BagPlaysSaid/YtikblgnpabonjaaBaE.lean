import Derived.Test.YtikblgnpabonjaaBaD
namespace Go.Proofs.Ytikblgnpabonjaa
open Go.RowKit
set_option linter.unusedVariables false
attribute [local go_sem] b_max2 b_min2 b_max b_min

/-! ### the parcels that wait -/
abbrev Pc := Nat × Nat × ByteArray
def pcv (p : Pc) : List Value := [.int .i64 (p.1 : Nat), .int .i64 (p.2.1 : Nat), .string p.2.2]
def cellsQ (l : List Pc) : List Value := l.flatMap pcv
theorem cellsQ_snoc (l : List Pc) (p : Pc) : cellsQ (l ++ [p]) = cellsQ l ++ pcv p := by simp [cellsQ]
theorem cellsQ_length (l : List Pc) : (cellsQ l).length = l.length * 3 := flat_length pcv 3 (fun _ => rfl) l
theorem one_cellsQ (l : List Pc) : ∀ u ∈ cellsQ l, u.oneCell' = true := by
  intro u hu
  simp only [cellsQ, List.mem_flatMap, pcv] at hu
  obtain ⟨q, _, hq⟩ := hu
  simp at hq
  rcases hq with rfl | rfl | rfl <;> rfl
def rowOf (Ls : List (List ByteArray)) (a b : Nat) : List Pc := (lk Ls a b).map fun s => (a, b, s)
def allTo (Ls : List (List ByteArray)) (a : Nat) (k : Nat) : List Pc := (List.range k).flatMap fun b => if a = b then [] else rowOf Ls a b
def allUp (Ls : List (List ByteArray)) (k : Nat) : List Pc := (List.range k).flatMap fun a => allTo Ls a 8
def fAll (Ls : List (List ByteArray)) : List Pc := allUp Ls 8
theorem allTo_succ (Ls : List (List ByteArray)) (a k : Nat) : allTo Ls a (k + 1) = allTo Ls a k ++ if a = k then [] else rowOf Ls a k := by
  simp [allTo, List.range_succ, List.flatMap_append]
theorem allUp_succ (Ls : List (List ByteArray)) (k : Nat) : allUp Ls (k + 1) = allUp Ls k ++ allTo Ls k 8 := by
  simp [allUp, List.range_succ, List.flatMap_append]
theorem lk_le {Ls : List (List ByteArray)} (h : ∀ l ∈ Ls, l.length ≤ 200) (a b : Nat) : (lk Ls a b).length ≤ 200 := by
  unfold lk
  rw [List.getD_eq_getElem?_getD]
  cases e : Ls[a * 8 + b]? with
  | none => simp
  | some l => exact h l (List.mem_of_getElem? e)
theorem allTo_le {Ls : List (List ByteArray)} (h : ∀ l ∈ Ls, l.length ≤ 200) (a k : Nat) : (allTo Ls a k).length ≤ 200 * k := by
  induction k with
  | zero => simp [allTo]
  | succ k ih =>
    rw [allTo_succ, List.length_append]
    have : (if a = k then [] else rowOf Ls a k : List Pc).length ≤ 200 := by
      split
      · simp
      · rw [rowOf, List.length_map]; exact lk_le h a k
    omega
theorem allUp_le {Ls : List (List ByteArray)} (h : ∀ l ∈ Ls, l.length ≤ 200) (k : Nat) : (allUp Ls k).length ≤ 1600 * k := by
  induction k with
  | zero => simp [allUp]
  | succ k ih => rw [allUp_succ, List.length_append]; have := allTo_le h k 8; omega
theorem pc_info : (Try.prog.info? 32).map (fun i => (i.zero, i.size, i.bytes)) = some (some (.agg #[.int .i64 0, .int .i64 0, .string ⟨#[]⟩]), 3, 32) := by kernel_rfl

set_option maxRecDepth 100000 in
set_option maxHeartbeats 1000000 in
theorem all_any {w : World} {g : Nat} {F : Nat → Prop} {Ls : List (List ByteArray)} (h : Net w g F Ls) :
    Calls Try.prog 17 #[.pointer (some ⟨g, 0, none⟩)] w fun e w' => ∃ v, e = .returned v ∧ w'.ownsRow w.heap.size 32 3 v (fAll Ls).length (cellsQ (fAll Ls)) ∧ Below w.heap.size w w' := by
  obtain ⟨vs, h⟩ := h
  obtain ⟨i0, hi, hz0, hz1, hz2⟩ := info_parts pc_info
  go_enter Try.func17, Try.ntmps17
  go_wp2_with fail
  go_loopw [3, 4, 5, 6, 8, 9] (fun v _ _ _ _ p wr => ∃ i : Nat, p = .int .i64 i ∧ i ≤ 8 ∧ wr.ownsRow w.heap.size 32 3 v (allUp Ls i).length (cellsQ (allUp Ls i)) ∧ Below w.heap.size w wr) (fun _ _ _ _ _ p _ => 8 - (intOf p).toNat)
  case atStart => exact ⟨0, rfl, by omega, by simpa [allUp, cellsQ] using World.ownsRow_nil _ _ _ _, Below.refl _ _⟩
  case round =>
    obtain ⟨i, rfl, hi8, hown, hb⟩ := hrel
    by_cases hlt : i < 8
    · have hd : decide ((i : Int) < 8) = true := by rw [decide_eq_true_eq]; omega
      go_wp2_with fail
      go_step3
      go_wp2_with fail
      go_step3
      go_wp2_with fail
      obtain ⟨wo, rfl⟩ : ∃ wo : World, wo = wr := ⟨_, rfl⟩
      go_loopw [3, 5, 6, 8, 12] (fun v _ _ _ p wr => ∃ j : Nat, p = .int .i64 j ∧ j ≤ 8 ∧ wr.ownsRow w.heap.size 32 3 v (allUp Ls i ++ allTo Ls i j).length (cellsQ (allUp Ls i ++ allTo Ls i j)) ∧ Below w.heap.size w wr) (fun _ _ _ _ p _ => 8 - (intOf p).toNat)
      case atStart => exact ⟨0, rfl, by omega, by simpa [allTo] using hown, hb⟩
      case round =>
        clear hown hb
        obtain ⟨j, rfl, hj8, hown, hb⟩ := hrel
        by_cases hltj : j < 8
        · by_cases hij : i = j
          · subst hij
            have c := link_out g i i wr (by unfold isL; omega)
            go_wp2_with fail
            refine c.mono ?_
            rintro e w1 ⟨rfl, rfl⟩
            go_wp2_with fail
            go_roundw
            case rel => exact ⟨i + 1, vint (by omega), by omega, by rw [allTo_succ, if_pos rfl, List.append_nil]; exact hown, hb⟩
            case measure => simp [intOf]; omega
          · have hN := h.low hb
            obtain ⟨A, c, hv, hlc, hr, ho, hlen, hcell, hfz⟩ := hN.at_ hlt hltj
            have c1 := link_in g i j wr hlt hltj hij
            have hsucc := allTo_succ Ls i j
            rw [if_neg hij, rowOf] at hsucc
            have hle := allUp_le h.cap i
            have hle2 := allTo_le h.cap i j
            generalize lk Ls i j = l at *
            have HS := Lib.hid hsucc; clear hsucc
            have hdj : decide ((j : Int) < 8) = true := by rw [decide_eq_true_eq]; omega
            go_wp2_with fail
            refine c1.mono ?_
            rintro e w1 ⟨rfl, rfl⟩
            go_wp2_with fail
            obtain ⟨wp, rfl⟩ : ∃ wp : World, wp = wr := ⟨_, rfl⟩
            have hwp : Below w.heap.size w wp := hb
            have hR : Reads wp wp.heap.size 1 A l.length (l.map Value.string) := hr
            go_loopw [3, 8, 25] (fun v _ p wr => ∃ k : Nat, p = .int .i64 k ∧ k ≤ l.length ∧ wr.ownsRow w.heap.size 32 3 v (allUp Ls i ++ allTo Ls i j ++ (l.take k).map fun s => (i, j, s)).length (cellsQ (allUp Ls i ++ allTo Ls i j ++ (l.take k).map fun s => (i, j, s))) ∧ Below w.heap.size w wr) (fun _ _ p _ => l.length - (intOf p).toNat)
            case atStart => exact ⟨0, rfl, by omega, by simpa using hown, hb⟩
            case round =>
              clear hown hb
              obtain ⟨k, rfl, hk, hown, hb⟩ := hrel
              have hsz := hb.size
              by_cases hltk : k < l.length
              · obtain ⟨ad, e, hadb, hcs⟩ := hR.2 (by omega)
                subst e
                have hx0 := hcs k (.string l[k]) (by simp [hltk])
                have hadw : ad.block < w.heap.size := by
                  have h1 := hN.fo
                  obtain ⟨r, cap, e2, _, _⟩ := ho.form (by omega)
                  obtain ⟨rfl, rfl⟩ : ad = ⟨r, 0, none⟩ ∧ c = cap := by simpa using e2
                  exact h.fb r (h1 _ _ _ hv rfl)
                have hx : wr.cell? (ad.add k) = some (.string l[k]) := by
                  rw [← hx0, hb.cell (by rw [block_of_add]; exact hadw), hwp.cell (by rw [block_of_add]; exact hadw)]
                have hlen2 : (allUp Ls i ++ allTo Ls i j ++ (l.take k).map fun s => (i, j, s)).length ≤ 100000 := by
                  simp only [List.length_append, List.length_map, List.length_take]; omega
                have htk : (l.take (k + 1)).map (fun s => ((i, j, s) : Pc)) = (l.take k).map (fun s => ((i, j, s) : Pc)) ++ [(i, j, l[k])] := by
                  rw [List.take_succ_eq_append_getElem hltk, List.map_append]; rfl
                have HT := Lib.hid htk; clear htk
                have e4 : ∀ s, pcv (i, j, s) = [.int .i64 i, .int .i64 j, .string s] := fun _ => rfl
                have E4 := Lib.hid e4; clear e4
                generalize hX : (allUp Ls i ++ allTo Ls i j ++ (l.take k).map fun s => (i, j, s)) = X at *
                have HX := Lib.hid hX; clear hX hx0
                have hd2 : decide (k < l.length) = true := by simpa using hltk
                generalize l[k] = s at *
                go_wp2_with (at_builtin; refine wpList_append_own _ rfl (.tmp 29) (.tmp 34) 27 rfl w.heap.size 32 i0 _ 3 32 Try.underlying27 hi hz0 hz1 hz2 rfl (by decide) _ _ _ rfl (hown.alloc _) ⟨wr.heap.size, 0, none⟩ 1 1 [.int .i64 i, .int .i64 j, .string s] rfl rfl (new_cells _ _ _ _ rfl) (by simp [Value.oneCell']) (by simp only [maxLen]; omega) (by omega) (by simp only [sz_alloc]; exact Nat.le_succ_of_le hsz) ?_)
                intro v' w1 hown2 hgrow _
                have hb1 : Below w.heap.size w w1 := (hb.alloc hsz _).grown hgrow (by simp only [sz_alloc]; exact Nat.le_succ_of_le hsz) (fun k hk => (hown.lt k hk).1)
                go_wp2_with fail
                go_roundw
                case rel =>
                  refine ⟨k + 1, vint (by omega), by omega, ?_, hb1⟩
                  rw [HT.out, ← List.append_assoc, HX.out, cellsQ_snoc, List.length_append, E4.out]
                  exact hown2
                case measure => simp [intOf]; omega
              · go_wp2
                go_roundw
                case rel =>
                  obtain rfl : k = l.length := by omega
                  rw [List.take_length] at hown
                  refine ⟨j + 1, vint (by omega), by omega, ?_, hb⟩
                  rw [HS.out, ← List.append_assoc]
                  exact hown
                case measure => simp [intOf]; omega
        · go_wp2
          rw [Exit.noGoto_normal]
          go_wp2
          go_roundw
          case rel =>
            obtain rfl : j = 8 := by omega
            exact ⟨i + 1, vint (by omega), by omega, by rw [allUp_succ]; exact hown, hb⟩
          case measure => simp [intOf]; omega
    · go_wp2_with fail
      go_ret
      obtain rfl : i = 8 := by omega
      exact ⟨_, rfl, hown, hb⟩
end Go.Proofs.Ytikblgnpabonjaa
