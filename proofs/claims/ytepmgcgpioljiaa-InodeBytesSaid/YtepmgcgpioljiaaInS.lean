import Derived.Test.YtepmgcgpioljiaaInR
namespace Go.Proofs.Ytepmgcgpioljiaa
open Go.RowKit
set_option linter.unusedVariables false
attribute [local go_sem] b_max2 b_min2 b_max b_min

/-! ### the program's Check -/
set_option maxRecDepth 100000 in
theorem wrong_any (x : Int) (w : World) : Calls Try.prog 38 #[.int .i64 x] w fun e w' => e = .returned (.bool (decide (x < 0 ∨ 65535 < x))) ∧ w = w' := by
  by_cases h : x < 0
  · have hd : decide (x < 0) = true := by rw [decide_eq_true_eq]; exact h
    have he : decide (x < 0 ∨ 65535 < x) = true := by rw [decide_eq_true_eq]; exact .inl h
    rw [he]; clear he
    go_enter Try.func38, Try.ntmps38
    go_wp2_with fail
    go_ret
    exact ⟨rfl, rfl⟩
  · have hd : decide (x < 0) = false := by rw [decide_eq_false_iff_not]; exact h
    have he : decide (x < 0 ∨ 65535 < x) = decide (65535 < x) := by rw [decide_eq_decide]; simp [h]
    rw [he]; clear he
    go_enter Try.func38, Try.ntmps38
    go_wp2_with fail
    go_ret
    exact ⟨rfl, rfl⟩
set_option maxRecDepth 100000 in
set_option maxHeartbeats 1000000 in
theorem index_any (A : Option Addr) (n c : Nat) (zs : List Int) (w : World) (hn : zs.length = n) (hl : n ≤ 100000) (hr : Reads w w.heap.size 1 A n (zs.map (Value.int .i64))) :
    Calls Try.prog 53 #[.slice A n c, .func (.func 38) #[] #[]] w fun e w' => ∃ r : Int, e = .returned (.int .i64 r) ∧ (0 ≤ r ↔ ∃ z ∈ zs, z < 0 ∨ 65535 < z) ∧ w = w' := by
  go_enter Try.func53, Try.ntmps53
  go_wp2_with fail
  go_loopw [8] (fun p wr => ∃ i : Nat, p = .int .i64 i ∧ i ≤ n ∧ Hid (∀ z ∈ zs.take i, ¬ (z < 0 ∨ 65535 < z)) ∧ w = wr) (fun p _ => n - (intOf p).toNat)
  case atStart => exact ⟨0, rfl, by omega, Lib.hid (by simp), rfl⟩
  case round =>
    obtain ⟨i, rfl, hi, hpre, rfl⟩ := hrel
    by_cases hlt : i < n
    · obtain ⟨ad1, rfl, _, q1⟩ := ints_at hr hn hlt
      have e1 : zs.take (i + 1) = zs.take i ++ [zs.getD i 0] := by rw [List.take_succ_eq_append_getElem (by omega), List.getD_eq_getElem?_getD, List.getElem?_eq_getElem (by omega)]; rfl
      have hmem : zs.getD i 0 ∈ zs := by rw [List.getD_eq_getElem?_getD, List.getElem?_eq_getElem (by omega)]; exact List.getElem_mem _
      generalize zs.getD i 0 = x at *
      have hw := wrong_any x w
      by_cases hx : x < 0 ∨ 65535 < x
      · rw [decide_eq_true hx] at hw
        have hex : ∃ z ∈ zs, z < 0 ∨ 65535 < z := ⟨x, hmem, hx⟩
        have HE := Lib.hid hex; clear hex hx hmem e1
        go_wp2_with fail
        refine hw.mono ?_
        rintro e w1 ⟨rfl, rfl⟩
        go_wp2_with fail
        go_ret
        exact ⟨_, rfl, ⟨fun _ => HE.out, fun _ => by omega⟩, rfl⟩
      · rw [decide_eq_false hx] at hw
        have hnx : ∀ z ∈ zs.take (i + 1), ¬ (z < 0 ∨ 65535 < z) := by
          rw [e1]
          intro z hz
          rcases List.mem_append.1 hz with hz | hz
          · exact hpre.out z hz
          · rw [List.mem_singleton.1 hz]; exact hx
        have HE := Lib.hid hnx; clear hnx hx hmem e1
        go_wp2_with fail
        refine hw.mono ?_
        rintro e w1 ⟨rfl, rfl⟩
        go_wp2_with fail
        go_roundw
        case rel => exact ⟨i + 1, vint (by omega), by omega, HE, by first | rfl | trivial⟩
        case measure => simp [intOf]; omega
    · obtain rfl : i = n := by omega
      have hno : ¬ ∃ z ∈ zs, z < 0 ∨ 65535 < z := by
        rintro ⟨z, hz, h⟩
        have := hpre.out
        rw [List.take_of_length_le (by omega)] at this
        exact this z hz h
      have HE := Lib.hid hno; clear hno
      go_wp2_with fail
      go_ret
      exact ⟨_, rfl, ⟨fun h => by omega, fun h => absurd h HE.out⟩, rfl⟩
def anyWrong (zs : List Int) : Bool := zs.any fun z => decide (z < 0 ∨ 65535 < z)
set_option maxRecDepth 100000 in
theorem contains_any (A : Option Addr) (n c : Nat) (zs : List Int) (w : World) (hn : zs.length = n) (hl : n ≤ 100000) (hr : Reads w w.heap.size 1 A n (zs.map (Value.int .i64))) :
    Calls Try.prog 39 #[.slice A n c, .func (.func 38) #[] #[]] w fun e w' => e = .returned (.bool (anyWrong zs)) ∧ w = w' := by
  have hc := index_any A n c zs w hn hl hr
  have hb : ∀ r : Int, (0 ≤ r ↔ ∃ z ∈ zs, z < 0 ∨ 65535 < z) → decide (0 ≤ r) = anyWrong zs := by
    intro r h
    unfold anyWrong
    by_cases hh : ∃ z ∈ zs, z < 0 ∨ 65535 < z
    · rw [decide_eq_true (h.2 hh)]
      obtain ⟨z, hz, e⟩ := hh
      exact (List.any_eq_true.2 ⟨z, hz, decide_eq_true e⟩).symm
    · rw [decide_eq_false (fun e => hh (h.1 e))]
      symm
      rw [List.any_eq_false]
      intro z hz e
      exact hh ⟨z, hz, of_decide_eq_true e⟩
  generalize anyWrong zs = b at *
  have HB := Lib.hid hb; clear hb
  go_enter Try.func39, Try.ntmps39
  go_wp2_with fail
  refine hc.mono ?_
  rintro e w1 ⟨r, rfl, hr1, rfl⟩
  have he := HB.out r hr1
  have HH := Lib.hid he; clear he hr1
  go_wp2_with fail
  go_ret
  exact ⟨ret_bool HH.out, rfl⟩
set_option maxRecDepth 100000 in
set_option maxHeartbeats 4000000 in
theorem check_any (k l s : Int) (A : Option Addr) (n c : Nat) (zs : List Int) (w : World) (hs0 : -9223372036854775808 ≤ s) (hs1 : s ≤ 9223372036854775807) (hn : zs.length = n) (hl : n ≤ 100000) (hr : Reads w w.heap.size 1 A n (zs.map (Value.int .i64))) :
    Calls Try.prog 23 #[.agg #[.int .i64 k, .int .i64 l, .int .i64 s, .slice A n c]] w fun e w' => e = .returned (.int .i64 (fCheck k l s zs)) ∧ Below w.heap.size w w' := by
  have hbe : ∀ m, Below w.heap.size w ((w.alloc (.cells #[.int .i64 k, .int .i64 l, .int .i64 s, .slice A n c] 37)).drewN m) := fun m => bdrewN ((Below.refl _ w).alloc (Nat.le_refl _) _) m
  have bk : Blk (w.alloc (.cells #[.int .i64 k, .int .i64 l, .int .i64 s, .slice A n c] 37)) w.heap.size 37 #[.int .i64 k, .int .i64 l, .int .i64 s, .slice A n c] := Blk.new _ _ _
  have hrd : Reads (w.alloc (.cells #[.int .i64 k, .int .i64 l, .int .i64 s, .slice A n c] 37)) (w.alloc (.cells #[.int .i64 k, .int .i64 l, .int .i64 s, .slice A n c] 37)).heap.size 1 A n (zs.map (Value.int .i64)) := (hr.alloc (Nat.le_refl _) _).more (by simp)
  have cn : ∀ m, Calls Try.prog 13 #[.int .i64 s] ((w.alloc (.cells #[.int .i64 k, .int .i64 l, .int .i64 s, .slice A n c] 37)).drewN m) fun e w' => e = .returned (.int .i64 (need s)) ∧ ∃ j, w' = (w.alloc (.cells #[.int .i64 k, .int .i64 l, .int .i64 s, .slice A n c] 37)).drewN j := fun m => (need_any s _ hs0 hs1).mono fun e w' ⟨e1, e2⟩ => ⟨e1, m, e2.symm⟩
  have cm : ∀ m, Calls Try.prog 39 #[.slice A n c, .func (.func 38) #[] #[]] ((w.alloc (.cells #[.int .i64 k, .int .i64 l, .int .i64 s, .slice A n c] 37)).drewN m) fun e w' => e = .returned (.bool (anyWrong zs)) ∧ ∃ j, w' = (w.alloc (.cells #[.int .i64 k, .int .i64 l, .int .i64 s, .slice A n c] 37)).drewN j := fun m => (contains_any A n c zs _ hn hl (hrd.drewN m)).mono fun e w' ⟨e1, e2⟩ => ⟨e1, m, e2.symm⟩
  by_cases hk1 : k = 1
  · have k1 : (k != 1) = false := by simp [hk1]
    have k2 : (k == 2) = false := by simp [hk1]
    have HK := Lib.hid hk1; clear hk1
    by_cases hc6 : l < 1
    · have b1 : decide (l < 1) = true := by rw [decide_eq_true_eq]; omega
      have hf : fCheck k l s zs = 1 := if_neg (by rintro ⟨_, a2, _⟩; omega)
      rw [hf]
      clear bk hr hf hrd
      have CN := Lib.hid cn; have CM := Lib.hid cm; clear cn cm
      go_enter Try.func23, Try.ntmps23
      go_wp2_with fail
      go_ret
      exact ⟨rfl, hbe 0⟩
    · have b1 : decide (l < 1) = false := by rw [decide_eq_false_iff_not]; omega
      by_cases hc5 : 1000 < l
      · have b2 : decide (1000 < l) = true := by rw [decide_eq_true_eq]; omega
        have hf : fCheck k l s zs = 1 := if_neg (by rintro ⟨_, _, a3, _⟩; omega)
        rw [hf]
        clear bk hr hf hrd
        have CN := Lib.hid cn; have CM := Lib.hid cm; clear cn cm
        go_enter Try.func23, Try.ntmps23
        go_wp2_with fail
        go_ret
        exact ⟨rfl, hbe 0⟩
      · have b2 : decide (1000 < l) = false := by rw [decide_eq_false_iff_not]; omega
        by_cases hc4 : s < 0
        · have b4 : decide (s < 0) = true := by rw [decide_eq_true_eq]; omega
          have hf : fCheck k l s zs = 1 := if_neg (by rintro ⟨_, _, _, _, a5, _⟩; omega)
          rw [hf]
          clear bk hr hf hrd
          have CN := Lib.hid cn; have CM := Lib.hid cm; clear cn cm
          go_enter Try.func23, Try.ntmps23
          go_wp2_with fail
          go_quiet ((first | (go_at_call 13; exact CN.out _) | (go_at_call 39; exact CM.out _)))
          go_wp2_with fail
          go_ret
          exact ⟨rfl, hbe _⟩
        · have b4 : decide (s < 0) = false := by rw [decide_eq_false_iff_not]; omega
          by_cases hc3 : 6144 < s
          · have b5 : decide (6144 < s) = true := by rw [decide_eq_true_eq]; omega
            have hf : fCheck k l s zs = 1 := if_neg (by rintro ⟨_, _, _, _, _, a6, _⟩; omega)
            rw [hf]
            clear bk hr hf hrd
            have CN := Lib.hid cn; have CM := Lib.hid cm; clear cn cm
            go_enter Try.func23, Try.ntmps23
            go_wp2_with fail
            go_quiet ((first | (go_at_call 13; exact CN.out _) | (go_at_call 39; exact CM.out _)))
            go_wp2_with fail
            go_ret
            exact ⟨rfl, hbe _⟩
          · have b5 : decide (6144 < s) = false := by rw [decide_eq_false_iff_not]; omega
            by_cases hc2 : (n : Int) ≠ need s
            · have b6 : ((n : Int) != need s) = true := by simpa using hc2
              have hf : fCheck k l s zs = 1 := if_neg (by rintro ⟨_, _, _, _, _, _, a7, _⟩; rw [hn] at a7; exact hc2 a7)
              rw [hf]
              clear bk hr hf hrd
              have CN := Lib.hid cn; have CM := Lib.hid cm; clear cn cm
              go_enter Try.func23, Try.ntmps23
              go_wp2_with fail
              go_quiet ((first | (go_at_call 13; exact CN.out _) | (go_at_call 39; exact CM.out _)))
              go_wp2_with fail
              go_ret
              exact ⟨rfl, hbe _⟩
            · have b6 : ((n : Int) != need s) = false := by simpa using hc2
              by_cases hc1 : anyWrong zs = true
              · have b7 := hc1
                have hf : fCheck k l s zs = 1 := if_neg (by rintro ⟨_, _, _, _, _, _, _, a8, _⟩; obtain ⟨z, hz, e⟩ := List.any_eq_true.1 hc1; have := a8 z hz; have := of_decide_eq_true e; omega)
                rw [hf]
                clear bk hr hf hrd
                have CN := Lib.hid cn; have CM := Lib.hid cm; clear cn cm
                go_enter Try.func23, Try.ntmps23
                go_wp2_with fail
                go_quiet ((first | (go_at_call 13; exact CN.out _) | (go_at_call 39; exact CM.out _)))
                go_wp2_with fail
                go_ret
                exact ⟨rfl, hbe _⟩
              · have b7 : anyWrong zs = false := by simpa using hc1
                have hfc : fCheck k l s zs = if zs.Nodup then 0 else 1 := by
                  unfold fCheck
                  have e1 : (zs.length : Int) = need s := by rw [hn]; exact Classical.not_not.1 hc2
                  have e2 : ∀ z ∈ zs, 0 ≤ z ∧ z ≤ 65535 := by
                    intro z hz
                    have h0 : anyWrong zs = false := by simpa using hc1
                    have := (List.any_eq_false.1 h0) z hz
                    rw [decide_eq_true_eq] at this
                    omega
                  by_cases hq : zs.Nodup
                  · rw [if_pos hq, if_pos ⟨.inl HK.out, by omega, by omega, .inl (by have := HK.out; omega), by omega, by omega, e1, e2, hq⟩]
                  · rw [if_neg hq, if_neg (fun e => hq e.2.2.2.2.2.2.2.2)]
                rw [hfc]
                generalize hres : (if zs.Nodup then (0 : Int) else 1) = res
                have HR := Lib.hid hres; clear hres
                have hcn := compact_nodup zs
                have hbe2 := hbe 0
                have hlk := bk.lt
                have hsrt := srt_len zs
                have CN := Lib.hid cn; have CM := Lib.hid cm; clear cn cm hfc hc1 hc2
                have HCN := Lib.hid hcn; clear hcn
                have bkd := Blk.drewN bk
                have hrd2 := hrd.drewN
                go_enter Try.func23, Try.ntmps23
                go_wp2_with fail
                go_quiet ((first | (go_at_call 13; exact CN.out _) | (go_at_call 39; exact CM.out _)))
                clear CN CM
                have bk2 := bkd nq
                have hr2 := hrd2 nq
                have hb2 := hbe nq
                have hz2 : ((w.alloc (.cells #[.int .i64 k, .int .i64 l, .int .i64 s, .slice A n c] 37)).drewN nq).heap.size = w.heap.size + 1 := by simp
                rw [← show ((w.alloc (.cells #[.int .i64 k, .int .i64 l, .int .i64 s, .slice A n c] 37)).drewN nq).heap.size = (w.alloc (.cells #[.int .i64 k, .int .i64 l, .int .i64 s, .slice A n c] 37)).heap.size by simp] at hr2
                generalize (w.alloc (.cells #[.int .i64 k, .int .i64 l, .int .i64 s, .slice A n c] 37)).drewN nq = w2 at *
                clear bk bkd hbe hbe2 hrd hrd2 hlk
                have a3 : w2.cell? ⟨w.heap.size, 3, none⟩ = some (.slice A n c) := bk2.cell 3
                have hsc := sorted_call A n c zs hn hl w2 hr2
                rw [hz2] at hsc
                have hvc := (callsIn_wide (n := 5)).1 (vals_in Fence.wide 5 trivial rfl A n c w2)
                go_wp2_with fail
                refine hvc.mono ?_
                rintro e w3 ⟨rfl, rfl⟩
                go_wp2_with fail
                refine hsc.mono ?_
                rintro e w4 ⟨v, rfl, hrow, hb4⟩
                have bk4 := bk2.below hb4 (Nat.lt_succ_self _)
                rw [hsrt, hn] at hrow
                have b4 := a3
                have a4 : w4.cell? ⟨w.heap.size, 3, none⟩ = some (.slice A n c) := bk4.cell 3
                obtain ⟨A', c', e5, _, _⟩ := Reads.of_own hrow
                have hcc := compact_call (w := w4.drewN 1) hrow (hsrt.trans hn) hl
                have hbd := hb2.trans (hb4.mono (by omega))
                have hob : ∀ j, v.ownBlock = some j → w.heap.size + 1 ≤ j := fun j e => by have := (hrow.lt j e).1; omega
                have hb4s := hbd.size
                clear hsc hvc a3 b4 hr2 bk2 hb2 hsrt
                subst e5
                have HRW := Lib.hid hrow; clear hrow
                have bk4d := bk4.drewN 1
                go_wp2_with fail
                go_region_held3 (fun w' => w'.cell? ⟨w.heap.size, 3, none⟩ = some (.slice A n c)) (go_keep)
                  (first | (go_at_call 42; refine hcc.mono ?_; rintro e w5 ⟨p5, c5, rfl, hg5⟩; have bk5 := bk4d.grown hg5 (fun e => by have := hob _ e.symm; omega); have a5 : w5.cell? ⟨w.heap.size, 3, none⟩ = some (.slice A n c) := bk5.cell 3))
                all_goals
                  have hfin : Below w.heap.size w w5 := (bdrewN hbd 1).grown hg5 hb4s (fun j e => by have := hob j e; omega)
                  have HF := Lib.hid hfin
                  have hcl := HCN.out
                  generalize (Lib.compact (srt zs)).length = m at *
                  by_cases hq : zs.Nodup
                  · have hm : m = n := by rw [← hn]; exact hcl.2 hq
                    have hif : res = 0 := by rw [← HR.out]; exact if_pos hq
                    have HI := Lib.hid hif
                    have hmn : ((m : Int) != (n : Int)) = false := by simp [hm]
                    clear hcl hq hm hif hfin hcc hg5
                    go_wp2_with fail
                    go_ret
                    exact ⟨ret_int HI.out.symm, HF.out⟩
                  · have hm : m ≠ n := fun e => hq (hcl.1 (by rw [hn]; exact e))
                    have hif : res = 1 := by rw [← HR.out]; exact if_neg hq
                    have HI := Lib.hid hif
                    have hmn : ((m : Int) != (n : Int)) = true := by simpa using (fun e => hm (by omega))
                    clear hcl hq hm hif hfin hcc hg5
                    go_wp2_with fail
                    go_ret
                    exact ⟨ret_int HI.out.symm, HF.out⟩
  · have k1 : (k != 1) = true := by simp [hk1]
    by_cases hk2 : k = 2
    · have k2 : (k != 2) = false := by simp [hk2]
      have k3 : (k == 2) = true := by simp [hk2]
      have HK := Lib.hid hk2; clear hk1 hk2
      by_cases hc7 : l < 1
      · have b1 : decide (l < 1) = true := by rw [decide_eq_true_eq]; omega
        have hf : fCheck k l s zs = 1 := if_neg (by rintro ⟨_, a2, _⟩; omega)
        rw [hf]
        clear bk hr hf hrd
        have CN := Lib.hid cn; have CM := Lib.hid cm; clear cn cm
        go_enter Try.func23, Try.ntmps23
        go_wp2_with fail
        go_ret
        exact ⟨rfl, hbe 0⟩
      · have b1 : decide (l < 1) = false := by rw [decide_eq_false_iff_not]; omega
        by_cases hc6 : 1000 < l
        · have b2 : decide (1000 < l) = true := by rw [decide_eq_true_eq]; omega
          have hf : fCheck k l s zs = 1 := if_neg (by rintro ⟨_, _, a3, _⟩; omega)
          rw [hf]
          clear bk hr hf hrd
          have CN := Lib.hid cn; have CM := Lib.hid cm; clear cn cm
          go_enter Try.func23, Try.ntmps23
          go_wp2_with fail
          go_ret
          exact ⟨rfl, hbe 0⟩
        · have b2 : decide (1000 < l) = false := by rw [decide_eq_false_iff_not]; omega
          by_cases hc5 : l ≠ 1
          · have b3 : (l != 1) = true := by simp; omega
            have hf : fCheck k l s zs = 1 := if_neg (by rintro ⟨_, _, _, a4, _⟩; have := HK.out; omega)
            rw [hf]
            clear bk hr hf hrd
            have CN := Lib.hid cn; have CM := Lib.hid cm; clear cn cm
            go_enter Try.func23, Try.ntmps23
            go_wp2_with fail
            go_ret
            exact ⟨rfl, hbe 0⟩
          · have b3 : (l != 1) = false := by simp; omega
            by_cases hc4 : s < 0
            · have b4 : decide (s < 0) = true := by rw [decide_eq_true_eq]; omega
              have hf : fCheck k l s zs = 1 := if_neg (by rintro ⟨_, _, _, _, a5, _⟩; omega)
              rw [hf]
              clear bk hr hf hrd
              have CN := Lib.hid cn; have CM := Lib.hid cm; clear cn cm
              go_enter Try.func23, Try.ntmps23
              go_wp2_with fail
              go_quiet ((first | (go_at_call 13; exact CN.out _) | (go_at_call 39; exact CM.out _)))
              go_wp2_with fail
              go_ret
              exact ⟨rfl, hbe _⟩
            · have b4 : decide (s < 0) = false := by rw [decide_eq_false_iff_not]; omega
              by_cases hc3 : 6144 < s
              · have b5 : decide (6144 < s) = true := by rw [decide_eq_true_eq]; omega
                have hf : fCheck k l s zs = 1 := if_neg (by rintro ⟨_, _, _, _, _, a6, _⟩; omega)
                rw [hf]
                clear bk hr hf hrd
                have CN := Lib.hid cn; have CM := Lib.hid cm; clear cn cm
                go_enter Try.func23, Try.ntmps23
                go_wp2_with fail
                go_quiet ((first | (go_at_call 13; exact CN.out _) | (go_at_call 39; exact CM.out _)))
                go_wp2_with fail
                go_ret
                exact ⟨rfl, hbe _⟩
              · have b5 : decide (6144 < s) = false := by rw [decide_eq_false_iff_not]; omega
                by_cases hc2 : (n : Int) ≠ need s
                · have b6 : ((n : Int) != need s) = true := by simpa using hc2
                  have hf : fCheck k l s zs = 1 := if_neg (by rintro ⟨_, _, _, _, _, _, a7, _⟩; rw [hn] at a7; exact hc2 a7)
                  rw [hf]
                  clear bk hr hf hrd
                  have CN := Lib.hid cn; have CM := Lib.hid cm; clear cn cm
                  go_enter Try.func23, Try.ntmps23
                  go_wp2_with fail
                  go_quiet ((first | (go_at_call 13; exact CN.out _) | (go_at_call 39; exact CM.out _)))
                  go_wp2_with fail
                  go_ret
                  exact ⟨rfl, hbe _⟩
                · have b6 : ((n : Int) != need s) = false := by simpa using hc2
                  by_cases hc1 : anyWrong zs = true
                  · have b7 := hc1
                    have hf : fCheck k l s zs = 1 := if_neg (by rintro ⟨_, _, _, _, _, _, _, a8, _⟩; obtain ⟨z, hz, e⟩ := List.any_eq_true.1 hc1; have := a8 z hz; have := of_decide_eq_true e; omega)
                    rw [hf]
                    clear bk hr hf hrd
                    have CN := Lib.hid cn; have CM := Lib.hid cm; clear cn cm
                    go_enter Try.func23, Try.ntmps23
                    go_wp2_with fail
                    go_quiet ((first | (go_at_call 13; exact CN.out _) | (go_at_call 39; exact CM.out _)))
                    go_wp2_with fail
                    go_ret
                    exact ⟨rfl, hbe _⟩
                  · have b7 : anyWrong zs = false := by simpa using hc1
                    have hfc : fCheck k l s zs = if zs.Nodup then 0 else 1 := by
                      unfold fCheck
                      have e1 : (zs.length : Int) = need s := by rw [hn]; exact Classical.not_not.1 hc2
                      have e2 : ∀ z ∈ zs, 0 ≤ z ∧ z ≤ 65535 := by
                        intro z hz
                        have h0 : anyWrong zs = false := by simpa using hc1
                        have := (List.any_eq_false.1 h0) z hz
                        rw [decide_eq_true_eq] at this
                        omega
                      by_cases hq : zs.Nodup
                      · rw [if_pos hq, if_pos ⟨.inr HK.out, by omega, by omega, .inr (by omega), by omega, by omega, e1, e2, hq⟩]
                      · rw [if_neg hq, if_neg (fun e => hq e.2.2.2.2.2.2.2.2)]
                    rw [hfc]
                    generalize hres : (if zs.Nodup then (0 : Int) else 1) = res
                    have HR := Lib.hid hres; clear hres
                    have hcn := compact_nodup zs
                    have hbe2 := hbe 0
                    have hlk := bk.lt
                    have hsrt := srt_len zs
                    have CN := Lib.hid cn; have CM := Lib.hid cm; clear cn cm hfc hc1 hc2
                    have HCN := Lib.hid hcn; clear hcn
                    have bkd := Blk.drewN bk
                    have hrd2 := hrd.drewN
                    go_enter Try.func23, Try.ntmps23
                    go_wp2_with fail
                    go_quiet ((first | (go_at_call 13; exact CN.out _) | (go_at_call 39; exact CM.out _)))
                    clear CN CM
                    have bk2 := bkd nq
                    have hr2 := hrd2 nq
                    have hb2 := hbe nq
                    have hz2 : ((w.alloc (.cells #[.int .i64 k, .int .i64 l, .int .i64 s, .slice A n c] 37)).drewN nq).heap.size = w.heap.size + 1 := by simp
                    rw [← show ((w.alloc (.cells #[.int .i64 k, .int .i64 l, .int .i64 s, .slice A n c] 37)).drewN nq).heap.size = (w.alloc (.cells #[.int .i64 k, .int .i64 l, .int .i64 s, .slice A n c] 37)).heap.size by simp] at hr2
                    generalize (w.alloc (.cells #[.int .i64 k, .int .i64 l, .int .i64 s, .slice A n c] 37)).drewN nq = w2 at *
                    clear bk bkd hbe hbe2 hrd hrd2 hlk
                    have a3 : w2.cell? ⟨w.heap.size, 3, none⟩ = some (.slice A n c) := bk2.cell 3
                    have hsc := sorted_call A n c zs hn hl w2 hr2
                    rw [hz2] at hsc
                    have hvc := (callsIn_wide (n := 5)).1 (vals_in Fence.wide 5 trivial rfl A n c w2)
                    go_wp2_with fail
                    refine hvc.mono ?_
                    rintro e w3 ⟨rfl, rfl⟩
                    go_wp2_with fail
                    refine hsc.mono ?_
                    rintro e w4 ⟨v, rfl, hrow, hb4⟩
                    have bk4 := bk2.below hb4 (Nat.lt_succ_self _)
                    rw [hsrt, hn] at hrow
                    have b4 := a3
                    have a4 : w4.cell? ⟨w.heap.size, 3, none⟩ = some (.slice A n c) := bk4.cell 3
                    obtain ⟨A', c', e5, _, _⟩ := Reads.of_own hrow
                    have hcc := compact_call (w := w4.drewN 1) hrow (hsrt.trans hn) hl
                    have hbd := hb2.trans (hb4.mono (by omega))
                    have hob : ∀ j, v.ownBlock = some j → w.heap.size + 1 ≤ j := fun j e => by have := (hrow.lt j e).1; omega
                    have hb4s := hbd.size
                    clear hsc hvc a3 b4 hr2 bk2 hb2 hsrt
                    subst e5
                    have HRW := Lib.hid hrow; clear hrow
                    have bk4d := bk4.drewN 1
                    go_wp2_with fail
                    go_region_held3 (fun w' => w'.cell? ⟨w.heap.size, 3, none⟩ = some (.slice A n c)) (go_keep)
                      (first | (go_at_call 42; refine hcc.mono ?_; rintro e w5 ⟨p5, c5, rfl, hg5⟩; have bk5 := bk4d.grown hg5 (fun e => by have := hob _ e.symm; omega); have a5 : w5.cell? ⟨w.heap.size, 3, none⟩ = some (.slice A n c) := bk5.cell 3))
                    all_goals
                      have hfin : Below w.heap.size w w5 := (bdrewN hbd 1).grown hg5 hb4s (fun j e => by have := hob j e; omega)
                      have HF := Lib.hid hfin
                      have hcl := HCN.out
                      generalize (Lib.compact (srt zs)).length = m at *
                      by_cases hq : zs.Nodup
                      · have hm : m = n := by rw [← hn]; exact hcl.2 hq
                        have hif : res = 0 := by rw [← HR.out]; exact if_pos hq
                        have HI := Lib.hid hif
                        have hmn : ((m : Int) != (n : Int)) = false := by simp [hm]
                        clear hcl hq hm hif hfin hcc hg5
                        go_wp2_with fail
                        go_ret
                        exact ⟨ret_int HI.out.symm, HF.out⟩
                      · have hm : m ≠ n := fun e => hq (hcl.1 (by rw [hn]; exact e))
                        have hif : res = 1 := by rw [← HR.out]; exact if_neg hq
                        have HI := Lib.hid hif
                        have hmn : ((m : Int) != (n : Int)) = true := by simpa using (fun e => hm (by omega))
                        clear hcl hq hm hif hfin hcc hg5
                        go_wp2_with fail
                        go_ret
                        exact ⟨ret_int HI.out.symm, HF.out⟩
    · have k2 : (k != 2) = true := by simp [hk2]
      have hf : fCheck k l s zs = 1 := if_neg (by rintro ⟨a1, _⟩; omega)
      rw [hf]
      clear bk hr hf hrd
      have CN := Lib.hid cn; have CM := Lib.hid cm; clear cn cm
      go_enter Try.func23, Try.ntmps23
      go_wp2_with fail
      go_ret
      exact ⟨rfl, hbe 0⟩
end Go.Proofs.Ytepmgcgpioljiaa

