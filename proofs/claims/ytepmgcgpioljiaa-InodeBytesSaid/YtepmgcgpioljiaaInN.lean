import Derived.Test.YtepmgcgpioljiaaInM
namespace Go.Proofs.Ytepmgcgpioljiaa
open Go.RowKit
set_option linter.unusedVariables false
attribute [local go_sem] b_max2 b_min2 b_max b_min

/-- which inodes may be -/
def fCheck (k l s : Int) (zs : List Int) : Int := if (k = 1 ∨ k = 2) ∧ 1 ≤ l ∧ l ≤ 1000 ∧ (k ≠ 2 ∨ l = 1) ∧ 0 ≤ s ∧ s ≤ 6144 ∧ (zs.length : Int) = need s ∧ (∀ z ∈ zs, 0 ≤ z ∧ z ≤ 65535) ∧ zs.Nodup then 0 else 1
set_option maxRecDepth 100000 in
set_option maxHeartbeats 4000000 in
theorem rcheck_any (k l s : Int) (A : Option Addr) (n c : Nat) (zs : List Int) (w : World) (hs0 : -9223372036854775808 ≤ s) (hs1 : s ≤ 9223372036854775807) (hn : zs.length = n) (hl : n ≤ 100000) (hr : Reads w w.heap.size 1 A n (zs.map (Value.int .i64))) :
    Calls Try.prog 24 #[.agg #[.int .i64 k, .int .i64 l, .int .i64 s, .slice A n c]] w fun e w' => e = .returned (.int .i64 (fCheck k l s zs)) ∧ Below w.heap.size w w' := by
  have hbe : ∀ m, Below w.heap.size w ((w.alloc (.cells #[.int .i64 k, .int .i64 l, .int .i64 s, .slice A n c] 37)).drewN m) := fun m => bdrewN ((Below.refl _ w).alloc (Nat.le_refl _) _) m
  have bk : Blk (w.alloc (.cells #[.int .i64 k, .int .i64 l, .int .i64 s, .slice A n c] 37)) w.heap.size 37 #[.int .i64 k, .int .i64 l, .int .i64 s, .slice A n c] := Blk.new _ _ _
  have cn : ∀ m, Calls Try.prog 14 #[.int .i64 s] ((w.alloc (.cells #[.int .i64 k, .int .i64 l, .int .i64 s, .slice A n c] 37)).drewN m) fun e w' => e = .returned (.int .i64 (need s)) ∧ ∃ j, w' = (w.alloc (.cells #[.int .i64 k, .int .i64 l, .int .i64 s, .slice A n c] 37)).drewN j := fun m => (rneed_any s _ hs0 hs1).mono fun e w' ⟨e1, e2⟩ => ⟨e1, m, e2.symm⟩
  by_cases hk1 : k = 1
  · have k1 : (k != 1) = false := by simp [hk1]
    have k2 : (k == 2) = false := by simp [hk1]
    have HK := Lib.hid hk1; clear hk1
    by_cases hc5 : l < 1
    · have b1 : decide (l < 1) = true := by rw [decide_eq_true_eq]; omega
      have hf : fCheck k l s zs = 1 := if_neg (by rintro ⟨_, a2, _⟩; omega)
      rw [hf]
      clear bk hr hf
      have CN := Lib.hid cn; clear cn
      go_enter Try.func24, Try.ntmps24
      go_wp2_with fail
      go_quiet ((first | (go_at_call 14; exact CN.out _)))
      go_wp2_with fail
      go_ret
      exact ⟨rfl, hbe _⟩
    · have b1 : decide (l < 1) = false := by rw [decide_eq_false_iff_not]; omega
      by_cases hc4 : 1000 < l
      · have b2 : decide (1000 < l) = true := by rw [decide_eq_true_eq]; omega
        have hf : fCheck k l s zs = 1 := if_neg (by rintro ⟨_, _, a3, _⟩; omega)
        rw [hf]
        clear bk hr hf
        have CN := Lib.hid cn; clear cn
        go_enter Try.func24, Try.ntmps24
        go_wp2_with fail
        go_quiet ((first | (go_at_call 14; exact CN.out _)))
        go_wp2_with fail
        go_ret
        exact ⟨rfl, hbe _⟩
      · have b2 : decide (1000 < l) = false := by rw [decide_eq_false_iff_not]; omega
        by_cases hc3 : s < 0
        · have b4 : decide (s < 0) = true := by rw [decide_eq_true_eq]; omega
          have hf : fCheck k l s zs = 1 := if_neg (by rintro ⟨_, _, _, _, a5, _⟩; omega)
          rw [hf]
          clear bk hr hf
          have CN := Lib.hid cn; clear cn
          go_enter Try.func24, Try.ntmps24
          go_wp2_with fail
          go_quiet ((first | (go_at_call 14; exact CN.out _)))
          go_wp2_with fail
          go_ret
          exact ⟨rfl, hbe _⟩
        · have b4 : decide (s < 0) = false := by rw [decide_eq_false_iff_not]; omega
          by_cases hc2 : 6144 < s
          · have b5 : decide (6144 < s) = true := by rw [decide_eq_true_eq]; omega
            have hf : fCheck k l s zs = 1 := if_neg (by rintro ⟨_, _, _, _, _, a6, _⟩; omega)
            rw [hf]
            clear bk hr hf
            have CN := Lib.hid cn; clear cn
            go_enter Try.func24, Try.ntmps24
            go_wp2_with fail
            go_quiet ((first | (go_at_call 14; exact CN.out _)))
            go_wp2_with fail
            go_ret
            exact ⟨rfl, hbe _⟩
          · have b5 : decide (6144 < s) = false := by rw [decide_eq_false_iff_not]; omega
            by_cases hc1 : (n : Int) ≠ need s
            · have b6 : ((n : Int) != need s) = true := by simpa using hc1
              have hf : fCheck k l s zs = 1 := if_neg (by rintro ⟨_, _, _, _, _, _, a7, _⟩; rw [hn] at a7; exact hc1 a7)
              rw [hf]
              clear bk hr hf
              have CN := Lib.hid cn; clear cn
              go_enter Try.func24, Try.ntmps24
              go_wp2_with fail
              go_quiet ((first | (go_at_call 14; exact CN.out _)))
              go_wp2_with fail
              go_ret
              exact ⟨rfl, hbe _⟩
            · have b6 : ((n : Int) != need s) = false := by simpa using hc1
              have hfc : fCheck k l s zs = if (∀ z ∈ zs, 0 ≤ z ∧ z ≤ 65535) ∧ zs.Nodup then 0 else 1 := by
                unfold fCheck
                have e1 : (zs.length : Int) = need s := by rw [hn]; exact Classical.not_not.1 hc1
                by_cases hq : (∀ z ∈ zs, 0 ≤ z ∧ z ≤ 65535) ∧ zs.Nodup
                · rw [if_pos hq, if_pos ⟨.inl HK.out, by omega, by omega, .inl (by have := HK.out; omega), by omega, by omega, e1, hq⟩]
                · rw [if_neg hq, if_neg (fun e => hq e.2.2.2.2.2.2.2)]
              rw [hfc]
              generalize hres : (if (∀ z ∈ zs, 0 ≤ z ∧ z ≤ 65535) ∧ zs.Nodup then (0 : Int) else 1) = res
              have HR := Lib.hid hres; clear hres hfc hc1
              have CN := Lib.hid cn; clear cn
              have hlk := bk.lt
              go_enter Try.func24, Try.ntmps24
              go_wp2_with fail
              go_quiet ((first | (go_at_call 14; exact CN.out _)))
              clear CN
              go_upto_block 0 with (fail)
              have bkd : ∀ m, Blk ((w.alloc (.cells #[.int .i64 k, .int .i64 l, .int .i64 s, .slice A n c] 37)).drewN m) w.heap.size 37 #[.int .i64 k, .int .i64 l, .int .i64 s, .slice A n c] := fun m => bk.drewN m
              generalize hw2 : (w.alloc (.cells #[.int .i64 k, .int .i64 l, .int .i64 s, .slice A n c] 37)).drewN nq = w2 at *
              have bk2 : Blk w2 w.heap.size 37 #[.int .i64 k, .int .i64 l, .int .i64 s, .slice A n c] := by rw [← hw2]; exact bkd nq
              have hb2 : Below w.heap.size w w2 := by rw [← hw2]; exact hbe nq
              clear bk bkd hbe hw2 hlk
              have hlk := bk2.lt
              have hgs := hb2.size
              generalize hg : w.heap.size = g at *
              replace hg := Lib.hid hg
              go_wp2_with fail
              go_loopw [3] (fun p wr => ∃ i : Nat, p = .int .i64 i ∧ i ≤ n ∧ Hid ((∀ z ∈ zs.take i, 0 ≤ z ∧ z ≤ 65535) ∧ (zs.take i).Nodup) ∧ Below w2.heap.size w2 wr) (fun p _ => n - (intOf p).toNat)
              case atStart => exact ⟨0, rfl, by omega, Lib.hid (by simp), Below.refl _ _⟩
              case round =>
                obtain ⟨i, rfl, hi, hpre, hb⟩ := hrel
                have a3 : wr.cell? ⟨g, 3, none⟩ = some (.slice A n c) := (bk2.below hb hlk).cell 3
                have hbw : Below g w wr := hb2.trans (hb.mono hgs)
                by_cases hlt : i < n
                · obtain ⟨ad1, rfl, _, q1⟩ := ints_at (hr.below hbw) hn hlt
                  have e1 : zs.take (i + 1) = zs.take i ++ [zs.getD i 0] := by rw [List.take_succ_eq_append_getElem (by omega), List.getD_eq_getElem?_getD, List.getElem?_eq_getElem (by omega)]; rfl
                  have hmem : zs.getD i 0 ∈ zs := by rw [List.getD_eq_getElem?_getD, List.getElem?_eq_getElem (by omega)]; exact List.getElem_mem _
                  have hdup : ∀ j, j < i → zs.getD j 0 = zs.getD i 0 → ¬ zs.Nodup := by
                    intro j hj e hnd
                    have := List.pairwise_iff_getElem.1 hnd j i (by omega) (by omega) hj
                    apply this
                    rw [List.getD_eq_getElem?_getD, List.getElem?_eq_getElem (by omega), List.getD_eq_getElem?_getD, List.getElem?_eq_getElem (by omega)] at e
                    exact e
                  generalize zs.getD i 0 = x at *
                  have HE := Lib.hid (And.intro e1 (And.intro hmem hdup)); clear e1 hmem hdup
                  by_cases hx0 : x < 0
                  · have hd0 : decide (x < 0) = true := by rw [decide_eq_true_eq]; exact hx0
                    have hres : res = 1 := by rw [← HR.out]; exact if_neg (fun e => by have := e.1 x HE.out.2.1; omega)
                    have HS := Lib.hid hres; clear hres
                    go_wp2_with fail
                    go_ret
                    exact ⟨ret_int HS.out.symm, by rw [hg.out]; exact hbw⟩
                  · have hd0 : decide (x < 0) = false := by rw [decide_eq_false_iff_not]; exact hx0
                    by_cases hx1 : 65535 < x
                    · have hd1 : decide (65535 < x) = true := by rw [decide_eq_true_eq]; exact hx1
                      have hres : res = 1 := by rw [← HR.out]; exact if_neg (fun e => by have := e.1 x HE.out.2.1; omega)
                      have HS := Lib.hid hres; clear hres
                      go_wp2_with fail
                      go_ret
                      exact ⟨ret_int HS.out.symm, by rw [hg.out]; exact hbw⟩
                    · have hd1 : decide (65535 < x) = false := by rw [decide_eq_false_iff_not]; exact hx1
                      go_wp2_with fail
                      go_loopw [4] (fun p wr => ∃ j : Nat, p = .int .i64 j ∧ j ≤ i ∧ Hid (∀ z ∈ zs.take j, z ≠ x) ∧ Below w2.heap.size w2 wr) (fun p _ => i - (intOf p).toNat)
                      case atStart => exact ⟨0, rfl, by omega, Lib.hid (by simp), hb⟩
                      case round =>
                        clear hb hbw a3 q1
                        obtain ⟨j, rfl, hj, hpj, hb⟩ := hrel
                        have a3 : wr.cell? ⟨g, 3, none⟩ = some (.slice (some ad1) n c) := (bk2.below hb hlk).cell 3
                        have hbw : Below g w wr := hb2.trans (hb.mono hgs)
                        by_cases hltj : j < i
                        · obtain ⟨ad2, e2, _, q1⟩ := ints_at (hr.below hbw) hn hlt
                          obtain rfl := Option.some.inj e2
                          obtain ⟨ad3, e3, _, q2⟩ := ints_at (hr.below hbw) hn (show j < n by omega)
                          obtain rfl := Option.some.inj e3
                          have hxx : zs.getD i 0 = x := by
                            have h1 := HE.out.1
                            have h2 : zs.take (i + 1) = zs.take i ++ [zs.getD i 0] := by rw [List.take_succ_eq_append_getElem (by omega), List.getD_eq_getElem?_getD, List.getElem?_eq_getElem (by omega)]; rfl
                            rw [h2] at h1
                            simpa using List.append_cancel_left h1
                          rw [hxx] at q1
                          have e4 : zs.take (j + 1) = zs.take j ++ [zs.getD j 0] := by rw [List.take_succ_eq_append_getElem (by omega), List.getD_eq_getElem?_getD, List.getElem?_eq_getElem (by omega)]; rfl
                          have hdj := HE.out.2.2 j hltj
                          clear e2 e3 hxx
                          generalize zs.getD j 0 = y at *
                          have H4 := Lib.hid (And.intro e4 hdj); clear e4 hdj
                          by_cases hyx : y = x
                          · have hcc : (y == x) = true := by simp [hyx]
                            have hres : res = 1 := by rw [← HR.out]; exact if_neg (fun e => H4.out.2 hyx e.2)
                            have HS := Lib.hid hres; clear hres hyx
                            go_wp2_with fail
                            go_quiet (fail)
                            go_wp2_with fail
                            go_ret
                            exact ⟨ret_int HS.out.symm, by rw [hg.out]; exact bdrewN hbw _⟩
                          · have hcc : (y == x) = false := by simp [hyx]
                            have HY := Lib.hid hyx; clear hyx
                            go_wp2_with fail
                            go_quiet (fail)
                            go_wp2_with fail
                            go_roundw
                            case rel => exact ⟨j + 1, vint (by omega), by omega, Lib.hid (by
                              rw [H4.out.1]
                              intro z hz
                              rcases List.mem_append.1 hz with hz | hz
                              · exact hpj.out z hz
                              · rw [List.mem_singleton.1 hz]; exact HY.out), bdrewN hb _⟩
                            case measure => simp [intOf]; omega
                        · obtain rfl : j = i := by omega
                          have hnx : Hid ((∀ z ∈ zs.take (j + 1), 0 ≤ z ∧ z ≤ 65535) ∧ (zs.take (j + 1)).Nodup) := Lib.hid (by
                            rw [HE.out.1]
                            refine ⟨fun z hz => ?_, ?_⟩
                            · rcases List.mem_append.1 hz with hz | hz
                              · exact hpre.out.1 z hz
                              · rw [List.mem_singleton.1 hz]; omega
                            · rw [List.nodup_append]
                              exact ⟨hpre.out.2, by simp, fun a ha b hb2 => by rw [List.mem_singleton.1 hb2]; exact hpj.out a ha⟩)
                          go_wp2_with fail
                          go_roundw
                          case rel => exact ⟨j + 1, vint (by omega), by omega, hnx, hb⟩
                          case measure => simp [intOf]; omega
                · obtain rfl : i = n := by omega
                  have hres : res = 0 := by
                    rw [← HR.out]
                    have := hpre.out
                    rw [List.take_of_length_le (by omega)] at this
                    exact if_pos this
                  have HS := Lib.hid hres; clear hres
                  go_wp2_with fail
                  go_ret
                  exact ⟨ret_int HS.out.symm, by rw [hg.out]; exact hbw⟩
  · have k1 : (k != 1) = true := by simp [hk1]
    by_cases hk2 : k = 2
    · have k2 : (k != 2) = false := by simp [hk2]
      have k3 : (k == 2) = true := by simp [hk2]
      have HK := Lib.hid hk2; clear hk1 hk2
      by_cases hc6 : l < 1
      · have b1 : decide (l < 1) = true := by rw [decide_eq_true_eq]; omega
        have hf : fCheck k l s zs = 1 := if_neg (by rintro ⟨_, a2, _⟩; omega)
        rw [hf]
        clear bk hr hf
        have CN := Lib.hid cn; clear cn
        go_enter Try.func24, Try.ntmps24
        go_wp2_with fail
        go_quiet ((first | (go_at_call 14; exact CN.out _)))
        go_wp2_with fail
        go_ret
        exact ⟨rfl, hbe _⟩
      · have b1 : decide (l < 1) = false := by rw [decide_eq_false_iff_not]; omega
        by_cases hc5 : 1000 < l
        · have b2 : decide (1000 < l) = true := by rw [decide_eq_true_eq]; omega
          have hf : fCheck k l s zs = 1 := if_neg (by rintro ⟨_, _, a3, _⟩; omega)
          rw [hf]
          clear bk hr hf
          have CN := Lib.hid cn; clear cn
          go_enter Try.func24, Try.ntmps24
          go_wp2_with fail
          go_quiet ((first | (go_at_call 14; exact CN.out _)))
          go_wp2_with fail
          go_ret
          exact ⟨rfl, hbe _⟩
        · have b2 : decide (1000 < l) = false := by rw [decide_eq_false_iff_not]; omega
          by_cases hc4 : l ≠ 1
          · have b3 : (l != 1) = true := by simp; omega
            have hf : fCheck k l s zs = 1 := if_neg (by rintro ⟨_, _, _, a4, _⟩; have := HK.out; omega)
            rw [hf]
            clear bk hr hf
            have CN := Lib.hid cn; clear cn
            go_enter Try.func24, Try.ntmps24
            go_wp2_with fail
            go_quiet ((first | (go_at_call 14; exact CN.out _)))
            go_wp2_with fail
            go_ret
            exact ⟨rfl, hbe _⟩
          · have b3 : (l != 1) = false := by simp; omega
            by_cases hc3 : s < 0
            · have b4 : decide (s < 0) = true := by rw [decide_eq_true_eq]; omega
              have hf : fCheck k l s zs = 1 := if_neg (by rintro ⟨_, _, _, _, a5, _⟩; omega)
              rw [hf]
              clear bk hr hf
              have CN := Lib.hid cn; clear cn
              go_enter Try.func24, Try.ntmps24
              go_wp2_with fail
              go_quiet ((first | (go_at_call 14; exact CN.out _)))
              go_wp2_with fail
              go_ret
              exact ⟨rfl, hbe _⟩
            · have b4 : decide (s < 0) = false := by rw [decide_eq_false_iff_not]; omega
              by_cases hc2 : 6144 < s
              · have b5 : decide (6144 < s) = true := by rw [decide_eq_true_eq]; omega
                have hf : fCheck k l s zs = 1 := if_neg (by rintro ⟨_, _, _, _, _, a6, _⟩; omega)
                rw [hf]
                clear bk hr hf
                have CN := Lib.hid cn; clear cn
                go_enter Try.func24, Try.ntmps24
                go_wp2_with fail
                go_quiet ((first | (go_at_call 14; exact CN.out _)))
                go_wp2_with fail
                go_ret
                exact ⟨rfl, hbe _⟩
              · have b5 : decide (6144 < s) = false := by rw [decide_eq_false_iff_not]; omega
                by_cases hc1 : (n : Int) ≠ need s
                · have b6 : ((n : Int) != need s) = true := by simpa using hc1
                  have hf : fCheck k l s zs = 1 := if_neg (by rintro ⟨_, _, _, _, _, _, a7, _⟩; rw [hn] at a7; exact hc1 a7)
                  rw [hf]
                  clear bk hr hf
                  have CN := Lib.hid cn; clear cn
                  go_enter Try.func24, Try.ntmps24
                  go_wp2_with fail
                  go_quiet ((first | (go_at_call 14; exact CN.out _)))
                  go_wp2_with fail
                  go_ret
                  exact ⟨rfl, hbe _⟩
                · have b6 : ((n : Int) != need s) = false := by simpa using hc1
                  have hfc : fCheck k l s zs = if (∀ z ∈ zs, 0 ≤ z ∧ z ≤ 65535) ∧ zs.Nodup then 0 else 1 := by
                    unfold fCheck
                    have e1 : (zs.length : Int) = need s := by rw [hn]; exact Classical.not_not.1 hc1
                    by_cases hq : (∀ z ∈ zs, 0 ≤ z ∧ z ≤ 65535) ∧ zs.Nodup
                    · rw [if_pos hq, if_pos ⟨.inr HK.out, by omega, by omega, .inr (by omega), by omega, by omega, e1, hq⟩]
                    · rw [if_neg hq, if_neg (fun e => hq e.2.2.2.2.2.2.2)]
                  rw [hfc]
                  generalize hres : (if (∀ z ∈ zs, 0 ≤ z ∧ z ≤ 65535) ∧ zs.Nodup then (0 : Int) else 1) = res
                  have HR := Lib.hid hres; clear hres hfc hc1
                  have CN := Lib.hid cn; clear cn
                  have hlk := bk.lt
                  go_enter Try.func24, Try.ntmps24
                  go_wp2_with fail
                  go_quiet ((first | (go_at_call 14; exact CN.out _)))
                  clear CN
                  go_upto_block 0 with (fail)
                  have bkd : ∀ m, Blk ((w.alloc (.cells #[.int .i64 k, .int .i64 l, .int .i64 s, .slice A n c] 37)).drewN m) w.heap.size 37 #[.int .i64 k, .int .i64 l, .int .i64 s, .slice A n c] := fun m => bk.drewN m
                  generalize hw2 : (w.alloc (.cells #[.int .i64 k, .int .i64 l, .int .i64 s, .slice A n c] 37)).drewN nq = w2 at *
                  have bk2 : Blk w2 w.heap.size 37 #[.int .i64 k, .int .i64 l, .int .i64 s, .slice A n c] := by rw [← hw2]; exact bkd nq
                  have hb2 : Below w.heap.size w w2 := by rw [← hw2]; exact hbe nq
                  clear bk bkd hbe hw2 hlk
                  have hlk := bk2.lt
                  have hgs := hb2.size
                  generalize hg : w.heap.size = g at *
                  replace hg := Lib.hid hg
                  go_wp2_with fail
                  go_loopw [3] (fun p wr => ∃ i : Nat, p = .int .i64 i ∧ i ≤ n ∧ Hid ((∀ z ∈ zs.take i, 0 ≤ z ∧ z ≤ 65535) ∧ (zs.take i).Nodup) ∧ Below w2.heap.size w2 wr) (fun p _ => n - (intOf p).toNat)
                  case atStart => exact ⟨0, rfl, by omega, Lib.hid (by simp), Below.refl _ _⟩
                  case round =>
                    obtain ⟨i, rfl, hi, hpre, hb⟩ := hrel
                    have a3 : wr.cell? ⟨g, 3, none⟩ = some (.slice A n c) := (bk2.below hb hlk).cell 3
                    have hbw : Below g w wr := hb2.trans (hb.mono hgs)
                    by_cases hlt : i < n
                    · obtain ⟨ad1, rfl, _, q1⟩ := ints_at (hr.below hbw) hn hlt
                      have e1 : zs.take (i + 1) = zs.take i ++ [zs.getD i 0] := by rw [List.take_succ_eq_append_getElem (by omega), List.getD_eq_getElem?_getD, List.getElem?_eq_getElem (by omega)]; rfl
                      have hmem : zs.getD i 0 ∈ zs := by rw [List.getD_eq_getElem?_getD, List.getElem?_eq_getElem (by omega)]; exact List.getElem_mem _
                      have hdup : ∀ j, j < i → zs.getD j 0 = zs.getD i 0 → ¬ zs.Nodup := by
                        intro j hj e hnd
                        have := List.pairwise_iff_getElem.1 hnd j i (by omega) (by omega) hj
                        apply this
                        rw [List.getD_eq_getElem?_getD, List.getElem?_eq_getElem (by omega), List.getD_eq_getElem?_getD, List.getElem?_eq_getElem (by omega)] at e
                        exact e
                      generalize zs.getD i 0 = x at *
                      have HE := Lib.hid (And.intro e1 (And.intro hmem hdup)); clear e1 hmem hdup
                      by_cases hx0 : x < 0
                      · have hd0 : decide (x < 0) = true := by rw [decide_eq_true_eq]; exact hx0
                        have hres : res = 1 := by rw [← HR.out]; exact if_neg (fun e => by have := e.1 x HE.out.2.1; omega)
                        have HS := Lib.hid hres; clear hres
                        go_wp2_with fail
                        go_ret
                        exact ⟨ret_int HS.out.symm, by rw [hg.out]; exact hbw⟩
                      · have hd0 : decide (x < 0) = false := by rw [decide_eq_false_iff_not]; exact hx0
                        by_cases hx1 : 65535 < x
                        · have hd1 : decide (65535 < x) = true := by rw [decide_eq_true_eq]; exact hx1
                          have hres : res = 1 := by rw [← HR.out]; exact if_neg (fun e => by have := e.1 x HE.out.2.1; omega)
                          have HS := Lib.hid hres; clear hres
                          go_wp2_with fail
                          go_ret
                          exact ⟨ret_int HS.out.symm, by rw [hg.out]; exact hbw⟩
                        · have hd1 : decide (65535 < x) = false := by rw [decide_eq_false_iff_not]; exact hx1
                          go_wp2_with fail
                          go_loopw [4] (fun p wr => ∃ j : Nat, p = .int .i64 j ∧ j ≤ i ∧ Hid (∀ z ∈ zs.take j, z ≠ x) ∧ Below w2.heap.size w2 wr) (fun p _ => i - (intOf p).toNat)
                          case atStart => exact ⟨0, rfl, by omega, Lib.hid (by simp), hb⟩
                          case round =>
                            clear hb hbw a3 q1
                            obtain ⟨j, rfl, hj, hpj, hb⟩ := hrel
                            have a3 : wr.cell? ⟨g, 3, none⟩ = some (.slice (some ad1) n c) := (bk2.below hb hlk).cell 3
                            have hbw : Below g w wr := hb2.trans (hb.mono hgs)
                            by_cases hltj : j < i
                            · obtain ⟨ad2, e2, _, q1⟩ := ints_at (hr.below hbw) hn hlt
                              obtain rfl := Option.some.inj e2
                              obtain ⟨ad3, e3, _, q2⟩ := ints_at (hr.below hbw) hn (show j < n by omega)
                              obtain rfl := Option.some.inj e3
                              have hxx : zs.getD i 0 = x := by
                                have h1 := HE.out.1
                                have h2 : zs.take (i + 1) = zs.take i ++ [zs.getD i 0] := by rw [List.take_succ_eq_append_getElem (by omega), List.getD_eq_getElem?_getD, List.getElem?_eq_getElem (by omega)]; rfl
                                rw [h2] at h1
                                simpa using List.append_cancel_left h1
                              rw [hxx] at q1
                              have e4 : zs.take (j + 1) = zs.take j ++ [zs.getD j 0] := by rw [List.take_succ_eq_append_getElem (by omega), List.getD_eq_getElem?_getD, List.getElem?_eq_getElem (by omega)]; rfl
                              have hdj := HE.out.2.2 j hltj
                              clear e2 e3 hxx
                              generalize zs.getD j 0 = y at *
                              have H4 := Lib.hid (And.intro e4 hdj); clear e4 hdj
                              by_cases hyx : y = x
                              · have hcc : (y == x) = true := by simp [hyx]
                                have hres : res = 1 := by rw [← HR.out]; exact if_neg (fun e => H4.out.2 hyx e.2)
                                have HS := Lib.hid hres; clear hres hyx
                                go_wp2_with fail
                                go_quiet (fail)
                                go_wp2_with fail
                                go_ret
                                exact ⟨ret_int HS.out.symm, by rw [hg.out]; exact bdrewN hbw _⟩
                              · have hcc : (y == x) = false := by simp [hyx]
                                have HY := Lib.hid hyx; clear hyx
                                go_wp2_with fail
                                go_quiet (fail)
                                go_wp2_with fail
                                go_roundw
                                case rel => exact ⟨j + 1, vint (by omega), by omega, Lib.hid (by
                                  rw [H4.out.1]
                                  intro z hz
                                  rcases List.mem_append.1 hz with hz | hz
                                  · exact hpj.out z hz
                                  · rw [List.mem_singleton.1 hz]; exact HY.out), bdrewN hb _⟩
                                case measure => simp [intOf]; omega
                            · obtain rfl : j = i := by omega
                              have hnx : Hid ((∀ z ∈ zs.take (j + 1), 0 ≤ z ∧ z ≤ 65535) ∧ (zs.take (j + 1)).Nodup) := Lib.hid (by
                                rw [HE.out.1]
                                refine ⟨fun z hz => ?_, ?_⟩
                                · rcases List.mem_append.1 hz with hz | hz
                                  · exact hpre.out.1 z hz
                                  · rw [List.mem_singleton.1 hz]; omega
                                · rw [List.nodup_append]
                                  exact ⟨hpre.out.2, by simp, fun a ha b hb2 => by rw [List.mem_singleton.1 hb2]; exact hpj.out a ha⟩)
                              go_wp2_with fail
                              go_roundw
                              case rel => exact ⟨j + 1, vint (by omega), by omega, hnx, hb⟩
                              case measure => simp [intOf]; omega
                    · obtain rfl : i = n := by omega
                      have hres : res = 0 := by
                        rw [← HR.out]
                        have := hpre.out
                        rw [List.take_of_length_le (by omega)] at this
                        exact if_pos this
                      have HS := Lib.hid hres; clear hres
                      go_wp2_with fail
                      go_ret
                      exact ⟨ret_int HS.out.symm, by rw [hg.out]; exact hbw⟩
    · have k2 : (k != 2) = true := by simp [hk2]
      have hf : fCheck k l s zs = 1 := if_neg (by rintro ⟨a1, _⟩; omega)
      rw [hf]
      clear bk hr hf
      have CN := Lib.hid cn; clear cn
      go_enter Try.func24, Try.ntmps24
      go_wp2_with fail
      go_quiet ((first | (go_at_call 14; exact CN.out _)))
      go_wp2_with fail
      go_ret
      exact ⟨rfl, hbe _⟩
end Go.Proofs.Ytepmgcgpioljiaa
