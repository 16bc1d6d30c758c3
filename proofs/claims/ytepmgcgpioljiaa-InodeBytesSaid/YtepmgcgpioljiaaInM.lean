import Derived.Test.YtepmgcgpioljiaaInL
import Derived.Handy
namespace Go.Proofs.Ytepmgcgpioljiaa
open Go.RowKit
set_option linter.unusedVariables false
attribute [local go_sem] b_max2 b_min2 b_max b_min

/-! ### inodes -/
section
variable {w : World}
theorem ints_at {w : World} {B : Nat} {A : Option Addr} {zs : List Int} {n : Nat} (hr : Reads w B 1 A n (zs.map (Value.int .i64))) (hn : zs.length = n) {i : Nat} (hi : i < n) : ∃ ad, A = some ad ∧ ad.block < B ∧ w.cell? (ad.add i) = some (.int .i64 (zs.getD i 0)) := by
  obtain ⟨ad, e, hb, hc⟩ := hr.2 (by omega)
  exact ⟨ad, e, hb, hc i _ (by rw [List.getElem?_map, List.getD_eq_getElem?_getD, List.getElem?_eq_getElem (by omega)]; rfl)⟩
set_option maxRecDepth 100000 in
set_option maxHeartbeats 1000000 in
theorem small_any (k l s : Int) (A : Option Addr) (n c : Nat) (w : World) (hc : n ≤ c) :
    Calls Try.prog 16 #[.agg #[.int .i64 k, .int .i64 l, .int .i64 s, .slice A n c]] w fun e w' => e = .returned (.agg #[.int .i64 k, .int .i64 l, .int .i64 s, .slice A (min n 20) c]) ∧ Below w.heap.size w w' := by
  by_cases h : 20 < n
  · rw [Nat.min_eq_right (by omega)]
    have hbe : Below w.heap.size w ((w.alloc (.cells #[.int .i64 k, .int .i64 l, .int .i64 s, .slice A 20 c] 37)).alloc (.cells #[.int .i64 k, .int .i64 l, .int .i64 s, .slice A 20 c] 37)) := ((Below.refl _ w).alloc (Nat.le_refl _) _).alloc (by simp) _
    go_enter Try.func16, Try.ntmps16
    go_wp2_with fail
    go_returns
    exact ⟨rfl, hbe⟩
  · rw [Nat.min_eq_left (by omega)]
    have hbe : Below w.heap.size w ((w.alloc (.cells #[.int .i64 k, .int .i64 l, .int .i64 s, .slice A n c] 37)).alloc (.cells #[.int .i64 k, .int .i64 l, .int .i64 s, .slice A n c] 37)) := ((Below.refl _ w).alloc (Nat.le_refl _) _).alloc (by simp) _
    go_enter Try.func16, Try.ntmps16
    go_wp2_with fail
    go_returns
    exact ⟨rfl, hbe⟩
set_option maxRecDepth 100000 in
set_option maxHeartbeats 1000000 in
theorem same_any (k l s k' l' s' : Int) (A A' : Option Addr) (n c n' c' : Nat) (zs zs' : List Int) (w : World) (hn : zs.length = n) (hn' : zs'.length = n') (hl : n ≤ 100000) (hl' : n' ≤ 100000)
    (hr : Reads w w.heap.size 1 A n (zs.map (Value.int .i64))) (hr' : Reads w w.heap.size 1 A' n' (zs'.map (Value.int .i64))) :
    Calls Try.prog 18 #[.agg #[.int .i64 k, .int .i64 l, .int .i64 s, .slice A n c], .agg #[.int .i64 k', .int .i64 l', .int .i64 s', .slice A' n' c']] w fun e w' => e = .returned (.bool (decide (k = k' ∧ l = l' ∧ s = s' ∧ zs = zs'))) ∧ Below w.heap.size w w' := by
  have hbe : Below w.heap.size w ((w.alloc (.cells #[.int .i64 k, .int .i64 l, .int .i64 s, .slice A n c] 37)).alloc (.cells #[.int .i64 k', .int .i64 l', .int .i64 s', .slice A' n' c'] 37)) := ((Below.refl _ w).alloc (Nat.le_refl _) _).alloc (by simp) _
  by_cases h1 : k = k'
  · have b1 : (k != k') = false := by simp [h1]
    by_cases h2 : l = l'
    · have b2 : (l != l') = false := by simp [h2]
      by_cases h3 : s = s'
      · have b3 : (s != s') = false := by simp [h3]
        by_cases h4 : n = n'
        · subst h4
          have hdd : decide (k = k' ∧ l = l' ∧ s = s' ∧ zs = zs') = decide (zs = zs') := by simp [h1, h2, h3]
          rw [hdd]
          have bA : Blk (w.alloc (.cells #[.int .i64 k, .int .i64 l, .int .i64 s, .slice A n c] 37)) w.heap.size 37 #[.int .i64 k, .int .i64 l, .int .i64 s, .slice A n c] := Blk.new _ _ _
          have bA2 := bA.alloc (.cells #[.int .i64 k', .int .i64 l', .int .i64 s', .slice A' n c'] 37)
          have bB : Blk ((w.alloc (.cells #[.int .i64 k, .int .i64 l, .int .i64 s, .slice A n c] 37)).alloc (.cells #[.int .i64 k', .int .i64 l', .int .i64 s', .slice A' n c'] 37)) (w.heap.size + 1) 37 #[.int .i64 k', .int .i64 l', .int .i64 s', .slice A' n c'] := by
            have := Blk.new (w.alloc (.cells #[.int .i64 k, .int .i64 l, .int .i64 s, .slice A n c] 37)) 37 #[.int .i64 k', .int .i64 l', .int .i64 s', .slice A' n c']
            simpa using this
          have hlt1 := bA2.lt
          have hlt2 := bB.lt
          clear h1 h2 h3 hdd bA
          go_enter Try.func18, Try.ntmps18
          go_upto_block 0 with (fail)
          generalize hw2 : (w.alloc (.cells #[.int .i64 k, .int .i64 l, .int .i64 s, .slice A n c] 37)).alloc (.cells #[.int .i64 k', .int .i64 l', .int .i64 s', .slice A' n c'] 37) = w2 at *
          clear hw2
          have hgs := hbe.size
          generalize hg : w.heap.size = g at *
          replace hg := Lib.hid hg
          go_wp2_with fail
          go_loopw [5] (fun p wr => ∃ i : Nat, p = .int .i64 i ∧ i ≤ n ∧ Hid (zs.take i = zs'.take i) ∧ Below w2.heap.size w2 wr) (fun p _ => n - (intOf p).toNat)
          case atStart => exact ⟨0, rfl, by omega, Lib.hid (by simp), Below.refl _ _⟩
          case round =>
            obtain ⟨i, rfl, hi, hpre, hb⟩ := hrel
            have a3 : wr.cell? ⟨g, 3, none⟩ = some (.slice A n c) := (bA2.below hb hlt1).cell 3
            have b3' : wr.cell? ⟨g + 1, 3, none⟩ = some (.slice A' n c') := (bB.below hb hlt2).cell 3
            have hbw : Below g w wr := hbe.trans (hb.mono hgs)
            by_cases hlt : i < n
            · obtain ⟨ad1, rfl, _, q1⟩ := ints_at (hr.below hbw) hn hlt
              obtain ⟨ad2, rfl, _, q2⟩ := ints_at (hr'.below hbw) hn' hlt
              have e1 : zs.take (i + 1) = zs.take i ++ [zs.getD i 0] := by rw [List.take_succ_eq_append_getElem (by omega), List.getD_eq_getElem?_getD, List.getElem?_eq_getElem (by omega)]; rfl
              have e2 : zs'.take (i + 1) = zs'.take i ++ [zs'.getD i 0] := by rw [List.take_succ_eq_append_getElem (by omega), List.getD_eq_getElem?_getD, List.getElem?_eq_getElem (by omega)]; rfl
              have hne : zs.getD i 0 ≠ zs'.getD i 0 → decide (zs = zs') = false := by
                intro h
                rw [decide_eq_false_iff_not]
                intro e
                exact h (by rw [e])
              generalize zs.getD i 0 = x at *
              generalize zs'.getD i 0 = y at *
              have HE := Lib.hid (And.intro e1 e2); have HNE := Lib.hid hne; clear e1 e2 hne
              by_cases hxy : x = y
              · have hc : (x != y) = false := by simp [hxy]
                have HX := Lib.hid hxy; clear hxy
                go_wp2_with fail
                go_quiet (fail)
                go_wp2_with fail
                go_roundw
                case rel => exact ⟨i + 1, vint (by omega), by omega, Lib.hid (by rw [HE.out.1, HE.out.2, hpre.out, HX.out]), bdrewN hb _⟩
                case measure => simp [intOf]; omega
              · have hc : (x != y) = true := by simp [hxy]
                have hf := HNE.out hxy
                have HX := Lib.hid hf; clear hxy hf
                go_wp2_with fail
                go_quiet (fail)
                go_wp2_with fail
                go_ret
                exact ⟨ret_bool HX.out.symm, by rw [hg.out]; exact bdrewN hbw _⟩
            · obtain rfl : i = n := by omega
              have hz : decide (zs = zs') = true := by
                rw [decide_eq_true_eq]
                have := hpre.out
                rw [List.take_of_length_le (by omega), List.take_of_length_le (by omega)] at this
                exact this
              have HZ := Lib.hid hz; clear hz
              go_wp2_with fail
              go_ret
              exact ⟨ret_bool HZ.out.symm, by rw [hg.out]; exact hbw⟩
        · have hd : decide (k = k' ∧ l = l' ∧ s = s' ∧ zs = zs') = false := by
            rw [decide_eq_false_iff_not]
            rintro ⟨_, _, _, e⟩
            exact h4 (by rw [← hn, ← hn', e])
          rw [hd]
          clear h1 h2 h3 hd
          go_enter Try.func18, Try.ntmps18
          go_wp2_with fail
          go_ret
          exact ⟨rfl, hbe⟩
      · have hd : decide (k = k' ∧ l = l' ∧ s = s' ∧ zs = zs') = false := by simp [h3]
        rw [hd]
        have b3 : (s != s') = true := by simp [h3]
        clear h1 h2 h3 hd
        go_enter Try.func18, Try.ntmps18
        go_wp2_with fail
        go_ret
        exact ⟨rfl, hbe⟩
    · have hd : decide (k = k' ∧ l = l' ∧ s = s' ∧ zs = zs') = false := by simp [h2]
      rw [hd]
      have b2 : (l != l') = true := by simp [h2]
      clear h1 h2 hd
      go_enter Try.func18, Try.ntmps18
      go_wp2_with fail
      go_ret
      exact ⟨rfl, hbe⟩
  · have hd : decide (k = k' ∧ l = l' ∧ s = s' ∧ zs = zs') = false := by simp [h1]
    rw [hd]
    have b1 : (k != k') = true := by simp [h1]
    clear h1 hd
    go_enter Try.func18, Try.ntmps18
    go_wp2_with fail
    go_ret
    exact ⟨rfl, hbe⟩
set_option maxRecDepth 100000 in
theorem inew_any (k : Int) (w : World) : Calls Try.prog 22 #[.int .i64 k] w fun e w' => e = .returned (.agg #[.int .i64 k, .int .i64 1, .int .i64 0, .slice none 0 0]) ∧ Below w.heap.size w w' := by
  have hbe : Below w.heap.size w (w.alloc (.cells #[.int .i64 k, .int .i64 1, .int .i64 0, .slice none 0 0] 37)) := (Below.refl _ w).alloc (Nat.le_refl _) _
  go_enter Try.func22, Try.ntmps22
  go_wp2_with fail
  go_returns
  exact ⟨rfl, hbe⟩
end
end Go.Proofs.Ytepmgcgpioljiaa
