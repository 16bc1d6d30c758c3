import Derived.Test.YtepmgcgpioljiaaInU
import Derived.Test.YtepmgcgpioljiaaInI
namespace Go.Proofs.Ytepmgcgpioljiaa
open Go.RowKit
set_option linter.unusedVariables false
attribute [local go_sem] b_max2 b_min2 b_max b_min

/-! ### InodeReads -/
theorem ino_len {p : Prop} [Decidable p] (a b c : Int) (d : List Int) (h : d.length ≤ 13) : (if p then (((0 : Int), (0 : Int), (0 : Int), ([] : List Int)), (10 : Int)) else ((a, b, c, d), 0)).1.2.2.2.length ≤ 13 := by
  split
  · exact Nat.zero_le _
  · exact h
theorem rdIno_len (r0 : RD) : (rdIno r0).1.2.2.2.length ≤ 13 := by
  obtain ⟨N, hN⟩ : ∃ N, N = 13 := ⟨_, rfl⟩
  unfold rdIno
  rw [← hN]
  dsimp only
  by_cases h : rdEnd (rdTo (rdNum 4 (rdNum 2 (rdNum 2 r0).2).2).2 N).2 ≠ 0 ∨ fCheck (rdNum 2 r0).1 (rdNum 2 (rdNum 2 r0).2).1 (rdNum 4 (rdNum 2 (rdNum 2 r0).2).2).1 (rdTo (rdNum 4 (rdNum 2 (rdNum 2 r0).2).2).2 N).1 ≠ 0
  · rw [if_pos h]; exact Nat.zero_le _
  · rw [if_neg h]; exact rdTo_len _ _
theorem fRead_len (s : ByteArray) : (fRead s).1.2.2.2.length ≤ 13 := by
  unfold fRead
  by_cases h : s.size < 4 ∨ s.extract 0 4 ≠ markB
  · rw [if_pos h]; exact Nat.zero_le _
  · rw [if_neg h]; exact rdIno_len _
set_option maxRecDepth 100000 in
set_option maxHeartbeats 2000000 in
theorem law_reads (s : ByteArray) (w : World) (hs : s.size ≤ 140737488351232) :
    Calls Try.prog 8 #[.string s] w fun e w' => e = .returned (.bool true) ∧ Below w.heap.size w w' := by
  by_cases h : 200 < s.size
  · have hsz : (s.extract 0 200).size = 200 := by rw [ByteArray.size_extract]; omega
    have h200 : (200 : Int) ≤ (s.size : Int) := by omega
    go_enter Try.func8, Try.ntmps8
    go_wp2_with fail
    refine (awake_any w).mono ?_
    rintro e w1 ⟨rfl, b1⟩
    go_wp2_with fail
    refine (read_any (s.extract 0 200) w1 (by rw [hsz]; omega)).mono ?_
    rintro e w2 ⟨v, rfl, hV, b2⟩
    obtain ⟨⟨k, l, z, zs⟩, er, hE⟩ := pair_of (fRead (s.extract 0 200))
    rw [hE] at hV ⊢
    dsimp only at hV ⊢
    obtain ⟨A, n, c, rfl, hn, hc, hr⟩ := hV
    dsimp only at hn hr
    have hE' := Lib.hid hE; clear hE
    have b3 : Below w.heap.size w w2 := b1.trans (b2.mono b1.size)
    have b4 := b3.alloc b3.size (.cells #[.int .i64 k, .int .i64 l, .int .i64 z, .slice A n c] 37)
    have k4 : Blk (w2.alloc (.cells #[.int .i64 k, .int .i64 l, .int .i64 z, .slice A n c] 37)) w2.heap.size 37 #[.int .i64 k, .int .i64 l, .int .i64 z, .slice A n c] := Blk.new _ _ _
    have hr4 := (hr.alloc (Nat.le_refl _) (.cells #[.int .i64 k, .int .i64 l, .int .i64 z, .slice A n c] 37))
    have hrr := rread_any (s.extract 0 200) (w2.alloc (.cells #[.int .i64 k, .int .i64 l, .int .i64 z, .slice A n c] 37)) (by rw [hsz]; omega)
    rw [hE'.out] at hrr
    dsimp only at hrr
    have hn' : n ≤ 100000 := by
      have := fRead_len (s.extract 0 200); rw [hE'.out] at this; dsimp only at this; omega
    clear b1 b2 b3 hr
    go_wp2_with fail
    refine hrr.mono ?_
    rintro e w5 ⟨v, rfl, hV, b5⟩
    obtain ⟨A', n', c', rfl, hn2, hc2, hr2⟩ := hV
    dsimp only at hn2 hr2
    have k5 := k4.below b5 k4.lt
    have b6 := b4.trans (b5.mono b4.size)
    have hr5 := hr4.below (b5.mono (by simp))
    have k6 := k5.alloc (.cells #[.int .i64 k, .int .i64 l, .int .i64 z, .slice A' n' c'] 37)
    have k7 : Blk (w5.alloc (.cells #[.int .i64 k, .int .i64 l, .int .i64 z, .slice A' n' c'] 37)) w5.heap.size 37 #[.int .i64 k, .int .i64 l, .int .i64 z, .slice A' n' c'] := Blk.new _ _ _
    have b7 := b6.alloc b6.size (.cells #[.int .i64 k, .int .i64 l, .int .i64 z, .slice A' n' c'] 37)
    have hr6 := (hr5.alloc (by have := b5.size; simp at this; omega) (.cells #[.int .i64 k, .int .i64 l, .int .i64 z, .slice A' n' c'] 37)).more (B' := (w5.alloc (.cells #[.int .i64 k, .int .i64 l, .int .i64 z, .slice A' n' c'] 37)).heap.size) (by have := b5.size; simp at this ⊢; omega)
    have hr7 := (hr2.alloc (Nat.le_refl _) (.cells #[.int .i64 k, .int .i64 l, .int .i64 z, .slice A' n' c'] 37)).more (B' := (w5.alloc (.cells #[.int .i64 k, .int .i64 l, .int .i64 z, .slice A' n' c'] 37)).heap.size) (by simp)
    have hsm := same_any k l z k l z A A' n c n' c' zs zs _ hn hn2 hn' (by omega) hr6 hr7
    have hdd : decide (k = k ∧ l = l ∧ z = z ∧ zs = zs) = true := by simp
    rw [hdd] at hsm
    have q0 : (w5.alloc (.cells #[.int .i64 k, .int .i64 l, .int .i64 z, .slice A' n' c'] 37)).cell? ⟨w2.heap.size, 0, none⟩ = some (.int .i64 k) := k6.cell 0
    have q1 : (w5.alloc (.cells #[.int .i64 k, .int .i64 l, .int .i64 z, .slice A' n' c'] 37)).cell? ⟨w2.heap.size, 1, none⟩ = some (.int .i64 l) := k6.cell 1
    have q2 : (w5.alloc (.cells #[.int .i64 k, .int .i64 l, .int .i64 z, .slice A' n' c'] 37)).cell? ⟨w2.heap.size, 2, none⟩ = some (.int .i64 z) := k6.cell 2
    have q3 : (w5.alloc (.cells #[.int .i64 k, .int .i64 l, .int .i64 z, .slice A' n' c'] 37)).cell? ⟨w2.heap.size, 3, none⟩ = some (.slice A n c) := k6.cell 3
    clear k4 k5 hr4 hr5 hr6 hr7 hr2 b4 b5 b6 hrr hdd
    have HSM := Lib.hid hsm; clear hsm
    go_upto_region 6 with (fail)
    generalize w5.alloc (.cells #[.int .i64 k, .int .i64 l, .int .i64 z, .slice A' n' c'] 37) = w7 at *
    have p0 : w7.cell? ⟨w5.heap.size, 0, none⟩ = some (.int .i64 k) := k7.cell 0
    have p1 : w7.cell? ⟨w5.heap.size, 1, none⟩ = some (.int .i64 l) := k7.cell 1
    have p2 : w7.cell? ⟨w5.heap.size, 2, none⟩ = some (.int .i64 z) := k7.cell 2
    have p3 : w7.cell? ⟨w5.heap.size, 3, none⟩ = some (.slice A' n' c') := k7.cell 3
    clear k6 k7
    go_wp2_with fail
    refine HSM.out.mono ?_
    rintro e w8 ⟨rfl, b8⟩
    have hfin := b7.trans (b8.mono b7.size)
    have HF := Lib.hid hfin
    clear HSM hfin b7 b8
    go_wp2_with fail
    go_ret
    exact ⟨rfl, HF.out⟩
  · have hsz : s.size ≤ 200 := by omega
    go_enter Try.func8, Try.ntmps8
    go_wp2_with fail
    refine (awake_any w).mono ?_
    rintro e w1 ⟨rfl, b1⟩
    go_wp2_with fail
    refine (read_any s w1 (by omega)).mono ?_
    rintro e w2 ⟨v, rfl, hV, b2⟩
    obtain ⟨⟨k, l, z, zs⟩, er, hE⟩ := pair_of (fRead s)
    rw [hE] at hV ⊢
    dsimp only at hV ⊢
    obtain ⟨A, n, c, rfl, hn, hc, hr⟩ := hV
    dsimp only at hn hr
    have hE' := Lib.hid hE; clear hE
    have b3 : Below w.heap.size w w2 := b1.trans (b2.mono b1.size)
    have b4 := b3.alloc b3.size (.cells #[.int .i64 k, .int .i64 l, .int .i64 z, .slice A n c] 37)
    have k4 : Blk (w2.alloc (.cells #[.int .i64 k, .int .i64 l, .int .i64 z, .slice A n c] 37)) w2.heap.size 37 #[.int .i64 k, .int .i64 l, .int .i64 z, .slice A n c] := Blk.new _ _ _
    have hr4 := (hr.alloc (Nat.le_refl _) (.cells #[.int .i64 k, .int .i64 l, .int .i64 z, .slice A n c] 37))
    have hrr := rread_any s (w2.alloc (.cells #[.int .i64 k, .int .i64 l, .int .i64 z, .slice A n c] 37)) (by omega)
    rw [hE'.out] at hrr
    dsimp only at hrr
    have hn' : n ≤ 100000 := by
      have := fRead_len s; rw [hE'.out] at this; dsimp only at this; omega
    clear b1 b2 b3 hr
    go_wp2_with fail
    refine hrr.mono ?_
    rintro e w5 ⟨v, rfl, hV, b5⟩
    obtain ⟨A', n', c', rfl, hn2, hc2, hr2⟩ := hV
    dsimp only at hn2 hr2
    have k5 := k4.below b5 k4.lt
    have b6 := b4.trans (b5.mono b4.size)
    have hr5 := hr4.below (b5.mono (by simp))
    have k6 := k5.alloc (.cells #[.int .i64 k, .int .i64 l, .int .i64 z, .slice A' n' c'] 37)
    have k7 : Blk (w5.alloc (.cells #[.int .i64 k, .int .i64 l, .int .i64 z, .slice A' n' c'] 37)) w5.heap.size 37 #[.int .i64 k, .int .i64 l, .int .i64 z, .slice A' n' c'] := Blk.new _ _ _
    have b7 := b6.alloc b6.size (.cells #[.int .i64 k, .int .i64 l, .int .i64 z, .slice A' n' c'] 37)
    have hr6 := (hr5.alloc (by have := b5.size; simp at this; omega) (.cells #[.int .i64 k, .int .i64 l, .int .i64 z, .slice A' n' c'] 37)).more (B' := (w5.alloc (.cells #[.int .i64 k, .int .i64 l, .int .i64 z, .slice A' n' c'] 37)).heap.size) (by have := b5.size; simp at this ⊢; omega)
    have hr7 := (hr2.alloc (Nat.le_refl _) (.cells #[.int .i64 k, .int .i64 l, .int .i64 z, .slice A' n' c'] 37)).more (B' := (w5.alloc (.cells #[.int .i64 k, .int .i64 l, .int .i64 z, .slice A' n' c'] 37)).heap.size) (by simp)
    have hsm := same_any k l z k l z A A' n c n' c' zs zs _ hn hn2 hn' (by omega) hr6 hr7
    have hdd : decide (k = k ∧ l = l ∧ z = z ∧ zs = zs) = true := by simp
    rw [hdd] at hsm
    have q0 : (w5.alloc (.cells #[.int .i64 k, .int .i64 l, .int .i64 z, .slice A' n' c'] 37)).cell? ⟨w2.heap.size, 0, none⟩ = some (.int .i64 k) := k6.cell 0
    have q1 : (w5.alloc (.cells #[.int .i64 k, .int .i64 l, .int .i64 z, .slice A' n' c'] 37)).cell? ⟨w2.heap.size, 1, none⟩ = some (.int .i64 l) := k6.cell 1
    have q2 : (w5.alloc (.cells #[.int .i64 k, .int .i64 l, .int .i64 z, .slice A' n' c'] 37)).cell? ⟨w2.heap.size, 2, none⟩ = some (.int .i64 z) := k6.cell 2
    have q3 : (w5.alloc (.cells #[.int .i64 k, .int .i64 l, .int .i64 z, .slice A' n' c'] 37)).cell? ⟨w2.heap.size, 3, none⟩ = some (.slice A n c) := k6.cell 3
    clear k4 k5 hr4 hr5 hr6 hr7 hr2 b4 b5 b6 hrr hdd
    have HSM := Lib.hid hsm; clear hsm
    go_upto_region 6 with (fail)
    generalize w5.alloc (.cells #[.int .i64 k, .int .i64 l, .int .i64 z, .slice A' n' c'] 37) = w7 at *
    have p0 : w7.cell? ⟨w5.heap.size, 0, none⟩ = some (.int .i64 k) := k7.cell 0
    have p1 : w7.cell? ⟨w5.heap.size, 1, none⟩ = some (.int .i64 l) := k7.cell 1
    have p2 : w7.cell? ⟨w5.heap.size, 2, none⟩ = some (.int .i64 z) := k7.cell 2
    have p3 : w7.cell? ⟨w5.heap.size, 3, none⟩ = some (.slice A' n' c') := k7.cell 3
    clear k6 k7
    go_wp2_with fail
    refine HSM.out.mono ?_
    rintro e w8 ⟨rfl, b8⟩
    have hfin := b7.trans (b8.mono b7.size)
    have HF := Lib.hid hfin
    clear HSM hfin b7 b8
    go_wp2_with fail
    go_ret
    exact ⟨rfl, HF.out⟩
end Go.Proofs.Ytepmgcgpioljiaa
