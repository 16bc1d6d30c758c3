import Derived.Test.YtepmgcgpioljiaaInC
import Derived.Test.YtepmgcgpioljiaaFr
namespace Go.Proofs.Ytepmgcgpioljiaa
open Go.RowKit
set_option linter.unusedVariables false
attribute [local go_sem] b_max2 b_min2 b_max b_min

/-- so many bytes of a number, the greatest first -/
def numB (n : Nat) : Nat → ByteArray
  | 0 => ⟨#[]⟩
  | k + 1 => ⟨#[UInt8.ofNat (n / 256 ^ k % 256)]⟩ ++ numB n k
theorem numB_size (n k : Nat) : (numB n k).size = k := by
  induction k with
  | zero => rfl
  | succ k ih => rw [numB, ByteArray.size_append, ih]; show 1 + k = k + 1; omega

set_option maxRecDepth 100000 in
set_option maxHeartbeats 1000000 in
theorem num_any (n k : Nat) (w : World) (hn : n < 18446744073709551616) (hk : k ≤ 8) :
    Calls Try.prog 37 #[.int .u64 n, .int .i64 k] w fun e w' => e = .returned (.string (numB n k)) ∧ Below w.heap.size w w' := by
  go_enter Try.func37, Try.ntmps37
  go_wp2_with fail
  go_loopw [0, 5, 6] (fun a s p wr => ∃ i : Nat, p = .int .i64 i ∧ i ≤ k ∧ a = .int .u64 ((n / 256 ^ i : Nat) : Int) ∧ s = .string (numB n i) ∧ Below w.heap.size w wr) (fun _ _ p _ => k - (intOf p).toNat)
  case atStart => exact ⟨0, rfl, by omega, by simp, rfl, Below.refl _ _⟩
  case round =>
    obtain ⟨i, rfl, hi, rfl, rfl, hb⟩ := hrel
    by_cases hlt : i < k
    · have hs := numB_size n i
      have hB := hb.size
      have hdv : n / 256 ^ i < 18446744073709551616 := Nat.lt_of_le_of_lt (Nat.div_le_self _ _) hn
      generalize hm : n / 256 ^ i = m at *
      have hconv := run_convert_bytes_arg (P := Try.prog) (wr.alloc (.cells #[.int .u8 ((m : Int) % 256)] 5)) 75 5 Try.underlying75 (by kernel_rfl) wr.heap.size 0 1 1 [(m : Int) % 256] rfl (by
        intro i hi
        obtain rfl : i = 0 := by omega
        exact (Blk.new wr 5 #[.int .u8 ((m : Int) % 256)]).cell 0) 9 (by kernel_rfl)
      have hstr : strOfNums [(m : Int) % 256] = ⟨#[UInt8.ofNat (m % 256)]⟩ := by
        show (⟨([(m : Int) % 256].map _).toArray⟩ : ByteArray) = _
        rw [List.map_cons, List.map_nil]
        congr 2
      rw [hstr] at hconv
      have hsz1 : (⟨#[UInt8.ofNat (m % 256)]⟩ : ByteArray).size = 1 := rfl
      have hnew : numB n (i + 1) = ⟨#[UInt8.ofNat (m % 256)]⟩ ++ numB n i := by rw [numB, hm]
      generalize (⟨#[UInt8.ofNat (m % 256)]⟩ : ByteArray) = c at *
      have hm2 : m / 256 = n / 256 ^ (i + 1) := by rw [← hm, Nat.div_div_eq_div_mul, Nat.pow_succ]
      have HN := Lib.hid hnew; have HM := Lib.hid hm2; clear hnew hm2 hstr
      have hsum : c.size + (numB n i).size ≤ 9223372036854775807 := by omega
      go_wp2_with fail
      go_roundw
      case rel => exact ⟨i + 1, vint (by omega), by omega, by rw [← HM.out]; exact vint (by omega), by rw [HN.out], hb.alloc hB _⟩
      case measure => simp [intOf]; omega
    · obtain rfl : i = k := by omega
      go_wp2_with fail
      go_ret
      exact ⟨rfl, hb⟩
/-- the eight cells once i of k bytes are there -/
def bcs (n k i : Nat) : List Value := (List.range 8).map fun j => .int .u8 (if k - i ≤ j ∧ j < k then ((n / 256 ^ (k - 1 - j) % 256 : Nat) : Int) else 0)
theorem bcs_set (n k i : Nat) (hi : i < k) (hk : k ≤ 8) : (bcs n k i).toArray.setIfInBounds (k - 1 - i) (.int .u8 ((n / 256 ^ i % 256 : Nat) : Int)) = (bcs n k (i + 1)).toArray := by
  rw [List.setIfInBounds_toArray]
  congr 1
  apply List.ext_getElem?
  intro j
  unfold bcs
  rw [List.getElem?_set]
  by_cases h : k - 1 - i = j
  · subst h
    rw [if_pos rfl, if_pos (by simp; omega), List.getElem?_map, List.getElem?_range (by omega)]
    simp only [Option.map_some]
    rw [if_pos ⟨by omega, by omega⟩, show k - 1 - (k - 1 - i) = i by omega]
  · rw [if_neg h, List.getElem?_map, List.getElem?_map]
    by_cases hj : j < 8
    · rw [List.getElem?_range hj]
      simp only [Option.map_some]
      by_cases h1 : k - i ≤ j ∧ j < k
      · rw [if_pos h1, if_pos ⟨by omega, h1.2⟩]
      · rw [if_neg h1, if_neg (by omega)]
    · rw [List.getElem?_eq_none (by simp; omega)]; rfl
theorem bcs_get (n k i j : Nat) (hj : j < 8) : (bcs n k i).toArray[j]? = some (.int .u8 (if k - i ≤ j ∧ j < k then ((n / 256 ^ (k - 1 - j) % 256 : Nat) : Int) else 0)) := by
  rw [List.getElem?_toArray, bcs, List.getElem?_map, List.getElem?_range hj]; rfl
/-- the numbers of a number's bytes -/
def nums (n k : Nat) : List Int := (List.range k).map fun j => ((n / 256 ^ (k - 1 - j) % 256 : Nat) : Int)
theorem nums_get (n k j : Nat) (hj : j < k) : (nums n k).getD j 0 = ((n / 256 ^ (k - 1 - j) % 256 : Nat) : Int) := by
  unfold nums
  rw [List.getD_eq_getElem?_getD, List.getElem?_map, List.getElem?_range hj]; rfl
theorem nums_succ (n k : Nat) : nums n (k + 1) = ((n / 256 ^ k % 256 : Nat) : Int) :: nums n k := by
  unfold nums
  rw [List.range_succ_eq_map, List.map_cons, List.map_map]
  congr 1
  apply List.map_congr_left
  intro j hj
  show ((n / 256 ^ (k + 1 - 1 - (j + 1)) % 256 : Nat) : Int) = _
  rw [show k + 1 - 1 - (j + 1) = k - 1 - j by omega]
theorem str_nums (n k : Nat) : strOfNums (nums n k) = numB n k := by
  induction k with
  | zero => rfl
  | succ k ih =>
    rw [nums_succ, numB, ← ih]
    apply ByteArray.ext
    rw [ByteArray.data_append]
    have e : ((n / 256 ^ k % 256 : Nat) : Int).toNat = n / 256 ^ k % 256 := Int.toNat_natCast _
    unfold strOfNums
    rw [List.map_cons]
    simp only [e]
    simp
theorem sh_eq (n i : Nat) : (n : Int) / 2 ^ (8 * i) % 256 = ((n / 256 ^ i % 256 : Nat) : Int) := by
  have e : (2 : Int) ^ (8 * i) = ((256 ^ i : Nat) : Int) := by
    rw [Int.pow_mul, Int.natCast_pow]; rfl
  rw [e]; rfl
set_option maxRecDepth 100000 in
set_option maxHeartbeats 1000000 in
theorem pnum2_any (n : Nat) (w : World) (hn : n < 65536) :
    Calls Try.prog 49 #[.int .u16 n, .int .i64 2] w fun e w' => e = .returned (.string (numB n 2)) ∧ Below w.heap.size w w' := by
  have b0 : Blk (w.alloc (.cells (bcs n 2 0).toArray 98)) w.heap.size 98 (bcs n 2 0).toArray := Blk.new _ _ _
  have e0 : bcs n 2 0 = [.int .u8 0, .int .u8 0, .int .u8 0, .int .u8 0, .int .u8 0, .int .u8 0, .int .u8 0, .int .u8 0] := by
    unfold bcs
    rw [show List.range 8 = [0, 1, 2, 3, 4, 5, 6, 7] from rfl]
    simp only [List.map_cons, List.map_nil]
    simp
  rw [e0] at b0
  have hb0 : Below w.heap.size w (w.alloc (.cells #[.int .u8 0, .int .u8 0, .int .u8 0, .int .u8 0, .int .u8 0, .int .u8 0, .int .u8 0, .int .u8 0] 98)) := (Below.refl _ w).alloc (Nat.le_refl _) _
  go_enter Try.func49, Try.ntmps49
  go_upto_block 0 with (fail)
  have e0' : (#[.int .u8 0, .int .u8 0, .int .u8 0, .int .u8 0, .int .u8 0, .int .u8 0, .int .u8 0, .int .u8 0] : Array Value) = (bcs n 2 0).toArray := by rw [e0]
  have b0' : Blk (w.alloc (.cells #[.int .u8 0, .int .u8 0, .int .u8 0, .int .u8 0, .int .u8 0, .int .u8 0, .int .u8 0, .int .u8 0] 98)) w.heap.size 98 (bcs n 2 0).toArray := by rw [← e0']; exact b0
  clear b0 e0 e0'
  generalize w.alloc (.cells #[.int .u8 0, .int .u8 0, .int .u8 0, .int .u8 0, .int .u8 0, .int .u8 0, .int .u8 0, .int .u8 0] 98) = w1 at *
  generalize hg : w.heap.size = g at *
  replace hg := Lib.hid hg
  go_wp2_with fail
  go_loopw [8] (fun p wr => ∃ i : Nat, p = .int .i64 i ∧ i ≤ 2 ∧ Blk wr g 98 (bcs n 2 i).toArray ∧ Below g w wr) (fun p _ => 2 - (intOf p).toNat)
  case atStart => exact ⟨0, rfl, by omega, b0', hb0⟩
  case round =>
    clear b0' hb0
    obtain ⟨i, rfl, hi, hB, hb⟩ := hrel
    by_cases hlt : i < 2
    · have hf := hB.frozen (2 - 1 - i)
      have hc : wr.cell? ⟨g, 2 - 1 - i, none⟩ = some _ := (hB.cell (2 - 1 - i)).trans (bcs_get n 2 i (2 - 1 - i) (by omega))
      obtain ⟨j, hj⟩ : ∃ j, 2 - 1 - i = j := ⟨_, rfl⟩
      have hji : (1 : Int) - (i : Int) = (j : Int) := by omega
      rw [hj] at hf hc
      have HB := Lib.hid (And.intro (hB.set_ j (.int .u8 ((n : Int) / 2 ^ (8 * i) % 256))) (show (n : Int) / 2 ^ (8 * i) % 256 = ((n / 256 ^ i % 256 : Nat) : Int) by rw [sh_eq]))
      have hgg : g ≤ g := Nat.le_refl g
      go_wp2_with fail
      go_roundw
      case rel =>
        refine ⟨i + 1, vint (by omega), by omega, ?_, hb.setCell (p := ⟨g, j, none⟩) (Nat.le_refl g) _⟩
        have h1 := HB.out.1
        rw [HB.out.2, ← hj, bcs_set n 2 i hlt (by omega), ← HB.out.2, hj] at h1
        exact h1
      case measure => simp [intOf]; omega
    · obtain rfl : i = 2 := by omega
      have hconv := run_convert_bytes_arg (P := Try.prog) wr 75 5 Try.underlying75 (by kernel_rfl) g 0 2 8 (nums n 2) rfl (by
        intro j hj
        rw [Nat.zero_add, hB.cell j, bcs_get n 2 2 j (by omega), if_pos ⟨by omega, hj⟩]
        congr 2
        exact (nums_get n 2 j hj).symm) 9 (by kernel_rfl)
      rw [str_nums] at hconv
      clear hB
      go_wp2_with fail
      go_ret
      exact ⟨rfl, by rw [hg.out]; exact hb⟩
set_option maxRecDepth 100000 in
set_option maxHeartbeats 1000000 in
theorem pnum4_any (n : Nat) (w : World) (hn : n < 4294967296) :
    Calls Try.prog 50 #[.int .u32 n, .int .i64 4] w fun e w' => e = .returned (.string (numB n 4)) ∧ Below w.heap.size w w' := by
  have b0 : Blk (w.alloc (.cells (bcs n 4 0).toArray 98)) w.heap.size 98 (bcs n 4 0).toArray := Blk.new _ _ _
  have e0 : bcs n 4 0 = [.int .u8 0, .int .u8 0, .int .u8 0, .int .u8 0, .int .u8 0, .int .u8 0, .int .u8 0, .int .u8 0] := by
    unfold bcs
    rw [show List.range 8 = [0, 1, 2, 3, 4, 5, 6, 7] from rfl]
    simp only [List.map_cons, List.map_nil]
    simp
  rw [e0] at b0
  have hb0 : Below w.heap.size w (w.alloc (.cells #[.int .u8 0, .int .u8 0, .int .u8 0, .int .u8 0, .int .u8 0, .int .u8 0, .int .u8 0, .int .u8 0] 98)) := (Below.refl _ w).alloc (Nat.le_refl _) _
  go_enter Try.func50, Try.ntmps50
  go_upto_block 0 with (fail)
  have e0' : (#[.int .u8 0, .int .u8 0, .int .u8 0, .int .u8 0, .int .u8 0, .int .u8 0, .int .u8 0, .int .u8 0] : Array Value) = (bcs n 4 0).toArray := by rw [e0]
  have b0' : Blk (w.alloc (.cells #[.int .u8 0, .int .u8 0, .int .u8 0, .int .u8 0, .int .u8 0, .int .u8 0, .int .u8 0, .int .u8 0] 98)) w.heap.size 98 (bcs n 4 0).toArray := by rw [← e0']; exact b0
  clear b0 e0 e0'
  generalize w.alloc (.cells #[.int .u8 0, .int .u8 0, .int .u8 0, .int .u8 0, .int .u8 0, .int .u8 0, .int .u8 0, .int .u8 0] 98) = w1 at *
  generalize hg : w.heap.size = g at *
  replace hg := Lib.hid hg
  go_wp2_with fail
  go_loopw [8] (fun p wr => ∃ i : Nat, p = .int .i64 i ∧ i ≤ 4 ∧ Blk wr g 98 (bcs n 4 i).toArray ∧ Below g w wr) (fun p _ => 4 - (intOf p).toNat)
  case atStart => exact ⟨0, rfl, by omega, b0', hb0⟩
  case round =>
    clear b0' hb0
    obtain ⟨i, rfl, hi, hB, hb⟩ := hrel
    by_cases hlt : i < 4
    · have hf := hB.frozen (4 - 1 - i)
      have hc : wr.cell? ⟨g, 4 - 1 - i, none⟩ = some _ := (hB.cell (4 - 1 - i)).trans (bcs_get n 4 i (4 - 1 - i) (by omega))
      obtain ⟨j, hj⟩ : ∃ j, 4 - 1 - i = j := ⟨_, rfl⟩
      have hji : (3 : Int) - (i : Int) = (j : Int) := by omega
      rw [hj] at hf hc
      have HB := Lib.hid (And.intro (hB.set_ j (.int .u8 ((n : Int) / 2 ^ (8 * i) % 256))) (show (n : Int) / 2 ^ (8 * i) % 256 = ((n / 256 ^ i % 256 : Nat) : Int) by rw [sh_eq]))
      have hgg : g ≤ g := Nat.le_refl g
      go_wp2_with fail
      go_roundw
      case rel =>
        refine ⟨i + 1, vint (by omega), by omega, ?_, hb.setCell (p := ⟨g, j, none⟩) (Nat.le_refl g) _⟩
        have h1 := HB.out.1
        rw [HB.out.2, ← hj, bcs_set n 4 i hlt (by omega), ← HB.out.2, hj] at h1
        exact h1
      case measure => simp [intOf]; omega
    · obtain rfl : i = 4 := by omega
      have hconv := run_convert_bytes_arg (P := Try.prog) wr 75 5 Try.underlying75 (by kernel_rfl) g 0 4 8 (nums n 4) rfl (by
        intro j hj
        rw [Nat.zero_add, hB.cell j, bcs_get n 4 4 j (by omega), if_pos ⟨by omega, hj⟩]
        congr 2
        exact (nums_get n 4 j hj).symm) 9 (by kernel_rfl)
      rw [str_nums] at hconv
      clear hB
      go_wp2_with fail
      go_ret
      exact ⟨rfl, by rw [hg.out]; exact hb⟩
set_option maxRecDepth 100000 in
theorem ptwo_any (n : Nat) (w : World) (hn : n < 65536) : Calls Try.prog 26 #[.int .u16 n] w fun e w' => e = .returned (.string (numB n 2)) ∧ Below w.heap.size w w' := by
  have hc := pnum2_any n w hn
  go_enter Try.func26, Try.ntmps26
  go_wp2_with fail
  refine hc.mono ?_
  rintro e w1 ⟨rfl, hb⟩
  go_wp2_with fail
  go_ret
  exact ⟨rfl, hb⟩
set_option maxRecDepth 100000 in
theorem pfour_any (n : Nat) (w : World) (hn : n < 4294967296) : Calls Try.prog 27 #[.int .u32 n] w fun e w' => e = .returned (.string (numB n 4)) ∧ Below w.heap.size w w' := by
  have hc := pnum4_any n w hn
  go_enter Try.func27, Try.ntmps27
  go_wp2_with fail
  refine hc.mono ?_
  rintro e w1 ⟨rfl, hb⟩
  go_wp2_with fail
  go_ret
  exact ⟨rfl, hb⟩
end Go.Proofs.Ytepmgcgpioljiaa
