import Derived.Test.YtekgoliakgknjaaMapI
import Derived.Test.YtekgoliakgknjaaRows
namespace Go.Proofs.Ytekgoliakgknjaa
open Go.RowKit
set_option linter.unusedVariables false
attribute [local go_sem] b_max2 b_min2 b_max b_min

/-- so many bytes of a number, the greatest first -/
def numB (n : Nat) : Nat → ByteArray
  | 0 => ⟨#[]⟩
  | k + 1 => ⟨#[UInt8.ofNat (n / 256 ^ k % 256)]⟩ ++ numB n k
theorem numB_size (n k : Nat) : (numB n k).size = k := by
  induction k with
  | zero => rfl
  | succ k ih => rw [numB, ByteArray.size_append, ih]; show 1 + k = k + 1; omega

set_option maxRecDepth 100000 in
set_option maxHeartbeats 1000000 in
theorem num_any (n k : Nat) (w : World) (hn : n < 18446744073709551616) (hk : k ≤ 8) :
    Calls Try.prog 77 #[.int .u64 n, .int .i64 k] w fun e w' => e = .returned (.string (numB n k)) ∧ Below w.heap.size w w' := by
  go_enter Try.func77, Try.ntmps77
  go_wp2_with fail
  go_loopw [0, 5, 6] (fun a s p wr => ∃ i : Nat, p = .int .i64 i ∧ i ≤ k ∧ a = .int .u64 ((n / 256 ^ i : Nat) : Int) ∧ s = .string (numB n i) ∧ Below w.heap.size w wr) (fun _ _ p _ => k - (intOf p).toNat)
  case atStart => exact ⟨0, rfl, by omega, by simp, rfl, Below.refl _ _⟩
  case round =>
    obtain ⟨i, rfl, hi, rfl, rfl, hb⟩ := hrel
    by_cases hlt : i < k
    · have hs := numB_size n i
      have hB := hb.size
      have hdv : n / 256 ^ i < 18446744073709551616 := Nat.lt_of_le_of_lt (Nat.div_le_self _ _) hn
      generalize hm : n / 256 ^ i = m at *
      have hconv := run_convert_bytes_arg (P := Try.prog) (wr.alloc (.cells #[.int .u8 ((m : Int) % 256)] 5)) 28 5 Try.underlying28 (by kernel_rfl) wr.heap.size 0 1 1 [(m : Int) % 256] rfl (by
        intro i hi
        obtain rfl : i = 0 := by omega
        exact (Blk.new wr 5 #[.int .u8 ((m : Int) % 256)]).cell 0) 9 (by kernel_rfl)
      have hstr : strOfNums [(m : Int) % 256] = ⟨#[UInt8.ofNat (m % 256)]⟩ := by
        show (⟨([(m : Int) % 256].map _).toArray⟩ : ByteArray) = _
        rw [List.map_cons, List.map_nil]
        congr 2
      rw [hstr] at hconv
      have hsz1 : (⟨#[UInt8.ofNat (m % 256)]⟩ : ByteArray).size = 1 := rfl
      have hnew : numB n (i + 1) = ⟨#[UInt8.ofNat (m % 256)]⟩ ++ numB n i := by rw [numB, hm]
      generalize (⟨#[UInt8.ofNat (m % 256)]⟩ : ByteArray) = c at *
      have hm2 : m / 256 = n / 256 ^ (i + 1) := by rw [← hm, Nat.div_div_eq_div_mul, Nat.pow_succ]
      have HN := Lib.hid hnew; have HM := Lib.hid hm2; clear hnew hm2 hstr
      have hsum : c.size + (numB n i).size ≤ 9223372036854775807 := by omega
      go_wp2_with fail
      go_roundw
      case rel => exact ⟨i + 1, vint (by omega), by omega, by rw [← HM.out]; exact vint (by omega), by rw [HN.out], hb.alloc hB _⟩
      case measure => simp [intOf]; omega
    · obtain rfl : i = k := by omega
      go_wp2_with fail
      go_ret
      exact ⟨rfl, hb⟩

def zeros (n : Nat) : ByteArray := ⟨(List.replicate n (0 : UInt8)).toArray⟩
theorem zeros_size (n : Nat) : (zeros n).size = n := by simp [zeros, ByteArray.size]
theorem u8_info : (Try.prog.info? 5).map (fun i => (i.zero, i.size, i.bytes)) = some (some (.int .u8 0), 1, 1) := by kernel_rfl
/-- string(make([]byte, n)) -/
theorem zero_text (w : World) (n : Nat) (hn : n ≤ 100000) : ∃ w1, (Instr.makeSlice 28 (.int .i64 (n : Nat)) (.int .i64 (n : Nat))).run Try.prog w = .ok (.slice (some ⟨w.heap.size, 0, none⟩) n n) w1 ∧
    (convert 28 9 (.slice (some ⟨w.heap.size, 0, none⟩) n n)).run Try.prog w1 = .ok (.string (zeros n)) w1 ∧ Below w.heap.size w w1 := by
  obtain ⟨i5, hi, hz0, hz1, hz2⟩ := info_parts u8_info
  obtain ⟨w5, hrun, hown, hgr⟩ := run_make_full (P := Try.prog) w 0 28 5 i5 (.int .u8 0) 1 Try.underlying28 hi hz0 hz1 .i64 .i64 n (by rw [hz2]; omega) (by simp only [maxLen]; omega) (Nat.zero_le _)
  have hcell : ∀ i, i < n → w5.cell? ⟨w.heap.size, 0 + i, none⟩ = some (.int .u8 ((List.replicate n 0).getD i 0)) := by
    intro i hi
    rw [Nat.zero_add, hown.cellAt i (by omega)]
    rw [show (Value.int IntKind.u8 0).cells = #[.int .u8 0] from rfl, toList_madeCells_one, List.getElem?_replicate, if_pos (by omega)]
    simp [hi]
  have hconv := run_convert_bytes_arg (P := Try.prog) w5 28 5 Try.underlying28 (by kernel_rfl) w.heap.size 0 n n (List.replicate n 0) (by simp) hcell 9 (by kernel_rfl)
  refine ⟨w5, hrun, ?_, ⟨hgr.os, hgr.tape, hgr.output, hgr.size, fun k hk => hgr.block k hk (by simp)⟩⟩
  have hst : strOfNums (List.replicate n 0) = zeros n := by
    unfold strOfNums zeros
    rw [List.map_replicate]; rfl
  rw [hst] at hconv
  exact hconv

set_option maxRecDepth 100000 in
set_option maxHeartbeats 1000000 in
theorem text_any (s : ByteArray) (w : World) (hs : s.size ≤ 65535) :
    Calls Try.prog 63 #[.string s] w fun e w' => e = .returned (.tuple #[.string (numB s.size 2 ++ s), .int .i64 0]) ∧ Below w.heap.size w w' := by
  go_enter Try.func63, Try.ntmps63
  go_wp2_with fail
  refine (num_any s.size 2 _ (by omega) (by omega)).mono ?_
  rintro e w1 ⟨rfl, hb1⟩
  have hn := numB_size s.size 2
  have hsum : (numB s.size 2).size + s.size ≤ 9223372036854775807 := by omega
  go_wp2_with fail
  go_ret2
  exact ⟨rfl, hb1⟩
set_option maxRecDepth 100000 in
set_option maxHeartbeats 1000000 in
theorem fill_any (s : ByteArray) (w : World) (hs : s.size ≤ 510) :
    Calls Try.prog 44 #[.string s] w fun e w' => e = .returned (.tuple #[.string (numB s.size 2 ++ s ++ zeros (510 - s.size)), .int .i64 0]) ∧ Below w.heap.size w w' := by
  go_enter Try.func44, Try.ntmps44
  go_wp2_with fail
  refine (text_any s _ (by omega)).mono ?_
  rintro e w1 ⟨rfl, hb1⟩
  have hsz : (numB s.size 2 ++ s).size = s.size + 2 := by rw [ByteArray.size_append, numB_size]; omega
  generalize hS : numB s.size 2 ++ s = S at *
  replace hS := Lib.hid hS
  obtain ⟨w2, hm, hc, hb2⟩ := zero_text w1 (510 - s.size) (by omega)
  rw [show ((510 - s.size : Nat) : Int) = 512 - ((s.size : Int) + 2) by omega] at hm
  have hz := zeros_size (510 - s.size)
  have hsum : S.size + (zeros (510 - s.size)).size ≤ 9223372036854775807 := by omega
  generalize hZ : zeros (510 - s.size) = Z at *
  replace hZ := Lib.hid hZ
  go_wp2_with fail
  go_ret2
  exact ⟨by rw [hS.out, hZ.out]; rfl, hb1.trans (hb2.mono hb1.size)⟩
/-- a sector of one byte's text -/
def sec (c : Nat) : ByteArray := numB 1 2 ++ ⟨#[UInt8.ofNat c]⟩ ++ zeros 509
theorem sec_size (c : Nat) : (sec c).size = 512 := by
  rw [sec, ByteArray.size_append, ByteArray.size_append, numB_size, zeros_size]; rfl
theorem sec_ne (c : Nat) : sec c ≠ zeros 512 := by
  intro e
  have h := congrArg (fun s : ByteArray => s.data[1]?) e
  simp only [sec, zeros, ByteArray.data_append] at h
  rw [Array.append_assoc, Array.getElem?_append_left (by show 1 < 2; omega)] at h
  rw [show (numB 1 2).data[1]? = some 1 from by decide] at h
  rw [List.getElem?_toArray, List.getElem?_replicate, if_pos (by omega)] at h
  exact absurd (Option.some.inj h) (by decide)
set_option maxRecDepth 100000 in
set_option maxHeartbeats 1000000 in
theorem sector_any (c : Nat) (w : World) (hc : c < 256) :
    Calls Try.prog 13 #[.int .u8 c] w fun e w' => e = .returned (.string (sec c)) ∧ Below w.heap.size w w' := by
  go_enter Try.func13, Try.ntmps13
  have hconv := run_convert_bytes_arg (P := Try.prog) (w.alloc (.cells #[.int .u8 (c : Int)] 5)) 28 5 Try.underlying28 (by kernel_rfl) w.heap.size 0 1 1 [(c : Int)] rfl (by
    intro i hi
    obtain rfl : i = 0 := by omega
    exact (Blk.new w 5 #[.int .u8 (c : Int)]).cell 0) 9 (by kernel_rfl)
  have hstr : strOfNums [(c : Int)] = ⟨#[UInt8.ofNat c]⟩ := by
    show (⟨([(c : Int)].map _).toArray⟩ : ByteArray) = _
    rw [List.map_cons, List.map_nil]
    congr 2
  rw [hstr] at hconv
  go_wp2_with fail
  refine (fill_any ⟨#[UInt8.ofNat c]⟩ _ (by show 1 ≤ 510; omega)).mono ?_
  rintro e w1 ⟨rfl, hb1⟩
  go_wp2_with fail
  go_ret
  exact ⟨rfl, ((Below.refl _ w).alloc (Nat.le_refl _) _).trans (hb1.mono (by simp))⟩
end Go.Proofs.Ytekgoliakgknjaa
