import Derived.Test.YtepmgcgpioljiaaInC
import Derived.Test.YtepmgcgpioljiaaInG
import Derived.Test.YtepmgcgpioljiaaFr
namespace Go.Proofs.Ytepmgcgpioljiaa
open Go.RowKit
set_option linter.unusedVariables false
attribute [local go_sem] b_max2 b_min2 b_max b_min

/-- how many bytes 0 lie behind s in its last sector -/
def zeros (n : Nat) : ByteArray := ⟨(List.replicate n (0 : UInt8)).toArray⟩
theorem zeros_size (n : Nat) : (zeros n).size = n := by simp [zeros, ByteArray.size]
/-- sectors of s -/
def secs (n : Nat) : Nat := (n + 511) / 512
/-- s, filled up with bytes 0 -/
def pad (s : ByteArray) : ByteArray := s ++ zeros (512 * secs s.size - s.size)
theorem pad_size (s : ByteArray) : (pad s).size = 512 * secs s.size := by
  rw [pad, ByteArray.size_append, zeros_size, secs]; omega
/-- the sectors of P -/
def rows (P : ByteArray) (n : Nat) : List Value := (List.range n).map fun k => .string (P.extract (512 * k) (512 * k + 512))
theorem rows_len (P : ByteArray) (n : Nat) : (rows P n).length = n := by simp [rows]
theorem rows_get (P : ByteArray) {n k : Nat} (h : k < n) : (rows P n)[k]? = some (.string (P.extract (512 * k) (512 * k + 512))) := by
  rw [rows, List.getElem?_map, List.getElem?_range h]; rfl
theorem rows_succ (P : ByteArray) (n : Nat) : rows P (n + 1) = rows P n ++ [.string (P.extract (512 * n) (512 * n + 512))] := by
  rw [rows, List.range_succ, List.map_append]; rfl
/-- the last sector -/
theorem pad_last (s : ByteArray) (i : Nat) (h0 : 512 * i < s.size) (h1 : s.size < 512 * i + 512) :
    s.extract (512 * i) s.size ++ zeros (512 - (s.size - 512 * i)) = (pad s).extract (512 * i) (512 * i + 512) := by
  have hn : 512 * secs s.size = 512 * i + 512 := by unfold secs; omega
  have hz : 512 * secs s.size - s.size = 512 - (s.size - 512 * i) := by omega
  rw [pad, hz]
  apply ByteArray.ext
  have hs : s.data.size = s.size := rfl
  have hzz : (zeros (512 - (s.size - 512 * i))).data.size = 512 - (s.size - 512 * i) := zeros_size _
  rw [ByteArray.data_append, ByteArray.data_extract, ByteArray.data_extract, ByteArray.data_append, Array.extract_append]
  congr 1
  · apply Array.ext
    · simp; omega
    · intro k h1 h2; simp
  · rw [show 512 * i - s.data.size = 0 by omega, Array.extract_eq_self_of_le (by omega)]

set_option maxRecDepth 100000 in
set_option maxHeartbeats 1000000 in
theorem cut_any (s : ByteArray) (w : World) (hs : s.size ≤ 1000000) :
    Calls Try.prog 15 #[.string s] w fun e w' => ∃ v, e = .returned v ∧ w'.ownsRow w.heap.size 9 1 v (secs s.size) (rows (pad s) (secs s.size)) ∧ Below w.heap.size w w' := by
  obtain ⟨i0, hi, hz0, hz1, hz2⟩ := info_parts str_info
  go_enter Try.func15, Try.ntmps15
  go_wp2_with fail
  go_loopw [0, 3] (fun p v wr => ∃ (i : Nat) (X : ByteArray), p = .string X ∧ Hid (X = s.extract (512 * i) s.size ∧ X.size = s.size - 512 * i) ∧ X.size ≤ s.size ∧ 512 * i ≤ s.size ∧
      wr.ownsRow w.heap.size 9 1 v i (rows (pad s) i) ∧ Below w.heap.size w wr) (fun p _ _ => match p with | .string X => X.size | _ => 0)
  case atStart => exact ⟨0, s, rfl, Lib.hid ⟨(ext_all s (Nat.le_refl _)).symm, by omega⟩, by omega, by omega, World.ownsRow_nil _ _ _ _, Below.refl _ _⟩
  case round =>
    obtain ⟨i, X, rfl, hX, hsz, hle, hown, hb⟩ := hrel
    have hB := hb.size
    by_cases hlt : 512 ≤ X.size
    · have hP : X.extract 0 512 = (pad s).extract (512 * i) (512 * i + 512) := by
        obtain ⟨h1, h2⟩ := hX.out
        rw [h1, ext_ext _ _ _ _ _ (by omega), pad, ext_left _ _ (by omega)]; rfl
      have hX2 : X.extract 512 X.size = s.extract (512 * (i + 1)) s.size ∧ (X.extract 512 X.size).size = s.size - 512 * (i + 1) ∧ 512 * (i + 1) ≤ s.size := by
        obtain ⟨h1, h2⟩ := hX.out
        refine ⟨?_, by rw [ByteArray.size_extract]; omega, by omega⟩
        rw [h2, h1, ByteArray.extract_extract]
        congr 1
        omega
      have HP := Lib.hid hP; have HX := Lib.hid hX2; clear hP hX2
      go_wp2_with (at_builtin; refine wpList_append_any _ rfl (.tmp 7) (.tmp 10) 32 rfl w.heap.size 9 i0 _ 1 16 Try.underlying32 hi hz0 hz1 hz2 rfl (by decide) _ _ _ rfl (hown.alloc _) (wr.heap.size + 1) (some ⟨wr.heap.size, 0, none⟩) 1 1 [.string (X.extract 0 512)] rfl (Reads.new wr #[.string (X.extract 0 512)] 9 1 rfl rfl) (by simp [Value.oneCell']) (by simp only [maxLen]; omega) (by omega) (by simp only [sz_alloc]; omega) ?_)
      intro v' w5 hown' hgrow hown''
      have hb5 : Below w.heap.size w w5 := (hb.alloc hb.size _).grown hgrow (by simp only [sz_alloc]; omega) (fun k hk => (World.ownsRow.lt hown k hk).1)
      go_wp2_with fail
      go_roundw
      case rel => exact ⟨i + 1, _, rfl, Lib.hid ⟨HX.out.1, HX.out.2.1⟩, by have := HX.out.2.1; omega, HX.out.2.2, by rw [rows_succ, ← HP.out]; exact hown', hb5⟩
      case measure => simp; have := HX.out.2.1; have := hX.out.2; omega
    · by_cases h0 : X.size = 0
      · have hi2 : secs s.size = i := by have := hX.out.2; unfold secs; omega
        have he := ba_nil h0
        clear hX
        subst he
        go_wp2_with fail
        go_ret
        rw [hi2]
        exact ⟨_, rfl, hown, hb⟩
      · have hi2 : secs s.size = i + 1 := by have := hX.out.2; unfold secs; omega
        have hne : X ≠ ⟨#[]⟩ := fun e => by subst e; exact h0 rfl
        have hne2 : (X == ⟨#[]⟩) = false := bne_ba hne
        have hP := pad_last s i (by have := hX.out.2; omega) (by have := hX.out.2; omega)
        rw [← hX.out.1, ← hX.out.2] at hP
        have HP := Lib.hid hP; clear hP
        have hne3 := ba_isEmpty h0
        clear hne
        have hv : IntKind.i64.wrap (512 - (X.size : Int)) = ((512 - X.size : Nat) : Int) := by rw [show (512 - (X.size : Int)) = ((512 - X.size : Nat) : Int) by omega]; exact IntWalk.i64_in _ (by omega)
        go_wp2_with fail
        refine (strings_Repeat ⟨#[0]⟩ (512 - X.size) _ (by omega) (by show 1 * _ ≤ _; omega)).mono ?_
        rintro e w4 ⟨rfl, hb4⟩
        rw [show (⟨(Lib.repeatL (⟨#[0]⟩ : ByteArray).data.toList (512 - X.size)).toArray⟩ : ByteArray) = zeros (512 - X.size) from by
          rw [show (⟨#[0]⟩ : ByteArray).data.toList = List.replicate 1 0 from rfl, Lib.repeatL_replicate, Nat.mul_one]; rfl]
        have hbw := hb.trans (hb4.mono hB)
        have hown4 := Fr.own_low hb4 hown
        have hB4 := hb4.size
        have hzs : X.size + (zeros (512 - X.size)).size ≤ 9223372036854775807 := by rw [zeros_size]; omega
        go_wp2_with (at_builtin; refine wpList_append_any _ rfl (.tmp 16) (.tmp 23) 32 rfl w.heap.size 9 i0 _ 1 16 Try.underlying32 hi hz0 hz1 hz2 rfl (by decide) _ _ _ rfl (hown4.alloc _) (w4.heap.size + 1) (some ⟨w4.heap.size, 0, none⟩) 1 1 [.string (X ++ zeros (512 - X.size))] rfl (Reads.new w4 #[.string (X ++ zeros (512 - X.size))] 9 1 rfl rfl) (by simp [Value.oneCell']) (by simp only [maxLen]; omega) (by omega) (by simp only [sz_alloc]; omega) ?_)
        intro v' w5 hown' hgrow hown''
        have hb5 : Below w.heap.size w w5 := (hbw.alloc (by omega) _).grown hgrow (by simp only [sz_alloc]; omega) (fun k hk => (World.ownsRow.lt hown k hk).1)
        go_wp2_with fail
        go_ret
        rw [hi2]
        exact ⟨_, rfl, by rw [rows_succ, ← HP.out]; exact hown', hb5⟩
end Go.Proofs.Ytepmgcgpioljiaa
