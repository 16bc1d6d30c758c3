import Derived.Test.YtepmgcgpioljiaaInJ
namespace Go.Proofs.Ytepmgcgpioljiaa
open Go.RowKit
set_option linter.unusedVariables false
attribute [local go_sem] b_max2 b_min2 b_max b_min

/-! ### the reader of package pack -/
/-- the number that i bytes are -/
def valB (s : ByteArray) : Nat → Nat
  | 0 => 0
  | i + 1 => valB s i * 256 + (s.data.getD i 0).toNat
theorem valB_lt (s : ByteArray) (i : Nat) : valB s i < 256 ^ i := by
  induction i with
  | zero => simp [valB]
  | succ i ih =>
    have := (s.data.getD i 0).toNat_lt
    rw [valB, Nat.pow_succ]
    omega
theorem or_byte (a b : Nat) (ha : a < 4294967296) (hb : b < 256) : bits .or .u64 (IntKind.u64.wrap ((a : Int) * 256)) (IntKind.u64.wrap (b : Int)) = ((a * 256 + b : Nat) : Int) := by
  have e1 : IntKind.u64.wrap ((a : Int) * 256) = ((a * 256 : Nat) : Int) := by rw [IntKind.wrap_u64]; omega
  have e2 : IntKind.u64.wrap (b : Int) = (b : Int) := by rw [IntKind.wrap_u64]; omega
  rw [e1, e2]
  have key : (BitVec.ofInt 64 ((a * 256 : Nat) : Int) ||| BitVec.ofInt 64 (b : Int)).toNat = a * 256 + b := by
    rw [BitVec.toNat_or, BitVec.toNat_ofInt, BitVec.toNat_ofInt]
    have h1 : (((a * 256 : Nat) : Int) % ((2 ^ 64 : Nat) : Int)).toNat = 2 ^ 8 * a := by omega
    have h2 : ((b : Int) % ((2 ^ 64 : Nat) : Int)).toNat = b := by omega
    rw [h1, h2, ← Nat.two_pow_add_eq_or_of_lt (by omega : b < 2 ^ 8) a]
    omega
  show IntKind.u64.wrap ((BitVec.ofInt 64 ((a * 256 : Nat) : Int) ||| BitVec.ofInt 64 (b : Int)).toNat : Nat) = _
  rw [key, IntKind.wrap_u64]
  omega
/-- what a reader holds: what is left, and whether it went wrong -/
abbrev RD := ByteArray × Bool
def rdTake (k : Nat) (r : RD) : (ByteArray × Bool) × RD := if r.2 = true ∨ r.1.size < k then ((⟨#[]⟩, false), (r.1, true)) else ((r.1.extract 0 k, true), (r.1.extract k r.1.size, false))
def rdNum (k : Nat) (r : RD) : Nat × RD := if r.2 = true ∨ r.1.size < k then (0, (r.1, true)) else (valB r.1 k, (r.1.extract k r.1.size, false))
def IsP (w : World) (g : Nat) (r : RD) : Prop := Blk w g 87 #[.string r.1, .bool r.2]
abbrev FG (g : Nat) : Nat → Prop := fun k => k = g
section
variable {w : World} {g : Nat} {r : RD}
set_option maxRecDepth 100000 in
set_option maxHeartbeats 1000000 in
theorem ptake_any (h : IsP w g r) (k : Nat) (hk : k ≤ 8) :
    Calls Try.prog 62 #[.pointer (some ⟨g, 0, none⟩), .int .i64 k] w fun e w' => e = .returned (.tuple #[.string (rdTake k r).1.1, .bool (rdTake k r).1.2]) ∧ IsP w' g (rdTake k r).2 ∧ Fr (FG g) w w' ∧ w'.heap.size = w.heap.size := by
  obtain ⟨s, b⟩ := r
  have c0 : w.cell? ⟨g, 0, none⟩ = some (.string s) := h.cell 0
  have c1 : w.cell? ⟨g, 1, none⟩ = some (.bool b) := h.cell 1
  have f0 := h.frozen 0
  have f1 := h.frozen 1
  cases b with
  | true =>
    have e : rdTake k (s, true) = ((⟨#[]⟩, false), (s, true)) := if_pos (.inl rfl)
    rw [e]
    have hb := h.set_ 1 (.bool true)
    have hfr : Fr (FG g) w (w.setCell ⟨g, 1, none⟩ (.bool true)) := Fr.setCell w g 1 _ rfl
    have HB := Lib.hid hb; have HF := Lib.hid hfr; clear hb hfr h e
    go_enter Try.func62, Try.ntmps62
    go_wp2_with fail
    go_ret2
    exact ⟨rfl, HB.out, HF.out, by simp⟩
  | false =>
    by_cases hlt : s.size < k
    · have e : rdTake k (s, false) = ((⟨#[]⟩, false), (s, true)) := if_pos (.inr hlt)
      rw [e]
      have hb := h.set_ 1 (.bool true)
      have hfr : Fr (FG g) w (w.setCell ⟨g, 1, none⟩ (.bool true)) := Fr.setCell w g 1 _ rfl
      have hd : decide ((s.size : Int) < (k : Int)) = true := by rw [decide_eq_true_eq]; omega
      have HB := Lib.hid hb; have HF := Lib.hid hfr; clear hb hfr h e
      go_enter Try.func62, Try.ntmps62
      go_wp2_with fail
      go_ret2
      exact ⟨rfl, HB.out, HF.out, by simp⟩
    · have e : rdTake k (s, false) = ((s.extract 0 k, true), (s.extract k s.size, false)) := if_neg (by simp; omega)
      rw [e]
      have hb := (h.set_ 1 (.bool false)).set_ 0 (.string (s.extract k s.size))
      have hfr : Fr (FG g) w ((w.setCell ⟨g, 1, none⟩ (.bool false)).setCell ⟨g, 0, none⟩ (.string (s.extract k s.size))) := (Fr.setCell (F := FG g) w g 1 _ rfl).trans (Fr.setCell (F := FG g) _ g 0 _ rfl)
      have hd : decide ((s.size : Int) < (k : Int)) = false := by rw [decide_eq_false_iff_not]; omega
      have hks : (k : Int) ≤ (s.size : Int) := by omega
      have HB := Lib.hid hb; have HF := Lib.hid hfr; clear hb hfr h e
      go_enter Try.func62, Try.ntmps62
      go_wp2_with fail
      go_ret2
      exact ⟨rfl, HB.out, HF.out, by simp⟩
set_option maxRecDepth 100000 in
set_option maxHeartbeats 1000000 in
theorem pnumber_any (h : IsP w g r) (k : Nat) (hk : k ≤ 4) :
    Calls Try.prog 51 #[.pointer (some ⟨g, 0, none⟩), .int .i64 k] w fun e w' => e = .returned (.int .u64 (rdNum k r).1) ∧ IsP w' g (rdNum k r).2 ∧ Fr (FG g) w w' ∧ w'.heap.size = w.heap.size := by
  have ht := ptake_any h k (by omega)
  obtain ⟨t, ok, r', hrt, htn, hts⟩ : ∃ t ok r', rdTake k r = ((t, ok), r') ∧ rdNum k r = (valB t t.size, r') ∧ t.size ≤ 4 := by
    unfold rdTake rdNum
    by_cases hc : r.2 = true ∨ r.1.size < k
    · rw [if_pos hc, if_pos hc]; exact ⟨_, _, _, rfl, rfl, by simp [ByteArray.size]⟩
    · rw [if_neg hc, if_neg hc]
      have hsz : (r.1.extract 0 k).size = k := by rw [ByteArray.size_extract]; omega
      refine ⟨_, _, _, rfl, ?_, by rw [hsz]; exact hk⟩
      rw [hsz]
      congr 1
      have hsub : ∀ i, i ≤ k → valB r.1 i = valB (r.1.extract 0 k) i := by
        intro i
        induction i with
        | zero => intro _; rfl
        | succ i ih =>
          intro hi
          rw [valB, valB, ih (by omega)]
          congr 2
          rw [ByteArray.data_extract, Array.getD_eq_getD_getElem?, Array.getD_eq_getD_getElem?, Array.getElem?_extract]
          rw [if_pos (by have : r.1.data.size = r.1.size := rfl; omega), Nat.zero_add]
      exact hsub k (Nat.le_refl _)
  rw [hrt] at ht
  rw [htn]
  clear hrt htn h
  go_enter Try.func51, Try.ntmps51
  go_wp2_with fail
  refine ht.mono ?_
  rintro e w1 ⟨rfl, hP, hF, hS⟩
  go_wp2_with fail
  go_loopw [8, 20] (fun v p wr => ∃ i : Nat, p = .int .i64 i ∧ i ≤ t.size ∧ v = .int .u64 (valB t i) ∧ w1 = wr) (fun _ p _ => t.size - (intOf p).toNat)
  case atStart => exact ⟨0, rfl, by omega, rfl, rfl⟩
  case round =>
    obtain ⟨i, rfl, hi, rfl, rfl⟩ := hrel
    by_cases hlt : i < t.size
    · have hv := valB_lt t i
      have hv2 : valB t i < 4294967296 := by
        have : (256 : Nat) ^ i ≤ 256 ^ 3 := Nat.pow_le_pow_right (by omega) (by omega)
        omega
      have hby : t[i].toNat = (t.data.getD i 0).toNat := by
        rw [Array.getD_eq_getD_getElem?, Array.getElem?_eq_getElem (show i < t.data.size from hlt)]; rfl
      have hob := or_byte (valB t i) t[i].toNat hv2 (t[i].toNat_lt)
      have HO := Lib.hid (And.intro hob hby); clear hob hby hv hv2
      go_wp2_with fail
      go_roundw
      case rel => exact ⟨i + 1, vint (by omega), by omega, vint (by rw [HO.out.1, HO.out.2]; rfl), by first | rfl | trivial⟩
      case measure => simp [intOf]; omega
    · obtain rfl : i = t.size := by omega
      go_wp2_with fail
      go_ret
      exact ⟨rfl, hP, hF, hS⟩
set_option maxRecDepth 100000 in
theorem pTwo_any (h : IsP w g r) : Calls Try.prog 30 #[.pointer (some ⟨g, 0, none⟩)] w fun e w' => e = .returned (.int .i64 (rdNum 2 r).1) ∧ IsP w' g (rdNum 2 r).2 ∧ Fr (FG g) w w' ∧ w'.heap.size = w.heap.size := by
  have hn := pnumber_any h 2 (by omega)
  have hlt : (rdNum 2 r).1 < 65536 := by unfold rdNum; split; exact (by omega : 0 < 65536); exact valB_lt _ 2
  generalize rdNum 2 r = nr at *
  obtain ⟨n, r'⟩ := nr
  dsimp only at *
  clear h
  go_enter Try.func30, Try.ntmps30
  go_wp2_with fail
  refine hn.mono ?_
  rintro e w1 ⟨rfl, hP, hF, hS⟩
  go_wp2_with fail
  go_ret
  exact ⟨rfl, hP, hF, hS⟩
set_option maxRecDepth 100000 in
theorem pFour_any (h : IsP w g r) : Calls Try.prog 29 #[.pointer (some ⟨g, 0, none⟩)] w fun e w' => e = .returned (.int .i64 (rdNum 4 r).1) ∧ IsP w' g (rdNum 4 r).2 ∧ Fr (FG g) w w' ∧ w'.heap.size = w.heap.size := by
  have hn := pnumber_any h 4 (by omega)
  have hlt : (rdNum 4 r).1 < 4294967296 := by unfold rdNum; split; exact (by omega : 0 < 4294967296); exact valB_lt _ 4
  generalize rdNum 4 r = nr at *
  obtain ⟨n, r'⟩ := nr
  dsimp only at *
  clear h
  go_enter Try.func29, Try.ntmps29
  go_wp2_with fail
  refine hn.mono ?_
  rintro e w1 ⟨rfl, hP, hF, hS⟩
  go_wp2_with fail
  go_ret
  exact ⟨rfl, hP, hF, hS⟩
def rdLeft (r : RD) : Nat := if r.2 = true then 0 else r.1.size
def rdEnd (r : RD) : Int := if r.2 = true ∨ r.1.size ≠ 0 then 10 else 0
set_option maxRecDepth 100000 in
theorem pLeft_any (h : IsP w g r) : Calls Try.prog 31 #[.pointer (some ⟨g, 0, none⟩)] w fun e w' => e = .returned (.int .i64 (rdLeft r)) ∧ w = w' := by
  obtain ⟨s, b⟩ := r
  have c0 : w.cell? ⟨g, 0, none⟩ = some (.string s) := h.cell 0
  have c1 : w.cell? ⟨g, 1, none⟩ = some (.bool b) := h.cell 1
  unfold rdLeft
  clear h
  cases b with
  | true =>
    rw [if_pos rfl]
    go_enter Try.func31, Try.ntmps31
    go_wp2_with fail
    go_ret
    exact ⟨rfl, rfl⟩
  | false =>
    rw [if_neg (by simp)]
    go_enter Try.func31, Try.ntmps31
    go_wp2_with fail
    go_ret
    exact ⟨rfl, rfl⟩
set_option maxRecDepth 100000 in
theorem pEnd_any (h : IsP w g r) : Calls Try.prog 32 #[.pointer (some ⟨g, 0, none⟩)] w fun e w' => e = .returned (.int .i64 (rdEnd r)) ∧ w = w' := by
  obtain ⟨s, b⟩ := r
  have c0 : w.cell? ⟨g, 0, none⟩ = some (.string s) := h.cell 0
  have c1 : w.cell? ⟨g, 1, none⟩ = some (.bool b) := h.cell 1
  unfold rdEnd
  clear h
  cases b with
  | true =>
    rw [if_pos (.inl rfl)]
    go_enter Try.func32, Try.ntmps32
    go_wp2_with fail
    go_ret
    exact ⟨rfl, rfl⟩
  | false =>
    by_cases hs : s.size = 0
    · rw [if_neg (by simp [hs])]
      have e := ba_nil hs
      subst e
      go_enter Try.func32, Try.ntmps32
      go_wp2_with fail
      go_ret
      exact ⟨rfl, rfl⟩
    · rw [if_pos (.inr hs)]
      have e := ba_isEmpty hs
      go_enter Try.func32, Try.ntmps32
      go_wp2_with fail
      go_ret
      exact ⟨rfl, rfl⟩
set_option maxRecDepth 100000 in
theorem pRead_any (s : ByteArray) (w : World) : Calls Try.prog 28 #[.string s] w fun e w' => e = .returned (.pointer (some ⟨w.heap.size, 0, none⟩)) ∧ IsP w' w.heap.size (s, false) ∧ Below w.heap.size w w' := by
  have hb := Blk.new w 87 #[.string s, .bool false]
  have hl : Below w.heap.size w (w.alloc (.cells #[.string s, .bool false] 87)) := (Below.refl _ w).alloc (Nat.le_refl _) _
  go_enter Try.func28, Try.ntmps28
  go_wp2_with fail
  go_ret
  exact ⟨rfl, hb, hl⟩
end
end Go.Proofs.Ytepmgcgpioljiaa
