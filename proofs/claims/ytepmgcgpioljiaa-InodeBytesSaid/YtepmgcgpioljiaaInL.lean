import Derived.Test.YtepmgcgpioljiaaInK
namespace Go.Proofs.Ytepmgcgpioljiaa
open Go.RowKit
set_option linter.unusedVariables false
attribute [local go_sem] b_max2 b_min2 b_max b_min

/-! ### the document's reader -/
structure IsQ (w : World) (g : Nat) (r : RD) : Prop where
  x : ∃ (S : ByteArray) (At : Nat), Blk w g 60 #[.string S, .int .i64 At, .bool r.2] ∧ At ≤ S.size ∧ r.1 = S.extract At S.size ∧ S.size ≤ 100000
section
variable {w : World} {g : Nat} {r : RD}
theorem byte_at (S : ByteArray) (At i : Nat) (h : At + i < S.size) : ((S.extract At S.size).data.getD i 0) = S[At + i] := by
  rw [ByteArray.data_extract, Array.getD_eq_getD_getElem?, Array.getElem?_extract]
  have hs : S.data.size = S.size := rfl
  rw [if_pos (by omega), Array.getElem?_eq_getElem (show At + i < S.data.size by omega)]
  rfl
set_option maxRecDepth 100000 in
set_option maxHeartbeats 1000000 in
theorem qnum_any (h : IsQ w g r) (k : Nat) (hk : k ≤ 4) :
    Calls Try.prog 52 #[.pointer (some ⟨g, 0, none⟩), .int .i64 k] w fun e w' => (∃ ok, e = .returned (.tuple #[.int .u64 (rdNum k r).1, .bool ok])) ∧ IsQ w' g (rdNum k r).2 ∧ Fr (FG g) w w' ∧ w'.heap.size = w.heap.size := by
  obtain ⟨s, b⟩ := r
  obtain ⟨S, At, hB, hAt, hs, hSz⟩ := h.x
  dsimp only at hB hs
  have c0 : w.cell? ⟨g, 0, none⟩ = some (.string S) := hB.cell 0
  have c1 : w.cell? ⟨g, 1, none⟩ = some (.int .i64 At) := hB.cell 1
  have c2 : w.cell? ⟨g, 2, none⟩ = some (.bool b) := hB.cell 2
  have f1 := hB.frozen 1
  have f2 := hB.frozen 2
  have hsz : s.size = S.size - At := by rw [hs, ByteArray.size_extract]; omega
  have hsub : IntKind.i64.wrap ((S.size : Int) - (At : Int)) = ((S.size - At : Nat) : Int) := by rw [IntWalk.i64_in _ (by omega)]; omega
  cases b with
  | true =>
    have e : rdNum k (s, true) = (0, (s, true)) := if_pos (.inl rfl)
    rw [e]
    have hfr : ∀ m, Fr (FG g) w ((w.drewN m).setCell ⟨g, 2, none⟩ (.bool true)) := fun m => (Fr.drewN _ _ m).trans (Fr.setCell (F := FG g) _ g 2 _ rfl)
    have hfin : ∀ m, IsQ ((w.drewN m).setCell ⟨g, 2, none⟩ (.bool true)) g (s, true) := fun m => ⟨⟨S, At, (hB.drewN m).set_ 2 (.bool true), hAt, hs, hSz⟩⟩
    have HB := Lib.hid hfin; have HF := Lib.hid hfr; clear hfr h e hfin hB
    go_enter Try.func52, Try.ntmps52
    go_wp2_with fail
    go_quiet (fail)
    go_wp2_with fail
    go_ret2
    exact ⟨⟨_, rfl⟩, HB.out _, HF.out _, by simp⟩
  | false =>
    by_cases hlt : s.size < k
    · have e : rdNum k (s, false) = (0, (s, true)) := if_pos (.inr hlt)
      rw [e]
      have hfr : ∀ m, Fr (FG g) w ((w.drewN m).setCell ⟨g, 2, none⟩ (.bool true)) := fun m => (Fr.drewN _ _ m).trans (Fr.setCell (F := FG g) _ g 2 _ rfl)
      have hfin : ∀ m, IsQ ((w.drewN m).setCell ⟨g, 2, none⟩ (.bool true)) g (s, true) := fun m => ⟨⟨S, At, (hB.drewN m).set_ 2 (.bool true), hAt, hs, hSz⟩⟩
      have hd : decide (((S.size - At : Nat) : Int) < (k : Int)) = true := by rw [decide_eq_true_eq]; omega
      have HB := Lib.hid hfin; have HF := Lib.hid hfr; clear hfr h e hfin hB
      go_enter Try.func52, Try.ntmps52
      go_wp2_with fail
      go_quiet (fail)
      go_wp2_with fail
      go_ret2
      exact ⟨⟨_, rfl⟩, HB.out _, HF.out _, by simp⟩
    · have e : rdNum k (s, false) = (valB s k, (s.extract k s.size, false)) := if_neg (by simp; omega)
      rw [e]
      have hd : decide (((S.size - At : Nat) : Int) < (k : Int)) = false := by rw [decide_eq_false_iff_not]; omega
      have hnew : s.extract k s.size = S.extract (At + k) S.size := by
        rw [hs, ByteArray.size_extract, ext_ext _ _ _ _ _ (by omega)]
        congr 1
        omega
      have hB1 := hB
      have HN := Lib.hid hnew; have HB := Lib.hid hB1; have HS := Lib.hid hs; clear h e hB hB1 hnew hs
      go_enter Try.func52, Try.ntmps52
      go_wp2_with fail
      go_quiet (fail)
      go_wp2_with fail
      go_loopw [6, 7] (fun v p wr => ∃ i : Nat, p = .int .i64 i ∧ i ≤ k ∧ v = .int .u64 (valB s i) ∧ Blk wr g 60 #[.string S, .int .i64 At, .bool false] ∧ Fr (FG g) w wr ∧ wr.heap.size = w.heap.size) (fun _ p _ => k - (intOf p).toNat)
      case atStart => exact ⟨0, rfl, by omega, rfl, HB.out.drewN _, Fr.drewN _ _ _, by simp⟩
      case round =>
        obtain ⟨i, rfl, hi, rfl, hBr, hFr, hSr⟩ := hrel
        have d0 : wr.cell? ⟨g, 0, none⟩ = some (.string S) := hBr.cell 0
        have d1 : wr.cell? ⟨g, 1, none⟩ = some (.int .i64 At) := hBr.cell 1
        have g1 := hBr.frozen 1
        by_cases hlt2 : i < k
        · have hv := valB_lt s i
          have hv2 : valB s i < 4294967296 := by
            have : (256 : Nat) ^ i ≤ 256 ^ 4 := Nat.pow_le_pow_right (by omega) (by omega)
            omega
          obtain ⟨ix, hix0⟩ : ∃ ix, At + i = ix := ⟨_, rfl⟩
          have hix : IntKind.i64.wrap ((At : Int) + (i : Int)) = (ix : Int) := by rw [IntWalk.i64_in _ (by omega)]; omega
          have hix2 : (At : Int) + (i : Int) = (ix : Int) := by omega
          have hin : ix < S.size := by omega
          have hin2 : (ix : Int) < (S.size : Int) := by omega
          have hbl := (S[ix]'hin).toNat_lt
          have hby : (s.data.getD i 0) = S[ix]'hin := by subst hix0; rw [HS.out]; exact byte_at S At i hin
          have hnx : valB s (i + 1) = valB s i * 256 + (S[ix]'hin).toNat := by rw [valB, hby]
          obtain ⟨vm, hvm⟩ : ∃ vm, valB s i * 256 = vm := ⟨_, rfl⟩
          have hw1 : IntKind.u64.wrap ((valB s i : Int) * 256) = (vm : Int) := by rw [IntKind.wrap_u64]; omega
          obtain ⟨vs, hvs⟩ : ∃ vs, vm + (S[ix]'hin).toNat = vs := ⟨_, rfl⟩
          have hw2 : IntKind.u64.wrap ((vm : Int) + (((S[ix]'hin).toNat : Nat) : Int)) = (vs : Int) := by rw [IntKind.wrap_u64]; omega
          rw [hvm, hvs] at hnx
          have HNX := Lib.hid hnx; clear hnx hby hvs hvm hix0 hv hv2
          go_wp2_with fail
          go_quiet (fail)
          go_wp2_with fail
          go_roundw
          case rel => exact ⟨i + 1, vint (by omega), by omega, by rw [HNX.out], hBr.drewN _, hFr.trans (Fr.drewN _ _ _), by simpa using hSr⟩
          case measure => simp [intOf]; omega
        · obtain rfl : i = k := by omega
          have hb2 := hBr.set_ 1 (.int .i64 ((At + i : Nat) : Int))
          have hF2 : Fr (FG g) w (wr.setCell ⟨g, 1, none⟩ (.int .i64 ((At + i : Nat) : Int))) := hFr.trans (Fr.setCell (F := FG g) _ g 1 _ rfl)
          have hfin : IsQ (wr.setCell ⟨g, 1, none⟩ (.int .i64 ((At + i : Nat) : Int))) g (s.extract i s.size, false) := ⟨⟨S, At + i, hb2, by omega, HN.out, hSz⟩⟩
          obtain ⟨ix, hix0⟩ : ∃ ix, At + i = ix := ⟨_, rfl⟩
          rw [hix0] at hF2 hfin
          have hix2 : (At : Int) + (i : Int) = (ix : Int) := by omega
          have HFI := Lib.hid (And.intro hfin hF2); clear hfin hF2 hb2 hBr hFr hix0
          go_wp2_with fail
          go_ret2
          exact ⟨⟨_, rfl⟩, HFI.out.1, HFI.out.2, by simpa using hSr⟩
set_option maxRecDepth 100000 in
theorem qTwo_any (h : IsQ w g r) : Calls Try.prog 33 #[.pointer (some ⟨g, 0, none⟩)] w fun e w' => e = .returned (.int .i64 (rdNum 2 r).1) ∧ IsQ w' g (rdNum 2 r).2 ∧ Fr (FG g) w w' ∧ w'.heap.size = w.heap.size := by
  have hn := qnum_any h 2 (by omega)
  have hlt : (rdNum 2 r).1 < 65536 := by unfold rdNum; split; exact (by omega : 0 < 65536); exact valB_lt _ 2
  generalize rdNum 2 r = nr at *
  obtain ⟨n, r'⟩ := nr
  dsimp only at *
  clear h
  go_enter Try.func33, Try.ntmps33
  go_wp2_with fail
  refine hn.mono ?_
  rintro e w1 ⟨⟨ok, rfl⟩, hP, hF, hS⟩
  go_wp2_with fail
  go_ret
  exact ⟨rfl, hP, hF, hS⟩
set_option maxRecDepth 100000 in
theorem qFour_any (h : IsQ w g r) : Calls Try.prog 34 #[.pointer (some ⟨g, 0, none⟩)] w fun e w' => e = .returned (.int .i64 (rdNum 4 r).1) ∧ IsQ w' g (rdNum 4 r).2 ∧ Fr (FG g) w w' ∧ w'.heap.size = w.heap.size := by
  have hn := qnum_any h 4 (by omega)
  have hlt : (rdNum 4 r).1 < 4294967296 := by unfold rdNum; split; exact (by omega : 0 < 4294967296); exact valB_lt _ 4
  generalize rdNum 4 r = nr at *
  obtain ⟨n, r'⟩ := nr
  dsimp only at *
  clear h
  go_enter Try.func34, Try.ntmps34
  go_wp2_with fail
  refine hn.mono ?_
  rintro e w1 ⟨⟨ok, rfl⟩, hP, hF, hS⟩
  go_wp2_with fail
  go_ret
  exact ⟨rfl, hP, hF, hS⟩
set_option maxRecDepth 100000 in
theorem qLeft_any (h : IsQ w g r) : Calls Try.prog 35 #[.pointer (some ⟨g, 0, none⟩)] w fun e w' => e = .returned (.int .i64 (rdLeft r)) ∧ IsQ w' g r ∧ Below w.heap.size w w' := by
  obtain ⟨s, b⟩ := r
  obtain ⟨S, At, hB, hAt, hs, hSz⟩ := h.x
  dsimp only at hB hs
  have c0 : w.cell? ⟨g, 0, none⟩ = some (.string S) := hB.cell 0
  have c1 : w.cell? ⟨g, 1, none⟩ = some (.int .i64 At) := hB.cell 1
  have c2 : w.cell? ⟨g, 2, none⟩ = some (.bool b) := hB.cell 2
  have hsz : s.size = S.size - At := by rw [hs, ByteArray.size_extract]; omega
  have hsub : IntKind.i64.wrap ((S.size : Int) - (At : Int)) = ((s.size : Nat) : Int) := by rw [IntWalk.i64_in _ (by omega)]; omega
  have hall : ∀ m, IsQ (w.drewN m) g (s, b) := fun m => ⟨⟨S, At, hB.drewN m, hAt, hs, hSz⟩⟩
  unfold rdLeft
  have HA := Lib.hid hall
  have HH := Lib.hid h
  clear h hB hs hsz hall
  cases b with
  | true =>
    rw [if_pos rfl]
    go_enter Try.func35, Try.ntmps35
    go_wp2_with fail
    go_ret
    exact ⟨rfl, HH.out, Below.refl _ _⟩
  | false =>
    rw [if_neg (by simp)]
    go_enter Try.func35, Try.ntmps35
    go_wp2_with fail
    go_quiet (fail)
    go_wp2_with fail
    go_ret
    exact ⟨rfl, HA.out _, bdrewN (Below.refl _ _) _⟩
set_option maxRecDepth 100000 in
theorem qEnd_any (h : IsQ w g r) : Calls Try.prog 36 #[.pointer (some ⟨g, 0, none⟩)] w fun e w' => e = .returned (.int .i64 (rdEnd r)) ∧ IsQ w' g r ∧ Below w.heap.size w w' := by
  obtain ⟨s, b⟩ := r
  obtain ⟨S, At, hB, hAt, hs, hSz⟩ := h.x
  dsimp only at hB hs
  have c0 : w.cell? ⟨g, 0, none⟩ = some (.string S) := hB.cell 0
  have c1 : w.cell? ⟨g, 1, none⟩ = some (.int .i64 At) := hB.cell 1
  have c2 : w.cell? ⟨g, 2, none⟩ = some (.bool b) := hB.cell 2
  have hsz : s.size = S.size - At := by rw [hs, ByteArray.size_extract]; omega
  have hall : ∀ m, IsQ (w.drewN m) g (s, b) := fun m => ⟨⟨S, At, hB.drewN m, hAt, hs, hSz⟩⟩
  unfold rdEnd
  have HA := Lib.hid hall
  have HSZ := Lib.hid hsz
  clear h hB hs hsz hall
  cases b with
  | true =>
    rw [if_pos (.inl rfl)]
    go_enter Try.func36, Try.ntmps36
    go_wp2_with fail
    go_quiet (fail)
    go_wp2_with fail
    go_ret
    exact ⟨rfl, HA.out _, bdrewN (Below.refl _ _) _⟩
  | false =>
    by_cases hz : s.size = 0
    · rw [if_neg (by simp [hz])]
      have hd : decide (At < S.size) = false := by have := HSZ.out; rw [decide_eq_false_iff_not]; omega
      clear hz
      go_enter Try.func36, Try.ntmps36
      go_wp2_with fail
      go_quiet (fail)
      go_wp2_with fail
      go_ret
      exact ⟨rfl, HA.out _, bdrewN (Below.refl _ _) _⟩
    · rw [if_pos (.inr hz)]
      have hd : decide (At < S.size) = true := by have := HSZ.out; rw [decide_eq_true_eq]; omega
      clear hz
      go_enter Try.func36, Try.ntmps36
      go_wp2_with fail
      go_quiet (fail)
      go_wp2_with fail
      go_ret
      exact ⟨rfl, HA.out _, bdrewN (Below.refl _ _) _⟩
end
end Go.Proofs.Ytepmgcgpioljiaa
