import Derived.Test.YtglglbbjacgbdaaDoorTsF
import Derived.Test.YtglglbbjacgbdaaDoorTrT
namespace Go.Proofs.YtglglbbjacgbdaaDoor
open Go.RowKit
set_option linter.unusedVariables false
set_option linter.unusedSimpArgs false
attribute [local go_sem] b_max2 b_min2 b_max b_min

/-! ### Do -/
theorem openD (w : World) (a b : Array Value) : ∃ w0, (w.alloc (.cells a 32)).alloc (.cells b 29) = w0 ∧ Below w.heap.size w w0 ∧ Blk w0 w.heap.size 32 a ∧ Blk w0 (w.heap.size + 1) 29 b := by
  refine ⟨_, rfl, ((Below.refl _ w).alloc (Nat.le_refl _) _).alloc (by simp) _, (Blk.new w 32 _).alloc _, ?_⟩
  have := Blk.new (w.alloc (.cells a 32)) 29 b
  rwa [sz_alloc] at this
/-- what read gives where there is no error -/
def Reads0 (c : CallV) (mx : Int) (l1 l2 : List ByteArray) : Prop := ∀ W : World, W.cell? ⟨0, 0, none⟩ = some (.int .i64 mx) → Calls Tryd.prog 10 #[callV c] W fun e w' => ∃ vf vt, e = .returned (.tuple #[planV c vf vt, .int .i64 0]) ∧ NmV w' vf l1 ∧ NmV w' vt l2 ∧ Below W.heap.size W w'
/-- what a doer gives -/
def Does (fn : Nat) (g : Nat) (S : TS) (vs : Id → Value) (c : CallV) (l1 l2 : List ByteArray) (Q : TS → Rep → Prop) (B0 : Nat) : Prop := ∀ (W : World) (vf vt : Value), B0 ≤ W.heap.size → IsT W g S vs → SepT W g S vs → NmV W vf l1 → NmV W vt l2 →
  Calls Tryd.prog fn #[.pointer (some ⟨g, 0, none⟩), planV c vf vt] W fun e w' => ∃ S' vs' rp A n k, e = .returned (repV rp (.slice A n k)) ∧ Went W w' g S vs S' vs' ∧ Q S' rp
section
variable {w : World} {g : Nat} {S : TS} {vs : Id → Value}
set_option maxRecDepth 100000 in
set_option maxHeartbeats 2000000 in
theorem do_nil (c : CallV) : Calls Tryd.prog 7 #[.pointer none, callV c] w fun e w' => e = .returned (repV ⟨1, ⟨#[]⟩, 0, 0, 0, 0⟩ (.slice none 0 0)) ∧ Below w.heap.size w w' := by
  obtain ⟨w0, hw0, b0, p0, r0⟩ := openD w (callA c) rep0
  have HRT := Lib.hid r0; have HBT := Lib.hid b0
  unfold callA rep0 at hw0
  unfold callV
  clear p0 r0 b0
  obtain ⟨W, hst, hfr, hW, q0, q1, q2, q3, q4, q5, q6⟩ := st7 HRT.out ⟨1, ⟨#[]⟩, 0, 0, 0, 0⟩ none 0 0
  obtain ⟨d0, d1, d2, d3, d4, d5, d6, hfz⟩ := rep0_at HRT.out
  dsimp only at hst q0 q1 q2 q3 q4 q5 q6
  have HF := Lib.hid (hfr.below HBT.out (fun k e => by omega))
  clear hfr hW
  go_enter Tryd.func7, Tryd.ntmps7
  go_wp2_with fail
  refine bodyPost_ret (v := repV ⟨1, ⟨#[]⟩, 0, 0, 0, 0⟩ (.slice none 0 0)) (by simp [results, Tryd.results7, go_sem, q0, q1, q2, q3, q4, q5, q6, repV]; try rfl) rfl ?_
  exact ⟨rfl, HF.out⟩
set_option maxRecDepth 100000 in
set_option maxHeartbeats 4000000 in
theorem do_err (h : IsT w g S vs) (hs : SepT w g S vs) (c : CallV) (mx : Int) (hmx : w.cell? ⟨0, 0, none⟩ = some (.int .i64 mx)) (er : Int) (her : er ≠ 0) (hrd : ∀ W : World, W.cell? ⟨0, 0, none⟩ = some (.int .i64 mx) → Calls Tryd.prog 10 #[callV c] W fun e w' => ∃ Af nf cf At_ nt ct, e = .returned (.tuple #[planV c (.slice Af nf cf) (.slice At_ nt ct), .int .i64 er]) ∧ Below W.heap.size W w') :
    Calls Tryd.prog 7 #[.pointer (some ⟨g, 0, none⟩), callV c] w fun e w' => e = .returned (repV ⟨er, ⟨#[]⟩, 0, 0, 0, 0⟩ (.slice none 0 0)) ∧ Below w.heap.size w w' := by
  obtain ⟨w0, hw0, b0, p0, r0⟩ := openD w (callA c) rep0
  have H := Lib.hid h; have HS := Lib.hid hs
  have HR0 := Lib.hid r0; have HB0 := Lib.hid b0
  obtain ⟨a0, a1, a2, a3, a4, a5⟩ := call_at p0
  have HP0 := Lib.hid p0
  unfold callA rep0 at hw0
  unfold callV
  have hm0 : w0.cell? ⟨0, 0, none⟩ = some (.int .i64 mx) := (b0.cell (p := ⟨0, 0, none⟩) (World.block_lt_of_cell? _ _ hmx)).trans hmx
  have HMX := Lib.hid hmx
  have hsz0 := r0.lt
  clear p0 r0 b0 h hs hmx
  have hee : (er != 0) = true := by simpa using her
  have hee2 : (er == 0) = false := by simpa using her
  clear her
  have hrd0 := hrd w0 hm0
  clear hrd
  go_enter Tryd.func7, Tryd.ntmps7
  go_wp2_with fail
  refine hrd0.mono ?_
  rintro e w1 ⟨Af, nf, cf, At_, nt, ct, rfl, b1⟩
  have HR1 := Lib.hid (HR0.out.below b1 HR0.out.lt)
  have HP1 := Lib.hid (HP0.out.below b1 HP0.out.lt)
  have HB1 := Lib.hid (HB0.out.trans (b1.mono HB0.out.size))
  clear hrd0 hw0 a0 a1 a2 a3 a4 a5 b1 hm0
  obtain ⟨w2, hw2, b2, p2⟩ := open1 w1 (planA c Af nf cf At_ nt ct) 47
  have HRT := Lib.hid (HR1.out.below b2 HR1.out.lt)
  have HC2 := Lib.hid (HP1.out.below b2 HP1.out.lt)
  have HBT := Lib.hid (HB1.out.trans (b2.mono HB1.out.size))
  unfold planA at hw2
  obtain ⟨a0, a1, a2, a3, a4, a5⟩ := call_at HC2.out
  clear b2 p2
  unfold planV
  obtain ⟨W, hst, hfr, hW, q0, q1, q2, q3, q4, q5, q6⟩ := st7 HRT.out ⟨er, ⟨#[]⟩, 0, 0, 0, 0⟩ none 0 0
  obtain ⟨d0, d1, d2, d3, d4, d5, d6, hfz⟩ := rep0_at HRT.out
  dsimp only at hst q0 q1 q2 q3 q4 q5 q6
  have HF := Lib.hid (hfr.below HBT.out (fun k e => by omega))
  clear hfr hW
  go_wp2_with fail
  refine bodyPost_ret (v := repV ⟨er, ⟨#[]⟩, 0, 0, 0, 0⟩ (.slice none 0 0)) (by simp [results, Tryd.results7, go_sem, q0, q1, q2, q3, q4, q5, q6, repV]; try rfl) rfl ?_
  exact ⟨rfl, HF.out⟩
set_option maxRecDepth 100000 in
set_option maxHeartbeats 4000000 in
theorem do_statfs (h : IsT w g S vs) (hs : SepT w g S vs) (c : CallV) (mx : Int) (hmx : w.cell? ⟨0, 0, none⟩ = some (.int .i64 mx)) (fr : Int) (hfr0 : ∀ W, IsT W g S vs → Calls Tryd.prog 9 #[.pointer (some ⟨g, 0, none⟩)] W fun e w' => e = .returned (.int .i64 fr) ∧ Below W.heap.size W w') (hrd : ∀ W : World, W.cell? ⟨0, 0, none⟩ = some (.int .i64 mx) → Calls Tryd.prog 10 #[callV c] W fun e w' => ∃ Af nf cf At_ nt ct, e = .returned (.tuple #[planV c (.slice Af nf cf) (.slice At_ nt ct), .int .i64 0]) ∧ Below W.heap.size W w') (d11 : (c.op == 11) = false) (d12 : (c.op == 12) = true) :
    Calls Tryd.prog 7 #[.pointer (some ⟨g, 0, none⟩), callV c] w fun e w' => e = .returned (repV ⟨0, ⟨#[]⟩, 0, 0, 0, fr⟩ (.slice none 0 0)) ∧ Below w.heap.size w w' := by
  obtain ⟨w0, hw0, b0, p0, r0⟩ := openD w (callA c) rep0
  have H := Lib.hid h; have HS := Lib.hid hs
  have HR0 := Lib.hid r0; have HB0 := Lib.hid b0
  obtain ⟨a0, a1, a2, a3, a4, a5⟩ := call_at p0
  have HP0 := Lib.hid p0
  unfold callA rep0 at hw0
  unfold callV
  have hm0 : w0.cell? ⟨0, 0, none⟩ = some (.int .i64 mx) := (b0.cell (p := ⟨0, 0, none⟩) (World.block_lt_of_cell? _ _ hmx)).trans hmx
  have HMX := Lib.hid hmx
  have hsz0 := r0.lt
  clear p0 r0 b0 h hs hmx
  have HFR0 := Lib.hid hfr0
  clear hfr0
  have hrd0 := hrd w0 hm0
  clear hrd
  go_enter Tryd.func7, Tryd.ntmps7
  go_wp2_with fail
  refine hrd0.mono ?_
  rintro e w1 ⟨Af, nf, cf, At_, nt, ct, rfl, b1⟩
  have HR1 := Lib.hid (HR0.out.below b1 HR0.out.lt)
  have HP1 := Lib.hid (HP0.out.below b1 HP0.out.lt)
  have HB1 := Lib.hid (HB0.out.trans (b1.mono HB0.out.size))
  clear hrd0 hw0 a0 a1 a2 a3 a4 a5 b1 hm0
  obtain ⟨w2, hw2, b2, p2⟩ := open1 w1 (planA c Af nf cf At_ nt ct) 47
  have HR2 := Lib.hid (HR1.out.below b2 HR1.out.lt)
  have HC2 := Lib.hid (HP1.out.below b2 HP1.out.lt)
  have HB2 := Lib.hid (HB1.out.trans (b2.mono HB1.out.size))
  unfold planA at hw2
  obtain ⟨a0, a1, a2, a3, a4, a5⟩ := call_at HC2.out
  clear b2 p2
  unfold planV
  have hf2 := HFR0.out w2 (H.out.low HB2.out)
  go_wp2_with fail
  refine hf2.mono ?_
  rintro e w3 ⟨rfl, b3⟩
  have HRT := Lib.hid (HR2.out.below b3 HR2.out.lt)
  have HBT := Lib.hid (HB2.out.trans (b3.mono HB2.out.size))
  clear hf2 b3 a0 a1 a2 a3 a4 a5
  obtain ⟨W, hst, hfr, hW, q0, q1, q2, q3, q4, q5, q6⟩ := st7 HRT.out ⟨0, ⟨#[]⟩, 0, 0, 0, fr⟩ none 0 0
  obtain ⟨d0, d1, d2, d3, d4, d5, d6, hfz⟩ := rep0_at HRT.out
  dsimp only at hst q0 q1 q2 q3 q4 q5 q6
  have HF := Lib.hid (hfr.below HBT.out (fun k e => by omega))
  clear hfr hW
  go_wp2_with fail
  refine bodyPost_ret (v := repV ⟨0, ⟨#[]⟩, 0, 0, 0, fr⟩ (.slice none 0 0)) (by simp [results, Tryd.results7, go_sem, q0, q1, q2, q3, q4, q5, q6, repV]; try rfl) rfl ?_
  exact ⟨rfl, HF.out⟩
set_option maxRecDepth 100000 in
set_option maxHeartbeats 4000000 in
theorem do_create (h : IsT w g S vs) (hs : SepT w g S vs) (c : CallV) (mx : Int) (hmx : w.cell? ⟨0, 0, none⟩ = some (.int .i64 mx)) (l1 l2 : List ByteArray) (Q : TS → Rep → Prop) (hrd : Reads0 c mx l1 l2) (hdo : Does 11 g S vs c l1 l2 Q w.heap.size) (d11 : (c.op == 11) = false) (d12 : (c.op == 12) = false) (d1 : (c.op == 1) = true) :
    Calls Tryd.prog 7 #[.pointer (some ⟨g, 0, none⟩), callV c] w fun e w' => ∃ S' vs' rp A n k, e = .returned (repV rp (.slice A n k)) ∧ Went w w' g S vs S' vs' ∧ Q S' rp := by
  obtain ⟨w0, hw0, b0, p0, r0⟩ := openD w (callA c) rep0
  have H := Lib.hid h; have HS := Lib.hid hs
  have HR0 := Lib.hid r0; have HB0 := Lib.hid b0
  obtain ⟨a0, a1, a2, a3, a4, a5⟩ := call_at p0
  have HP0 := Lib.hid p0
  unfold callA rep0 at hw0
  unfold callV
  have hm0 : w0.cell? ⟨0, 0, none⟩ = some (.int .i64 mx) := (b0.cell (p := ⟨0, 0, none⟩) (World.block_lt_of_cell? _ _ hmx)).trans hmx
  have HMX := Lib.hid hmx
  have hsz0 := r0.lt
  clear p0 r0 b0 h hs hmx
  have HDO := Lib.hid hdo
  clear hdo
  have hrd0 := hrd w0 hm0
  have HRD := Lib.hid hrd
  clear hrd
  go_enter Tryd.func7, Tryd.ntmps7
  go_wp2_with fail
  refine hrd0.mono ?_
  rintro e w1 ⟨vf, vt, rfl, hv1, hv2, b1⟩
  obtain ⟨Af, nf, cf, rfl, hl1, hc1, hr1⟩ := _root_.id hv1
  obtain ⟨At_, nt, ct, rfl, hl2, hc2, hr2⟩ := _root_.id hv2
  have hsz1 : w.heap.size + 1 < w1.heap.size := by have := b1.size; omega
  have HR1 := Lib.hid (HR0.out.below b1 HR0.out.lt)
  have HP1 := Lib.hid (HP0.out.below b1 HP0.out.lt)
  have HB1 := Lib.hid (HB0.out.trans (b1.mono HB0.out.size))
  have HV1 := Lib.hid hv1; have HV2 := Lib.hid hv2
  clear hrd0 hw0 a0 a1 a2 a3 a4 a5 b1 hv1 hv2 hl1 hc1 hr1 hl2 hc2 hr2 hm0
  obtain ⟨w2, hw2, b2, p2⟩ := open1 w1 (planA c Af nf cf At_ nt ct) 47
  have HP2 := Lib.hid p2
  have HR2 := Lib.hid (HR1.out.below b2 HR1.out.lt)
  have HC2 := Lib.hid (HP1.out.below b2 HP1.out.lt)
  have HB2 := Lib.hid (HB1.out.trans (b2.mono HB1.out.size))
  have HV12 := Lib.hid (HV1.out.low b2); have HV22 := Lib.hid (HV2.out.low b2)
  unfold planA at hw2
  obtain ⟨a0, a1, a2, a3, a4, a5⟩ := call_at HC2.out
  obtain ⟨p0, p1, p2', p3, p4, p5, p6, p7, _⟩ := plan_at p2
  have hsz2 := b2.size
  clear b2 p2
  unfold planV
  go_wp2_with fail
  refine (HDO.out w2 (.slice Af nf cf) (.slice At_ nt ct) HB2.out.size (H.out.low HB2.out) (HS.out.low HB2.out) HV12.out HV22.out).mono ?_
  rintro e w3 ⟨S', vs', rp, A, n, k, rfl, W3, hQ⟩
  have hno2 : ¬ ownT g S vs (w.heap.size + 1) := fun e => by have := own_lt H.out e; omega
  have hno3 : ¬ ownT g S' vs' (w.heap.size + 1) := fun e => by
    rcases W3.own _ e with e | e
    · exact hno2 e
    · omega
  have R3 := W3.fr.blk HR2.out hno2
  obtain ⟨W, hst, hfr, hW, q0, q1, q2, q3, q4, q5, q6⟩ := st7 R3 rp A n k
  obtain ⟨d0, d1, d2, d3, d4, d5, d6, hfz⟩ := rep0_at R3
  have HF := Lib.hid (((Went.low H.out HS.out HB2.out).trans W3).far hfr (by omega) hno3)
  have HQ := Lib.hid hQ
  clear hfr hW R3 W3 hno2 hno3 hQ a0 a1 a2 a3 a4 a5 p0 p1 p2' p3 p4 p5 p6 p7 hw2
  unfold repV
  go_wp2_with fail
  refine bodyPost_ret (v := repV rp (.slice A n k)) (by simp [results, Tryd.results7, go_sem, q0, q1, q2, q3, q4, q5, q6, repV]; try rfl) rfl ?_
  exact ⟨S', vs', rp, A, n, k, rfl, HF.out, HQ.out⟩
set_option maxRecDepth 100000 in
set_option maxHeartbeats 4000000 in
theorem do_mkdir (h : IsT w g S vs) (hs : SepT w g S vs) (c : CallV) (mx : Int) (hmx : w.cell? ⟨0, 0, none⟩ = some (.int .i64 mx)) (l1 l2 : List ByteArray) (Q : TS → Rep → Prop) (hrd : Reads0 c mx l1 l2) (hdo : Does 11 g S vs c l1 l2 Q w.heap.size) (d11 : (c.op == 11) = false) (d12 : (c.op == 12) = false) (d1 : (c.op == 1) = false) (d2 : (c.op == 2) = true) :
    Calls Tryd.prog 7 #[.pointer (some ⟨g, 0, none⟩), callV c] w fun e w' => ∃ S' vs' rp A n k, e = .returned (repV rp (.slice A n k)) ∧ Went w w' g S vs S' vs' ∧ Q S' rp := by
  obtain ⟨w0, hw0, b0, p0, r0⟩ := openD w (callA c) rep0
  have H := Lib.hid h; have HS := Lib.hid hs
  have HR0 := Lib.hid r0; have HB0 := Lib.hid b0
  obtain ⟨a0, a1, a2, a3, a4, a5⟩ := call_at p0
  have HP0 := Lib.hid p0
  unfold callA rep0 at hw0
  unfold callV
  have hm0 : w0.cell? ⟨0, 0, none⟩ = some (.int .i64 mx) := (b0.cell (p := ⟨0, 0, none⟩) (World.block_lt_of_cell? _ _ hmx)).trans hmx
  have HMX := Lib.hid hmx
  have hsz0 := r0.lt
  clear p0 r0 b0 h hs hmx
  have HDO := Lib.hid hdo
  clear hdo
  have hrd0 := hrd w0 hm0
  have HRD := Lib.hid hrd
  clear hrd
  go_enter Tryd.func7, Tryd.ntmps7
  go_wp2_with fail
  refine hrd0.mono ?_
  rintro e w1 ⟨vf, vt, rfl, hv1, hv2, b1⟩
  obtain ⟨Af, nf, cf, rfl, hl1, hc1, hr1⟩ := _root_.id hv1
  obtain ⟨At_, nt, ct, rfl, hl2, hc2, hr2⟩ := _root_.id hv2
  have hsz1 : w.heap.size + 1 < w1.heap.size := by have := b1.size; omega
  have HR1 := Lib.hid (HR0.out.below b1 HR0.out.lt)
  have HP1 := Lib.hid (HP0.out.below b1 HP0.out.lt)
  have HB1 := Lib.hid (HB0.out.trans (b1.mono HB0.out.size))
  have HV1 := Lib.hid hv1; have HV2 := Lib.hid hv2
  clear hrd0 hw0 a0 a1 a2 a3 a4 a5 b1 hv1 hv2 hl1 hc1 hr1 hl2 hc2 hr2 hm0
  obtain ⟨w2, hw2, b2, p2⟩ := open1 w1 (planA c Af nf cf At_ nt ct) 47
  have HP2 := Lib.hid p2
  have HR2 := Lib.hid (HR1.out.below b2 HR1.out.lt)
  have HC2 := Lib.hid (HP1.out.below b2 HP1.out.lt)
  have HB2 := Lib.hid (HB1.out.trans (b2.mono HB1.out.size))
  have HV12 := Lib.hid (HV1.out.low b2); have HV22 := Lib.hid (HV2.out.low b2)
  unfold planA at hw2
  obtain ⟨a0, a1, a2, a3, a4, a5⟩ := call_at HC2.out
  obtain ⟨p0, p1, p2', p3, p4, p5, p6, p7, _⟩ := plan_at p2
  have hsz2 := b2.size
  clear b2 p2
  unfold planV
  go_wp2_with fail
  refine (HDO.out w2 (.slice Af nf cf) (.slice At_ nt ct) HB2.out.size (H.out.low HB2.out) (HS.out.low HB2.out) HV12.out HV22.out).mono ?_
  rintro e w3 ⟨S', vs', rp, A, n, k, rfl, W3, hQ⟩
  have hno2 : ¬ ownT g S vs (w.heap.size + 1) := fun e => by have := own_lt H.out e; omega
  have hno3 : ¬ ownT g S' vs' (w.heap.size + 1) := fun e => by
    rcases W3.own _ e with e | e
    · exact hno2 e
    · omega
  have R3 := W3.fr.blk HR2.out hno2
  obtain ⟨W, hst, hfr, hW, q0, q1, q2, q3, q4, q5, q6⟩ := st7 R3 rp A n k
  obtain ⟨d0, d1, d2, d3, d4, d5, d6, hfz⟩ := rep0_at R3
  have HF := Lib.hid (((Went.low H.out HS.out HB2.out).trans W3).far hfr (by omega) hno3)
  have HQ := Lib.hid hQ
  clear hfr hW R3 W3 hno2 hno3 hQ a0 a1 a2 a3 a4 a5 p0 p1 p2' p3 p4 p5 p6 p7 hw2
  unfold repV
  go_wp2_with fail
  refine bodyPost_ret (v := repV rp (.slice A n k)) (by simp [results, Tryd.results7, go_sem, q0, q1, q2, q3, q4, q5, q6, repV]; try rfl) rfl ?_
  exact ⟨S', vs', rp, A, n, k, rfl, HF.out, HQ.out⟩
set_option maxRecDepth 100000 in
set_option maxHeartbeats 4000000 in
theorem do_link (h : IsT w g S vs) (hs : SepT w g S vs) (c : CallV) (mx : Int) (hmx : w.cell? ⟨0, 0, none⟩ = some (.int .i64 mx)) (l1 l2 : List ByteArray) (Q : TS → Rep → Prop) (hrd : Reads0 c mx l1 l2) (hdo : Does 12 g S vs c l1 l2 Q w.heap.size) (d11 : (c.op == 11) = false) (d12 : (c.op == 12) = false) (d1 : (c.op == 1) = false) (d2 : (c.op == 2) = false) (d3 : (c.op == 3) = true) :
    Calls Tryd.prog 7 #[.pointer (some ⟨g, 0, none⟩), callV c] w fun e w' => ∃ S' vs' rp A n k, e = .returned (repV rp (.slice A n k)) ∧ Went w w' g S vs S' vs' ∧ Q S' rp := by
  obtain ⟨w0, hw0, b0, p0, r0⟩ := openD w (callA c) rep0
  have H := Lib.hid h; have HS := Lib.hid hs
  have HR0 := Lib.hid r0; have HB0 := Lib.hid b0
  obtain ⟨a0, a1, a2, a3, a4, a5⟩ := call_at p0
  have HP0 := Lib.hid p0
  unfold callA rep0 at hw0
  unfold callV
  have hm0 : w0.cell? ⟨0, 0, none⟩ = some (.int .i64 mx) := (b0.cell (p := ⟨0, 0, none⟩) (World.block_lt_of_cell? _ _ hmx)).trans hmx
  have HMX := Lib.hid hmx
  have hsz0 := r0.lt
  clear p0 r0 b0 h hs hmx
  have HDO := Lib.hid hdo
  clear hdo
  have hrd0 := hrd w0 hm0
  have HRD := Lib.hid hrd
  clear hrd
  go_enter Tryd.func7, Tryd.ntmps7
  go_wp2_with fail
  refine hrd0.mono ?_
  rintro e w1 ⟨vf, vt, rfl, hv1, hv2, b1⟩
  obtain ⟨Af, nf, cf, rfl, hl1, hc1, hr1⟩ := _root_.id hv1
  obtain ⟨At_, nt, ct, rfl, hl2, hc2, hr2⟩ := _root_.id hv2
  have hsz1 : w.heap.size + 1 < w1.heap.size := by have := b1.size; omega
  have HR1 := Lib.hid (HR0.out.below b1 HR0.out.lt)
  have HP1 := Lib.hid (HP0.out.below b1 HP0.out.lt)
  have HB1 := Lib.hid (HB0.out.trans (b1.mono HB0.out.size))
  have HV1 := Lib.hid hv1; have HV2 := Lib.hid hv2
  clear hrd0 hw0 a0 a1 a2 a3 a4 a5 b1 hv1 hv2 hl1 hc1 hr1 hl2 hc2 hr2 hm0
  obtain ⟨w2, hw2, b2, p2⟩ := open1 w1 (planA c Af nf cf At_ nt ct) 47
  have HP2 := Lib.hid p2
  have HR2 := Lib.hid (HR1.out.below b2 HR1.out.lt)
  have HC2 := Lib.hid (HP1.out.below b2 HP1.out.lt)
  have HB2 := Lib.hid (HB1.out.trans (b2.mono HB1.out.size))
  have HV12 := Lib.hid (HV1.out.low b2); have HV22 := Lib.hid (HV2.out.low b2)
  unfold planA at hw2
  obtain ⟨a0, a1, a2, a3, a4, a5⟩ := call_at HC2.out
  obtain ⟨p0, p1, p2', p3, p4, p5, p6, p7, _⟩ := plan_at p2
  have hsz2 := b2.size
  clear b2 p2
  unfold planV
  go_wp2_with fail
  refine (HDO.out w2 (.slice Af nf cf) (.slice At_ nt ct) HB2.out.size (H.out.low HB2.out) (HS.out.low HB2.out) HV12.out HV22.out).mono ?_
  rintro e w3 ⟨S', vs', rp, A, n, k, rfl, W3, hQ⟩
  have hno2 : ¬ ownT g S vs (w.heap.size + 1) := fun e => by have := own_lt H.out e; omega
  have hno3 : ¬ ownT g S' vs' (w.heap.size + 1) := fun e => by
    rcases W3.own _ e with e | e
    · exact hno2 e
    · omega
  have R3 := W3.fr.blk HR2.out hno2
  obtain ⟨W, hst, hfr, hW, q0, q1, q2, q3, q4, q5, q6⟩ := st7 R3 rp A n k
  obtain ⟨d0, d1, d2, d3, d4, d5, d6, hfz⟩ := rep0_at R3
  have HF := Lib.hid (((Went.low H.out HS.out HB2.out).trans W3).far hfr (by omega) hno3)
  have HQ := Lib.hid hQ
  clear hfr hW R3 W3 hno2 hno3 hQ a0 a1 a2 a3 a4 a5 p0 p1 p2' p3 p4 p5 p6 p7 hw2
  unfold repV
  go_wp2_with fail
  refine bodyPost_ret (v := repV rp (.slice A n k)) (by simp [results, Tryd.results7, go_sem, q0, q1, q2, q3, q4, q5, q6, repV]; try rfl) rfl ?_
  exact ⟨S', vs', rp, A, n, k, rfl, HF.out, HQ.out⟩
set_option maxRecDepth 100000 in
set_option maxHeartbeats 4000000 in
theorem do_unlink (h : IsT w g S vs) (hs : SepT w g S vs) (c : CallV) (mx : Int) (hmx : w.cell? ⟨0, 0, none⟩ = some (.int .i64 mx)) (l1 l2 : List ByteArray) (Q : TS → Rep → Prop) (hrd : Reads0 c mx l1 l2) (hdo : Does 13 g S vs c l1 l2 Q w.heap.size) (d11 : (c.op == 11) = false) (d12 : (c.op == 12) = false) (d1 : (c.op == 1) = false) (d2 : (c.op == 2) = false) (d3 : (c.op == 3) = false) (d4 : (c.op == 4) = true) :
    Calls Tryd.prog 7 #[.pointer (some ⟨g, 0, none⟩), callV c] w fun e w' => ∃ S' vs' rp A n k, e = .returned (repV rp (.slice A n k)) ∧ Went w w' g S vs S' vs' ∧ Q S' rp := by
  obtain ⟨w0, hw0, b0, p0, r0⟩ := openD w (callA c) rep0
  have H := Lib.hid h; have HS := Lib.hid hs
  have HR0 := Lib.hid r0; have HB0 := Lib.hid b0
  obtain ⟨a0, a1, a2, a3, a4, a5⟩ := call_at p0
  have HP0 := Lib.hid p0
  unfold callA rep0 at hw0
  unfold callV
  have hm0 : w0.cell? ⟨0, 0, none⟩ = some (.int .i64 mx) := (b0.cell (p := ⟨0, 0, none⟩) (World.block_lt_of_cell? _ _ hmx)).trans hmx
  have HMX := Lib.hid hmx
  have hsz0 := r0.lt
  clear p0 r0 b0 h hs hmx
  have HDO := Lib.hid hdo
  clear hdo
  have hrd0 := hrd w0 hm0
  have HRD := Lib.hid hrd
  clear hrd
  go_enter Tryd.func7, Tryd.ntmps7
  go_wp2_with fail
  refine hrd0.mono ?_
  rintro e w1 ⟨vf, vt, rfl, hv1, hv2, b1⟩
  obtain ⟨Af, nf, cf, rfl, hl1, hc1, hr1⟩ := _root_.id hv1
  obtain ⟨At_, nt, ct, rfl, hl2, hc2, hr2⟩ := _root_.id hv2
  have hsz1 : w.heap.size + 1 < w1.heap.size := by have := b1.size; omega
  have HR1 := Lib.hid (HR0.out.below b1 HR0.out.lt)
  have HP1 := Lib.hid (HP0.out.below b1 HP0.out.lt)
  have HB1 := Lib.hid (HB0.out.trans (b1.mono HB0.out.size))
  have HV1 := Lib.hid hv1; have HV2 := Lib.hid hv2
  clear hrd0 hw0 a0 a1 a2 a3 a4 a5 b1 hv1 hv2 hl1 hc1 hr1 hl2 hc2 hr2 hm0
  obtain ⟨w2, hw2, b2, p2⟩ := open1 w1 (planA c Af nf cf At_ nt ct) 47
  have HP2 := Lib.hid p2
  have HR2 := Lib.hid (HR1.out.below b2 HR1.out.lt)
  have HC2 := Lib.hid (HP1.out.below b2 HP1.out.lt)
  have HB2 := Lib.hid (HB1.out.trans (b2.mono HB1.out.size))
  have HV12 := Lib.hid (HV1.out.low b2); have HV22 := Lib.hid (HV2.out.low b2)
  unfold planA at hw2
  obtain ⟨a0, a1, a2, a3, a4, a5⟩ := call_at HC2.out
  obtain ⟨p0, p1, p2', p3, p4, p5, p6, p7, _⟩ := plan_at p2
  have hsz2 := b2.size
  clear b2 p2
  unfold planV
  go_wp2_with fail
  refine (HDO.out w2 (.slice Af nf cf) (.slice At_ nt ct) HB2.out.size (H.out.low HB2.out) (HS.out.low HB2.out) HV12.out HV22.out).mono ?_
  rintro e w3 ⟨S', vs', rp, A, n, k, rfl, W3, hQ⟩
  have hno2 : ¬ ownT g S vs (w.heap.size + 1) := fun e => by have := own_lt H.out e; omega
  have hno3 : ¬ ownT g S' vs' (w.heap.size + 1) := fun e => by
    rcases W3.own _ e with e | e
    · exact hno2 e
    · omega
  have R3 := W3.fr.blk HR2.out hno2
  obtain ⟨W, hst, hfr, hW, q0, q1, q2, q3, q4, q5, q6⟩ := st7 R3 rp A n k
  obtain ⟨d0, d1, d2, d3, d4, d5, d6, hfz⟩ := rep0_at R3
  have HF := Lib.hid (((Went.low H.out HS.out HB2.out).trans W3).far hfr (by omega) hno3)
  have HQ := Lib.hid hQ
  clear hfr hW R3 W3 hno2 hno3 hQ a0 a1 a2 a3 a4 a5 p0 p1 p2' p3 p4 p5 p6 p7 hw2
  unfold repV
  go_wp2_with fail
  refine bodyPost_ret (v := repV rp (.slice A n k)) (by simp [results, Tryd.results7, go_sem, q0, q1, q2, q3, q4, q5, q6, repV]; try rfl) rfl ?_
  exact ⟨S', vs', rp, A, n, k, rfl, HF.out, HQ.out⟩
set_option maxRecDepth 100000 in
set_option maxHeartbeats 4000000 in
theorem do_rename (h : IsT w g S vs) (hs : SepT w g S vs) (c : CallV) (mx : Int) (hmx : w.cell? ⟨0, 0, none⟩ = some (.int .i64 mx)) (l1 l2 : List ByteArray) (Q : TS → Rep → Prop) (hrd : Reads0 c mx l1 l2) (hdo : Does 14 g S vs c l1 l2 Q w.heap.size) (d11 : (c.op == 11) = false) (d12 : (c.op == 12) = false) (d1 : (c.op == 1) = false) (d2 : (c.op == 2) = false) (d3 : (c.op == 3) = false) (d4 : (c.op == 4) = false) (d5 : (c.op == 5) = true) :
    Calls Tryd.prog 7 #[.pointer (some ⟨g, 0, none⟩), callV c] w fun e w' => ∃ S' vs' rp A n k, e = .returned (repV rp (.slice A n k)) ∧ Went w w' g S vs S' vs' ∧ Q S' rp := by
  obtain ⟨w0, hw0, b0, p0, r0⟩ := openD w (callA c) rep0
  have H := Lib.hid h; have HS := Lib.hid hs
  have HR0 := Lib.hid r0; have HB0 := Lib.hid b0
  obtain ⟨a0, a1, a2, a3, a4, a5⟩ := call_at p0
  have HP0 := Lib.hid p0
  unfold callA rep0 at hw0
  unfold callV
  have hm0 : w0.cell? ⟨0, 0, none⟩ = some (.int .i64 mx) := (b0.cell (p := ⟨0, 0, none⟩) (World.block_lt_of_cell? _ _ hmx)).trans hmx
  have HMX := Lib.hid hmx
  have hsz0 := r0.lt
  clear p0 r0 b0 h hs hmx
  have HDO := Lib.hid hdo
  clear hdo
  have hrd0 := hrd w0 hm0
  have HRD := Lib.hid hrd
  clear hrd
  go_enter Tryd.func7, Tryd.ntmps7
  go_wp2_with fail
  refine hrd0.mono ?_
  rintro e w1 ⟨vf, vt, rfl, hv1, hv2, b1⟩
  obtain ⟨Af, nf, cf, rfl, hl1, hc1, hr1⟩ := _root_.id hv1
  obtain ⟨At_, nt, ct, rfl, hl2, hc2, hr2⟩ := _root_.id hv2
  have hsz1 : w.heap.size + 1 < w1.heap.size := by have := b1.size; omega
  have HR1 := Lib.hid (HR0.out.below b1 HR0.out.lt)
  have HP1 := Lib.hid (HP0.out.below b1 HP0.out.lt)
  have HB1 := Lib.hid (HB0.out.trans (b1.mono HB0.out.size))
  have HV1 := Lib.hid hv1; have HV2 := Lib.hid hv2
  clear hrd0 hw0 a0 a1 a2 a3 a4 a5 b1 hv1 hv2 hl1 hc1 hr1 hl2 hc2 hr2 hm0
  obtain ⟨w2, hw2, b2, p2⟩ := open1 w1 (planA c Af nf cf At_ nt ct) 47
  have HP2 := Lib.hid p2
  have HR2 := Lib.hid (HR1.out.below b2 HR1.out.lt)
  have HC2 := Lib.hid (HP1.out.below b2 HP1.out.lt)
  have HB2 := Lib.hid (HB1.out.trans (b2.mono HB1.out.size))
  have HV12 := Lib.hid (HV1.out.low b2); have HV22 := Lib.hid (HV2.out.low b2)
  unfold planA at hw2
  obtain ⟨a0, a1, a2, a3, a4, a5⟩ := call_at HC2.out
  obtain ⟨p0, p1, p2', p3, p4, p5, p6, p7, _⟩ := plan_at p2
  have hsz2 := b2.size
  clear b2 p2
  unfold planV
  go_wp2_with fail
  refine (HDO.out w2 (.slice Af nf cf) (.slice At_ nt ct) HB2.out.size (H.out.low HB2.out) (HS.out.low HB2.out) HV12.out HV22.out).mono ?_
  rintro e w3 ⟨S', vs', rp, A, n, k, rfl, W3, hQ⟩
  have hno2 : ¬ ownT g S vs (w.heap.size + 1) := fun e => by have := own_lt H.out e; omega
  have hno3 : ¬ ownT g S' vs' (w.heap.size + 1) := fun e => by
    rcases W3.own _ e with e | e
    · exact hno2 e
    · omega
  have R3 := W3.fr.blk HR2.out hno2
  obtain ⟨W, hst, hfr, hW, q0, q1, q2, q3, q4, q5, q6⟩ := st7 R3 rp A n k
  obtain ⟨d0, d1, d2, d3, d4, d5, d6, hfz⟩ := rep0_at R3
  have HF := Lib.hid (((Went.low H.out HS.out HB2.out).trans W3).far hfr (by omega) hno3)
  have HQ := Lib.hid hQ
  clear hfr hW R3 W3 hno2 hno3 hQ a0 a1 a2 a3 a4 a5 p0 p1 p2' p3 p4 p5 p6 p7 hw2
  unfold repV
  go_wp2_with fail
  refine bodyPost_ret (v := repV rp (.slice A n k)) (by simp [results, Tryd.results7, go_sem, q0, q1, q2, q3, q4, q5, q6, repV]; try rfl) rfl ?_
  exact ⟨S', vs', rp, A, n, k, rfl, HF.out, HQ.out⟩
set_option maxRecDepth 100000 in
set_option maxHeartbeats 4000000 in
theorem do_stat (h : IsT w g S vs) (hs : SepT w g S vs) (c : CallV) (mx : Int) (hmx : w.cell? ⟨0, 0, none⟩ = some (.int .i64 mx)) (l1 l2 : List ByteArray) (Q : TS → Rep → Prop) (hrd : Reads0 c mx l1 l2) (hdo : Does 15 g S vs c l1 l2 Q w.heap.size) (d11 : (c.op == 11) = false) (d12 : (c.op == 12) = false) (d1 : (c.op == 1) = false) (d2 : (c.op == 2) = false) (d3 : (c.op == 3) = false) (d4 : (c.op == 4) = false) (d5 : (c.op == 5) = false) (d9 : (c.op == 9) = false) (d10 : (c.op == 10) = true) :
    Calls Tryd.prog 7 #[.pointer (some ⟨g, 0, none⟩), callV c] w fun e w' => ∃ S' vs' rp A n k, e = .returned (repV rp (.slice A n k)) ∧ Went w w' g S vs S' vs' ∧ Q S' rp := by
  obtain ⟨w0, hw0, b0, p0, r0⟩ := openD w (callA c) rep0
  have H := Lib.hid h; have HS := Lib.hid hs
  have HR0 := Lib.hid r0; have HB0 := Lib.hid b0
  obtain ⟨a0, a1, a2, a3, a4, a5⟩ := call_at p0
  have HP0 := Lib.hid p0
  unfold callA rep0 at hw0
  unfold callV
  have hm0 : w0.cell? ⟨0, 0, none⟩ = some (.int .i64 mx) := (b0.cell (p := ⟨0, 0, none⟩) (World.block_lt_of_cell? _ _ hmx)).trans hmx
  have HMX := Lib.hid hmx
  have hsz0 := r0.lt
  clear p0 r0 b0 h hs hmx
  have HDO := Lib.hid hdo
  clear hdo
  have hrd0 := hrd w0 hm0
  have HRD := Lib.hid hrd
  clear hrd
  go_enter Tryd.func7, Tryd.ntmps7
  go_wp2_with fail
  refine hrd0.mono ?_
  rintro e w1 ⟨vf, vt, rfl, hv1, hv2, b1⟩
  obtain ⟨Af, nf, cf, rfl, hl1, hc1, hr1⟩ := _root_.id hv1
  obtain ⟨At_, nt, ct, rfl, hl2, hc2, hr2⟩ := _root_.id hv2
  have hsz1 : w.heap.size + 1 < w1.heap.size := by have := b1.size; omega
  have HR1 := Lib.hid (HR0.out.below b1 HR0.out.lt)
  have HP1 := Lib.hid (HP0.out.below b1 HP0.out.lt)
  have HB1 := Lib.hid (HB0.out.trans (b1.mono HB0.out.size))
  have HV1 := Lib.hid hv1; have HV2 := Lib.hid hv2
  clear hrd0 hw0 a0 a1 a2 a3 a4 a5 b1 hv1 hv2 hl1 hc1 hr1 hl2 hc2 hr2 hm0
  obtain ⟨w2, hw2, b2, p2⟩ := open1 w1 (planA c Af nf cf At_ nt ct) 47
  have HP2 := Lib.hid p2
  have HR2 := Lib.hid (HR1.out.below b2 HR1.out.lt)
  have HC2 := Lib.hid (HP1.out.below b2 HP1.out.lt)
  have HB2 := Lib.hid (HB1.out.trans (b2.mono HB1.out.size))
  have HV12 := Lib.hid (HV1.out.low b2); have HV22 := Lib.hid (HV2.out.low b2)
  unfold planA at hw2
  obtain ⟨a0, a1, a2, a3, a4, a5⟩ := call_at HC2.out
  obtain ⟨p0, p1, p2', p3, p4, p5, p6, p7, _⟩ := plan_at p2
  have hsz2 := b2.size
  clear b2 p2
  unfold planV
  go_wp2_with fail
  refine (HDO.out w2 (.slice Af nf cf) (.slice At_ nt ct) HB2.out.size (H.out.low HB2.out) (HS.out.low HB2.out) HV12.out HV22.out).mono ?_
  rintro e w3 ⟨S', vs', rp, A, n, k, rfl, W3, hQ⟩
  have hno2 : ¬ ownT g S vs (w.heap.size + 1) := fun e => by have := own_lt H.out e; omega
  have hno3 : ¬ ownT g S' vs' (w.heap.size + 1) := fun e => by
    rcases W3.own _ e with e | e
    · exact hno2 e
    · omega
  have R3 := W3.fr.blk HR2.out hno2
  obtain ⟨W, hst, hfr, hW, q0, q1, q2, q3, q4, q5, q6⟩ := st7 R3 rp A n k
  obtain ⟨d0, d1, d2, d3, d4, d5, d6, hfz⟩ := rep0_at R3
  have HF := Lib.hid (((Went.low H.out HS.out HB2.out).trans W3).far hfr (by omega) hno3)
  have HQ := Lib.hid hQ
  clear hfr hW R3 W3 hno2 hno3 hQ a0 a1 a2 a3 a4 a5 p0 p1 p2' p3 p4 p5 p6 p7 hw2
  unfold repV
  go_wp2_with fail
  refine bodyPost_ret (v := repV rp (.slice A n k)) (by simp [results, Tryd.results7, go_sem, q0, q1, q2, q3, q4, q5, q6, repV]; try rfl) rfl ?_
  exact ⟨S', vs', rp, A, n, k, rfl, HF.out, HQ.out⟩
set_option maxRecDepth 100000 in
set_option maxHeartbeats 4000000 in
theorem do_bytes (h : IsT w g S vs) (hs : SepT w g S vs) (c : CallV) (mx : Int) (hmx : w.cell? ⟨0, 0, none⟩ = some (.int .i64 mx)) (l1 l2 : List ByteArray) (Q : TS → Rep → Prop) (hrd : Reads0 c mx l1 l2) (hdo : Does 16 g S vs c l1 l2 Q w.heap.size) (d11 : (c.op == 11) = false) (d12 : (c.op == 12) = false) (d1 : (c.op == 1) = false) (d2 : (c.op == 2) = false) (d3 : (c.op == 3) = false) (d4 : (c.op == 4) = false) (d5 : (c.op == 5) = false) (d9 : (c.op == 9) = false) (d10 : (c.op == 10) = false) :
    Calls Tryd.prog 7 #[.pointer (some ⟨g, 0, none⟩), callV c] w fun e w' => ∃ S' vs' rp A n k, e = .returned (repV rp (.slice A n k)) ∧ Went w w' g S vs S' vs' ∧ Q S' rp := by
  obtain ⟨w0, hw0, b0, p0, r0⟩ := openD w (callA c) rep0
  have H := Lib.hid h; have HS := Lib.hid hs
  have HR0 := Lib.hid r0; have HB0 := Lib.hid b0
  obtain ⟨a0, a1, a2, a3, a4, a5⟩ := call_at p0
  have HP0 := Lib.hid p0
  unfold callA rep0 at hw0
  unfold callV
  have hm0 : w0.cell? ⟨0, 0, none⟩ = some (.int .i64 mx) := (b0.cell (p := ⟨0, 0, none⟩) (World.block_lt_of_cell? _ _ hmx)).trans hmx
  have HMX := Lib.hid hmx
  have hsz0 := r0.lt
  clear p0 r0 b0 h hs hmx
  have HDO := Lib.hid hdo
  clear hdo
  have hrd0 := hrd w0 hm0
  have HRD := Lib.hid hrd
  clear hrd
  go_enter Tryd.func7, Tryd.ntmps7
  go_wp2_with fail
  refine hrd0.mono ?_
  rintro e w1 ⟨vf, vt, rfl, hv1, hv2, b1⟩
  obtain ⟨Af, nf, cf, rfl, hl1, hc1, hr1⟩ := _root_.id hv1
  obtain ⟨At_, nt, ct, rfl, hl2, hc2, hr2⟩ := _root_.id hv2
  have hsz1 : w.heap.size + 1 < w1.heap.size := by have := b1.size; omega
  have HR1 := Lib.hid (HR0.out.below b1 HR0.out.lt)
  have HP1 := Lib.hid (HP0.out.below b1 HP0.out.lt)
  have HB1 := Lib.hid (HB0.out.trans (b1.mono HB0.out.size))
  have HV1 := Lib.hid hv1; have HV2 := Lib.hid hv2
  clear hrd0 hw0 a0 a1 a2 a3 a4 a5 b1 hv1 hv2 hl1 hc1 hr1 hl2 hc2 hr2 hm0
  obtain ⟨w2, hw2, b2, p2⟩ := open1 w1 (planA c Af nf cf At_ nt ct) 47
  have HP2 := Lib.hid p2
  have HR2 := Lib.hid (HR1.out.below b2 HR1.out.lt)
  have HC2 := Lib.hid (HP1.out.below b2 HP1.out.lt)
  have HB2 := Lib.hid (HB1.out.trans (b2.mono HB1.out.size))
  have HV12 := Lib.hid (HV1.out.low b2); have HV22 := Lib.hid (HV2.out.low b2)
  unfold planA at hw2
  obtain ⟨a0, a1, a2, a3, a4, a5⟩ := call_at HC2.out
  obtain ⟨p0, p1, p2', p3, p4, p5, p6, p7, _⟩ := plan_at p2
  have hsz2 := b2.size
  clear b2 p2
  unfold planV
  go_wp2_with fail
  refine (HDO.out w2 (.slice Af nf cf) (.slice At_ nt ct) HB2.out.size (H.out.low HB2.out) (HS.out.low HB2.out) HV12.out HV22.out).mono ?_
  rintro e w3 ⟨S', vs', rp, A, n, k, rfl, W3, hQ⟩
  have hno2 : ¬ ownT g S vs (w.heap.size + 1) := fun e => by have := own_lt H.out e; omega
  have hno3 : ¬ ownT g S' vs' (w.heap.size + 1) := fun e => by
    rcases W3.own _ e with e | e
    · exact hno2 e
    · omega
  have R3 := W3.fr.blk HR2.out hno2
  obtain ⟨W, hst, hfr, hW, q0, q1, q2, q3, q4, q5, q6⟩ := st7 R3 rp A n k
  obtain ⟨d0, d1, d2, d3, d4, d5, d6, hfz⟩ := rep0_at R3
  have HF := Lib.hid (((Went.low H.out HS.out HB2.out).trans W3).far hfr (by omega) hno3)
  have HQ := Lib.hid hQ
  clear hfr hW R3 W3 hno2 hno3 hQ a0 a1 a2 a3 a4 a5 p0 p1 p2' p3 p4 p5 p6 p7 hw2
  unfold repV
  go_wp2_with fail
  refine bodyPost_ret (v := repV rp (.slice A n k)) (by simp [results, Tryd.results7, go_sem, q0, q1, q2, q3, q4, q5, q6, repV]; try rfl) rfl ?_
  exact ⟨S', vs', rp, A, n, k, rfl, HF.out, HQ.out⟩
end
end Go.Proofs.YtglglbbjacgbdaaDoor
