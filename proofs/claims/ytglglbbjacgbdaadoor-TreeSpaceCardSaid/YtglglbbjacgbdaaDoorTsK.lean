import Derived.Test.YtglglbbjacgbdaaDoorTsH
namespace Go.Proofs.YtglglbbjacgbdaaDoor
open Go.RowKit
set_option linter.unusedVariables false
set_option linter.unusedSimpArgs false
attribute [local go_sem] b_max2 b_min2 b_max b_min
section
variable {w : World} {g : Nat} {S : TS} {vs : Id → Value} {rk : Nat → Nat} {D : Nat}
set_option maxRecDepth 100000 in
set_option maxHeartbeats 4000000 in
theorem bytes_done8 (h : IsT w g S vs) (hs : SepT w g S vs) (ho : OkT S g) (hk : RkT S g rk D) (hkd : KdT S) (c : CallV) (vf vt : Value) (l1 : List ByteArray) (hl1 : l1.length ≤ 100000) (hsz1 : ∀ s ∈ l1, s.size ≤ 1000000) (hv1 : NmV w vf l1) (hvt : ∃ A n c, vt = .slice A n c) (h1 : (walkT S g none l1).2 = 0) (b : Nat) (r : NR) (hb : (walkT S g none l1).1 = some b) (hrd : S.nd (b, 0) = some r) (h2 : r.kind ≠ 2) (h6 : c.op ≠ 6) (h7 : c.op ≠ 7) (hb8 : 0 ≤ c.n ∧ c.n ≤ 6144) (hfull : ¬ freeT S g D < need (newN c r.data) - need r.data.size) :
    Calls Tryd.prog 16 #[.pointer (some ⟨g, 0, none⟩), planV c vf vt] w fun e w' => ∃ vs', e = .returned (repV (bytesT S g D l1 c).2 (.slice none 0 0)) ∧ Went w w' g S vs (bytesT S g D l1 c).1 vs' := by
  obtain ⟨Af, nf, cf, rfl, hnf, hcf, hrf⟩ := _root_.id hv1
  obtain ⟨At_, nt, ct, rfl⟩ := hvt
  obtain ⟨w0, hw0, b0, p0, r0⟩ := open_w w (planA c Af nf cf At_ nt ct) rep0
  have T0 : Hid (At w w0 g S vs (planA c Af nf cf At_ nt ct)) := Lib.hid ⟨b0, r0, p0, h.low b0⟩
  have H := Lib.hid h; have HS := Lib.hid hs
  unfold planV
  obtain ⟨A0, n0, k0, e0, hn0, hc0, hr0⟩ := hv1.low b0
  cases e0
  have hwk := walk_any T0.out.t ho Af nf cf l1 hn0 (by omega) hsz1 hr0
  have c6 : w0.cell? ⟨w.heap.size, 6, none⟩ = some (.slice Af nf cf) := by rw [p0.cell]; rfl
  unfold planA rep0 at hw0
  clear hr0 hrf b0 p0 r0 h hs hv1
  have hN : newN c r.data = c.n := if_neg h7
  have hm : bytesT S g D l1 c = (S.upd (b, 0) { r with data := newB c r.data }, failR 0) := by unfold bytesT; rw [if_neg (fun e => e h1), hb]; dsimp only; rw [hrd]; dsimp only; rw [if_neg h2, if_neg h6, if_neg hfull]
  rw [hm]
  rw [h1, hb] at hwk
  have hptr : ptrC (some b) = .pointer (some ⟨b, 0, none⟩) := rfl
  rw [hptr] at hwk
  have h2f : (r.kind == 2) = false := by simpa using h2
  have hdat := (ho.okn _ _ hrd).dat
  have h6f : (c.op == 6) = false := by simpa using h6
  have h7f : (c.op == 7) = false := by simpa using h7
  have hcn1 := fun W => need_any (newN c r.data) W (by rw [hN]; omega) (by rw [hN]; omega)
  have hcn2 := fun W => need_any (r.data.size : Int) W (by omega) (by omega)
  have hbd1 := need_bd (newN c r.data) (by rw [hN]; omega)
  have hbd2 := need_bd (r.data.size : Int) (by omega)
  have hfr' : ∀ w', IsT w' g S vs → Calls Tryd.prog 9 #[.pointer (some ⟨g, 0, none⟩)] w' fun e w'' => e = .returned (.int .i64 (freeT S g D)) ∧ Below w'.heap.size w' w'' := fun w' hT => free_any hT ho hk
  generalize freeT S g D = fr at *
  generalize hn1 : need (newN c r.data) = n1 at *
  generalize hn2 : need (r.data.size : Int) = n2 at *
  have hws : IntKind.i64.wrap (n1 - n2) = n1 - n2 := by rw [IntKind.wrap_i64]; omega
  have dfl : decide (fr < n1 - n2) = false := decide_eq_false hfull
  obtain ⟨a, ha⟩ : ∃ a, (min (newN c r.data) r.data.size).toNat = a := ⟨_, rfl⟩
  obtain ⟨m, hmz⟩ : ∃ m, (max (newN c r.data - r.data.size) 0).toNat = m := ⟨_, rfl⟩
  have hnew := new_cut c r.data h7 a m ha hmz
  have hm6 : m ≤ 10000 := by rw [← hmz, hN]; omega
  have hzz := zeros_any m (by omega)
  have hzm : (m : Int) = max (c.n - (r.data.size : Int)) 0 := by rw [← hmz, hN]; omega
  have hwd : IntKind.i64.wrap (c.n - (r.data.size : Int)) = c.n - (r.data.size : Int) := by rw [IntKind.wrap_i64]; omega
  rw [hzm] at hzz
  have hsm0 : 0 ≤ min c.n (r.data.size : Int) := by omega
  have hsm1 : min c.n (r.data.size : Int) ≤ (r.data.size : Int) := by omega
  rw [hN] at hcn1 ha hmz
  obtain ⟨sx, hsx⟩ : ∃ sx, r.data.extract 0 (min c.n (r.data.size : Int)).toNat = sx := ⟨_, rfl⟩
  have hsxz : sx.size = a := by rw [← hsx, ByteArray.size_extract]; omega
  have hzsz : (zerosB m).size = m := by
    show (List.replicate _ (0 : UInt8)).toArray.size = _
    rw [List.size_toArray, List.length_replicate]
  rw [show r.data.extract 0 a = sx by rw [← hsx, ha]] at hnew
  generalize hzB : zerosB m = zx at *
  obtain ⟨i5, hi5, hz0, hz1, hz2⟩ : ∃ i5, Tryd.prog.info? 5 = some i5 ∧ i5.zero = some (.int .u8 0) ∧ i5.size = 1 ∧ i5.bytes = 1 := by
    have := u8i
    cases hh : Tryd.prog.info? 5 with
    | none => rw [hh] at this; cases this
    | some i => rw [hh] at this; simp at this; exact ⟨i, rfl, this.1, this.2.1, this.2.2⟩
  have ha4 : a ≤ 10000 := by rw [← ha]; omega
  have HNEW := Lib.hid hnew; have HAM := Lib.hid (And.intro hsxz (And.intro hzsz ha4)); have HM6 := Lib.hid hm6
  have HI5 := Lib.hid hi5
  clear hm h1 hb h6 h7 hfull hn1 hn2 hN hnew hzm hmz ha hsxz hzsz hm6 hi5 ha4
  go_enter Tryd.func16, Tryd.ntmps16
  go_wp2_with fail
  refine hwk.mono ?_
  rintro e w1 ⟨rfl, b1⟩
  have T1 := Lib.hid (T0.out.go b1)
  obtain ⟨w2, hw2, b2, pb⟩ := open1 w1 #[.pointer (some ⟨b, 0, none⟩)] 65
  have T2 := Lib.hid (T1.out.go b2)
  have hlt1 : w.heap.size < w1.heap.size := T1.out.p.lt
  clear hw0 c6 hwk b1 b2
  have c5 : w2.cell? ⟨w1.heap.size, 0, none⟩ = some (.pointer (some ⟨b, 0, none⟩)) := by rw [pb.cell]; rfl
  have hN := T2.out.t.node _ _ hrd
  have k0 := hN.c0
  have k2 := hN.c2
  dsimp only at k0 k2
  clear hN
  have a0 : w2.cell? ⟨w.heap.size, 0, none⟩ = some (.int .i64 c.op) := by rw [T2.out.p.cell]; rfl
  have a3 : w2.cell? ⟨w.heap.size, 3, none⟩ = some (.int .i64 c.at_) := by rw [T2.out.p.cell]; rfl
  have a4 : w2.cell? ⟨w.heap.size, 4, none⟩ = some (.int .i64 c.n) := by rw [T2.out.p.cell]; rfl
  have a5 : w2.cell? ⟨w.heap.size, 5, none⟩ = some (.string c.data) := by rw [T2.out.p.cell]; rfl
  have HPB := Lib.hid pb
  clear pb
  go_wp2_with fail
  refine (hcn1 w2).mono ?_
  rintro e w3 ⟨rfl, rfl⟩
  go_wp2_with fail
  refine (hcn2 w2).mono ?_
  rintro e w3 ⟨rfl, rfl⟩
  clear hcn1 hcn2
  go_wp2_with fail
  refine (hfr' w2 T2.out.t).mono ?_
  rintro e w4 ⟨rfl, b4⟩
  have T4 := Lib.hid (T2.out.go b4)
  clear hfr'
  have PB4 := Lib.hid (HPB.out.below b4 HPB.out.lt)
  clear b4 c5 k0 k2 a0 a3 a4 a5
  have hsxm : sx.size ≤ maxLen := by have := HAM.out.1; have := HAM.out.2.2; unfold maxLen; omega
  have hsum : sx.size + zx.size ≤ 1000000 := by have := HAM.out.1; have := HAM.out.2; have := HM6.out; omega
  obtain ⟨cF, wF, hcv, HCV⟩ := conv_all (P := Tryd.prog) (src := 9) (dst := 33) w4.heap.size sx Tryd.underlying9 Tryd.underlying33 Tryd.underlying5 hsxm
  go_upto_region 15 with (fail)
  go_cut [9] (fun s w' => ∃ g9 cap9, s = .slice (some ⟨g9, 0, none⟩) (sx.size + zx.size) cap9 ∧ Hid (Buf w4.heap.size w' g9 (sx.size + zx.size) cap9 (sx.data.toList ++ zx.data.toList)) ∧ Hid (Below w4.heap.size w4 w'))
  case first =>
    go_region_held_law (fun _ => True) (go_keep) (first
      | (refine step_append_buf (B0 := w4.heap.size) rfl (some 102) rfl (.tmp 95) (.tmp 101) 33 9 rfl 5 i5 zx rfl rfl Tryd.underlying33 Tryd.underlying9 HI5.out hz0 hz1 hz2 (by first | exact ((HCV.out w4.drew (Nat.le_refl _)).1).low b7 | exact (HCV.out w7 b7.size).1) hsum (by first | (have h7 : w4.heap.size ≤ w7.heap.size := b7.size; have := (HCV.out w7 b7.size).2.size; omega) | (have := b7.size; have := (HCV.out w4.drew (Nat.le_refl _)).2.size; change w4.heap.size ≤ _ at this; omega)) ?_; intro g9 cap9 w9 hbf9 b9)
      | (go_simp; go_at_call 31; refine (hzz _).mono ?_; rintro e w7 ⟨rfl, b7⟩))
    all_goals (go_wp2_with fail)
    all_goals go_meet
    all_goals have hdr : Below w4.heap.size w4 w4.drew := ⟨rfl, rfl, rfl, Nat.le_refl _, fun _ _ => rfl⟩
    all_goals first
      | exact ⟨_, _, rfl, Lib.hid hbf9, Lib.hid ((hdr.trans ((HCV.out w4.drew (Nat.le_refl _)).2.trans (b7.mono (HCV.out w4.drew (Nat.le_refl _)).2.size))).trans b9)⟩
      | exact ⟨_, _, rfl, Lib.hid hbf9, Lib.hid ((hdr.trans (b7.trans ((HCV.out w7 b7.size).2.mono b7.size))).trans b9)⟩
  case rest =>
  obtain ⟨g9, cap9, rfl, HBF, HB9⟩ := hcut
  have T9 := Lib.hid (T4.out.go HB9.out)
  have PB9 := Lib.hid (PB4.out.below HB9.out PB4.out.lt)
  clear hzz hcv HCV hz0 hz1 hz2 hsxm
  have b0 : wc.cell? ⟨w.heap.size, 0, none⟩ = some (.int .i64 c.op) := by rw [T9.out.p.cell]; rfl
  have HBX := HBF; have HTX := T9; have HPX := PB9
  have HLX : Hid ((⟨(sx.data.toList ++ zx.data.toList).toArray⟩ : ByteArray) = newB c r.data) := HNEW
  generalize sx.data.toList ++ zx.data.toList = lx at *
  generalize sx.size + zx.size = LL at *
  have hback := run_back_buf (P := Tryd.prog) (src := 33) (dst := 9) Tryd.underlying33 Tryd.underlying5 Tryd.underlying9 HBX.out
  rw [HLX.out] at hback
  generalize hnb : newB c r.data = nb at *
  have HNB := Lib.hid hnb
  clear hnb
  have c5 : wc.cell? ⟨w1.heap.size, 0, none⟩ = some (.pointer (some ⟨b, 0, none⟩)) := by rw [HPX.out.cell]; rfl
  have k2 : wc.cell? ⟨b, 2, none⟩ = some (.string r.data) := (HTX.out.t.node _ _ hrd).c2
  have f2 : wc.frozen? ⟨b, 2, none⟩ = false := by
    obtain ⟨t, cs, hbb, _⟩ := (HS.out.low HTX.out.b).blk _ _ hrd
    exact hbb.frozen 2
  have hblt : b < w.heap.size := (H.out.node _ _ hrd).lt
  obtain ⟨W5, hW5, WB, FB⟩ := data_node HTX.out.t (HS.out.low HTX.out.b) hrd nb
  have R5 := FB.blk HTX.out.r (by omega)
  have hno5 : ¬ ownT g (S.upd (b, 0) { r with data := nb }) (vsU vs (b, 0) (vs (b, 0))) (w.heap.size + 1) := fun e => by
    rcases WB.own _ e with e | e
    · have := own_lt H.out e; omega
    · have := HTX.out.r.lt; omega
  obtain ⟨W, hst, hfr, hW, q0, q1, q2, q3, q4, q5, q6⟩ := st7 R5 (failR 0) none 0 0
  obtain ⟨d0, d1, d2, d3, d4, d5, d6, hfz⟩ := rep0_at R5
  dsimp only [failR] at hst q0 q1 q2 q3 q4 q5 q6
  have HF := Lib.hid (((Went.low H.out HS.out HTX.out.b).trans WB).far hfr (by omega) hno5)
  clear hfr hW R5 WB FB hno5
  go_wp2_with fail
  all_goals refine bodyPost_ret (v := failV 0) (by simp [results, Tryd.results16, go_sem, q0, q1, q2, q3, q4, q5, q6, failV, repV, failR]; try rfl) rfl ?_
  all_goals first
    | exact ⟨_, rfl, by rw [HNB.out]; exact HF.out⟩
    | exact ⟨rfl, _, by rw [HNB.out]; exact HF.out⟩
end
end Go.Proofs.YtglglbbjacgbdaaDoor
