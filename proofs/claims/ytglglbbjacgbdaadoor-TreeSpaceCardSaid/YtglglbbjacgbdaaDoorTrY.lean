import Derived.Test.YtglglbbjacgbdaaDoorTrX
namespace Go.Proofs.YtglglbbjacgbdaaDoor
open Go.RowKit
set_option linter.unusedVariables false
set_option linter.unusedSimpArgs false
attribute [local go_sem] b_max2 b_min2 b_max b_min
section
variable {w : World} {g : Nat} {S : TS} {vs : Id → Value} {rk : Nat → Nat} {D : Nat}
set_option maxRecDepth 100000 in
set_option maxHeartbeats 4000000 in
/-- a folder under itself: rename says so (the one way out that the examples take) -/
theorem rename_below (h : IsT w g S vs) (hs : SepT w g S vs) (ho : OkT S g) (hrk : Ranked S rk) (c : CallV) (vf vt : Value) (l1 l2 : List ByteArray) (hl1 : l1.length ≤ 100000) (hl2 : l2.length ≤ 100000) (hne1 : l1 ≠ []) (hne : l2 ≠ []) (hsz1 : ∀ s ∈ l1, s.size ≤ 1000000) (hsz : ∀ s ∈ l2, s.size ≤ 100) (hv1 : NmV w vf l1) (hv : NmV w vt l2)
    (b : Nat) (r : NR) (hb : walkT S g none l1 = (some b, 0)) (hrd : S.nd (b, 0) = some r) (h2 : r.kind = 2) (h4 : (lastT S g l2).2.2 = 0) (id : Id) (r2 : NR) (hid : (lastT S g l2).1 = some id) (hrd2 : S.nd id = some r2) (h5 : hasN r2.list (lastT S g l2).2.1 = false)
    (f : Nat) (hlow : ∀ c ∈ r.list, rk c.2 < f) (h6 : belowT S id (f + 1) b = true) :
    Calls Tryd.prog 14 #[.pointer (some ⟨g, 0, none⟩), planV c vf vt] w fun e w' => e = .returned (failV 1) ∧ Went w w' g S vs S vs := by
  obtain ⟨Af, nf, cf, rfl, hnf, hcf, hrf⟩ := _root_.id hv1
  obtain ⟨At_, nt, ct, rfl, hnt, hct, hrt⟩ := _root_.id hv
  obtain ⟨w0, hw0, b0, p0, r0⟩ := open_w w (planA c Af nf cf At_ nt ct) rep0
  have T0 : Hid (At w w0 g S vs (planA c Af nf cf At_ nt ct)) := Lib.hid ⟨b0, r0, p0, h.low b0⟩
  have H := Lib.hid h; have HS := Lib.hid hs
  unfold planV
  obtain ⟨A0, n0, k0, e0, hn0, hc0, hr0⟩ := hv1.low b0
  cases e0
  have hwk := walk_any T0.out.t ho Af nf cf l1 hn0 (by omega) hsz1 hr0
  have hla := fun {W : World} (hT : IsT W g S vs) (hN : NmV W (.slice At_ nt ct) l2) => last_any hT ho _ l2 hl2 hne (fun s hs => by have := hsz s hs; omega) hN
  have HV := Lib.hid hv
  have c6 : w0.cell? ⟨w.heap.size, 6, none⟩ = some (.slice Af nf cf) := by rw [p0.cell]; rfl
  unfold planA rep0 at hw0
  clear hr0 hrf hrt b0 p0 r0 h hs hv1 hv
  have hok := ho.okn _ r2 hrd2
  have hpl : ∀ W, IsT W g S vs → Calls Tryd.prog 24 #[.pointer (some ⟨id.1, id.2, none⟩), .string (lastT S g l2).2.1] W fun e w' => e = .returned (.tuple #[.int .i64 (plc r2.list (lastT S g l2).2.1), .bool (hasN r2.list (lastT S g l2).2.1)]) ∧ Below W.heap.size W w' := fun W hT => place_any (hT.node id r2 hrd2) hok (lastT S g l2).2.1
  have hbw : ∀ W, IsT W g S vs → Calls Tryd.prog 29 #[.pointer (some ⟨id.1, id.2, none⟩), .pointer (some ⟨b, 0, none⟩)] W fun e W' => e = .returned (.bool true) ∧ Below W.heap.size W W' := fun W hT => by
    have := below_any ho rk hrk id r2 hrd2 f b r W hrd hlow hT
    rwa [h6] at this
  rw [h5] at hpl
  rw [hb] at hwk
  have hptr : ptrC (some b) = .pointer (some ⟨b, 0, none⟩) := rfl
  dsimp only at hwk
  rw [hptr] at hwk
  rw [h4, hid] at hla
  unfold ptrI at hla
  dsimp only [Option.map_some] at hla
  generalize (lastT S g l2).2.1 = nm at *
  generalize plc r2.list nm = pc at *
  have hf := fun W => fails_any 1 W
  unfold failV repV failR at hf
  obtain ⟨i1, i2⟩ := id
  dsimp only at *
  clear hid h5 h6 hb hlow
  go_enter Tryd.func14, Tryd.ntmps14
  go_wp2_with fail
  refine hwk.mono ?_
  rintro e w1 ⟨rfl, b1⟩
  have T1 := Lib.hid (T0.out.go b1)
  obtain ⟨w2, hw2, b2, pb⟩ := open1 w1 #[.pointer (some ⟨b, 0, none⟩)] 65
  have T2 := Lib.hid (T1.out.go b2)
  have hlt1 : w.heap.size < w1.heap.size := T1.out.p.lt
  clear hw0 c6 hwk b1 b2
  have HPB := Lib.hid pb
  have c7 : w2.cell? ⟨w.heap.size, 7, none⟩ = some (.slice At_ nt ct) := by rw [T2.out.p.cell]; rfl
  clear pb
  go_wp2_with fail
  refine (hla T2.out.t (HV.out.low T2.out.b)).mono ?_
  rintro e w3 ⟨rfl, b3⟩
  have T3 := Lib.hid (T2.out.go b3)
  have PB3 := Lib.hid (HPB.out.below b3 HPB.out.lt)
  clear hla c7 b3
  go_wp2_with fail
  refine (hpl w3 T3.out.t).mono ?_
  rintro e w4 ⟨rfl, b4⟩
  have T4 := Lib.hid (T3.out.go b4)
  have PB4 := Lib.hid (PB3.out.below b4 PB3.out.lt)
  have c54 : w4.cell? ⟨w1.heap.size, 0, none⟩ = some (.pointer (some ⟨b, 0, none⟩)) := by rw [PB4.out.cell]; rfl
  have k04 : w4.cell? ⟨b, 0, none⟩ = some (.int .i64 2) := by rw [← h2]; exact (T4.out.t.node _ _ hrd).c0
  clear hpl b4
  go_wp2_with fail
  refine (hbw w4 T4.out.t).mono ?_
  rintro e w5 ⟨rfl, b5⟩
  have T5 := Lib.hid (T4.out.go b5)
  clear hbw b5 c54 k04
  go_wp2_with fail
  refine (hf w5).mono ?_
  rintro e wz ⟨rfl, bz⟩
  clear hf
  have TZ := Lib.hid (T5.out.go bz)
  obtain ⟨W, hst, hfr, hW, q0, q1, q2, q3, q4, q5, q6⟩ := st7 TZ.out.r (failR 1) none 0 0
  obtain ⟨d0, d1, d2, d3, d4, d5, d6, hfz⟩ := rep0_at TZ.out.r
  dsimp only [failR] at hst q0 q1 q2 q3 q4 q5 q6
  have HF := Lib.hid hfr
  clear hfr hW bz
  go_wp2_with fail
  refine bodyPost_ret (v := failV 1) (by simp [results, Tryd.results14, go_sem, q0, q1, q2, q3, q4, q5, q6, failV, repV, failR]; try rfl) rfl ?_
  exact ⟨rfl, Went.low H.out HS.out (HF.out.below TZ.out.b (fun k e => by omega))⟩
end
end Go.Proofs.YtglglbbjacgbdaaDoor
