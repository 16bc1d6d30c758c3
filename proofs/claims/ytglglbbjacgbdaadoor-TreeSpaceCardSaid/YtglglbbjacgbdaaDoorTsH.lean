import Derived.Test.YtglglbbjacgbdaaDoorTsE
import Derived.Test.YtglglbbjacgbdaaDoorTsG
import Derived.Test.YtglglbbjacgbdaaDoorShC
import Derived.Deep.RegionHeldLaw
namespace Go.Proofs.YtglglbbjacgbdaaDoor
open Go.RowKit
set_option linter.unusedVariables false
set_option linter.unusedSimpArgs false
attribute [local go_sem] b_max2 b_min2 b_max b_min

/-! ### bytes -/
theorem base_list (s : ByteArray) (a : Nat) (m : Nat) : (⟨((s.extract 0 a).data.toList ++ (zerosB m).data.toList).toArray⟩ : ByteArray) = s.extract 0 a ++ zerosB m := by
  apply ByteArray.ext
  rw [ByteArray.data_append]
  apply Array.ext'
  simp
theorem ba_len (b : ByteArray) : b.data.toList.length = b.size := by simp
theorem spl_list (l : List UInt8) (o : Nat) (d : ByteArray) : (⟨(splL l o d.data.toList).toArray⟩ : ByteArray) = (⟨l.toArray⟩ : ByteArray).extract 0 o ++ d ++ (⟨l.toArray⟩ : ByteArray).extract (o + d.size) (⟨l.toArray⟩ : ByteArray).size := by
  apply ByteArray.ext
  apply Array.ext'
  rw [ByteArray.data_append, ByteArray.data_append, ByteArray.data_extract, ByteArray.data_extract]
  have hs : (⟨l.toArray⟩ : ByteArray).size = l.length := by show l.toArray.size = _; simp
  rw [hs]
  have hd := ba_len d
  simp [splL, hd, List.extract_eq_take_drop]
  exact (List.take_of_length_le (by simp)).symm
theorem new_write (c : CallV) (s : ByteArray) (hop : c.op = 7) (a m : Nat) (ha : (min (newN c s) s.size).toNat = a) (hm : (max (newN c s - s.size) 0).toNat = m) :
    (⟨(splL ((s.extract 0 a).data.toList ++ (zerosB m).data.toList) c.at_.toNat c.data.data.toList).toArray⟩ : ByteArray) = newB c s := by
  rw [spl_list, base_list]
  have hn : newN c s = max (s.size : Int) (c.at_ + c.data.size) := if_pos hop
  unfold newB
  rw [if_pos hop]
  unfold baseB
  rw [← hn, ha, hm]
theorem new_cut (c : CallV) (s : ByteArray) (hop : c.op ≠ 7) (a m : Nat) (ha : (min (newN c s) s.size).toNat = a) (hm : (max (newN c s - s.size) 0).toNat = m) :
    (⟨((s.extract 0 a).data.toList ++ (zerosB m).data.toList).toArray⟩ : ByteArray) = newB c s := by
  rw [base_list]
  have hn : newN c s = c.n := if_neg hop
  unfold newB
  rw [if_neg hop]
  unfold baseB
  rw [← hn, ha, hm]
theorem data_node {w : World} {g : Nat} {S : TS} {vs : Id → Value} (h : IsT w g S vs) (hs : SepT w g S vs) {b : Nat} {r : NR} (hr : S.nd (b, 0) = some r) (x : ByteArray) :
    ∃ W, w.setCell ⟨b, 2, none⟩ (.string x) = W ∧ Went w W g S vs (S.upd (b, 0) { r with data := x }) (vsU vs (b, 0) (vs (b, 0))) ∧ Fr (fun k => k = b) w W := by
  refine ⟨_, rfl, ?_, Fr.setCell _ _ _ _ rfl⟩
  obtain ⟨t, cs, hb, ht⟩ := hs.blk _ _ hr
  have hN := h.node _ _ hr
  have hf : Fr (fun k => k = b) w (w.setCell ⟨b, 2, none⟩ (.string x)) := Fr.setCell _ _ _ _ rfl
  have hb' := hb.set_ 2 (.string x)
  have hin : 2 < cs.size := by
    have := (hb.cell 2).symm.trans hN.c2
    exact (Array.getElem?_eq_some_iff.1 this).1
  have hc : ∀ o, o ≠ 2 → (w.setCell ⟨b, 2, none⟩ (.string x)).cell? ⟨b, o, none⟩ = w.cell? ⟨b, o, none⟩ := fun o ho => by
    rw [hb'.cell, hb.cell, Array.getElem?_setIfInBounds, if_neg (by omega)]
  have hrow := hN.row
  have hnb : (vs (b, 0)).ownBlock ≠ some b := own_blk_ne hrow hb (Ne.symm ht)
  have hN' : IsN (w.setCell ⟨b, 2, none⟩ (.string x)) (b, 0) { r with data := x } (vs (b, 0)) :=
    ⟨(hc 0 (by omega)).trans hN.c0, (hc 1 (by omega)).trans hN.c1, by rw [hb'.cell]; simp [hin], (hc 3 (by omega)).trans hN.c3, hf.own hrow (fun k hk e => hnb (by rw [hk, e])), ⟨_, _, hb'⟩⟩
  obtain ⟨k1, k2, k3, k4⟩ := h.upd hs hr hN' (hf.mono fun k hk _ => .inl hk) hb' ht (fun o ho => hc o (by dsimp only at ho; omega)) (.inl rfl)
  exact ⟨k1, k2, k3, k4⟩
theorem zeros_any (m : Nat) (hm : m ≤ 1000000) (w : World) : Calls Tryd.prog 31 #[.string ⟨#[0]⟩, .int .i64 m] w fun e w' => e = .returned (.string (zerosB m)) ∧ Below w.heap.size w w' := by
  have h := strings_Repeat ⟨#[0]⟩ m w (by omega) (by show 1 * _ ≤ _; omega)
  rwa [show (⟨(Lib.repeatL (⟨#[0]⟩ : ByteArray).data.toList m).toArray⟩ : ByteArray) = zerosB m from by
    rw [show (⟨#[0]⟩ : ByteArray).data.toList = List.replicate 1 0 from rfl, Lib.repeatL_replicate, Nat.mul_one]; rfl] at h
theorem u8i : (Tryd.prog.info? 5).map (fun i => (i.zero, i.size, i.bytes)) = some (some (.int .u8 0), 1, 1) := by kernel_rfl
section
variable {w : World} {g : Nat} {S : TS} {vs : Id → Value} {rk : Nat → Nat} {D : Nat}
set_option maxRecDepth 100000 in
set_option maxHeartbeats 4000000 in
theorem bytes_err (h : IsT w g S vs) (hs : SepT w g S vs) (ho : OkT S g) (hk : RkT S g rk D) (hkd : KdT S) (c : CallV) (vf vt : Value) (l1 : List ByteArray) (hl1 : l1.length ≤ 100000) (hsz1 : ∀ s ∈ l1, s.size ≤ 1000000) (hv1 : NmV w vf l1) (hvt : ∃ A n c, vt = .slice A n c) (h1 : (walkT S g none l1).2 ≠ 0) :
    Calls Tryd.prog 16 #[.pointer (some ⟨g, 0, none⟩), planV c vf vt] w fun e w' => ∃ vs', e = .returned (repV (bytesT S g D l1 c).2 (.slice none 0 0)) ∧ Went w w' g S vs (bytesT S g D l1 c).1 vs' := by
  obtain ⟨Af, nf, cf, rfl, hnf, hcf, hrf⟩ := _root_.id hv1
  obtain ⟨At_, nt, ct, rfl⟩ := hvt
  obtain ⟨w0, hw0, b0, p0, r0⟩ := open_w w (planA c Af nf cf At_ nt ct) rep0
  have T0 : Hid (At w w0 g S vs (planA c Af nf cf At_ nt ct)) := Lib.hid ⟨b0, r0, p0, h.low b0⟩
  have H := Lib.hid h; have HS := Lib.hid hs
  unfold planV
  obtain ⟨A0, n0, k0, e0, hn0, hc0, hr0⟩ := hv1.low b0
  cases e0
  have hwk := walk_any T0.out.t ho Af nf cf l1 hn0 (by omega) hsz1 hr0
  have c6 : w0.cell? ⟨w.heap.size, 6, none⟩ = some (.slice Af nf cf) := by rw [p0.cell]; rfl
  unfold planA rep0 at hw0
  clear hr0 hrf b0 p0 r0 h hs hv1
  have hm : bytesT S g D l1 c = (S, failR (walkT S g none l1).2) := by unfold bytesT; rw [if_pos h1]
  rw [hm]
  generalize (walkT S g none l1).2 = er at *
  obtain ⟨pt, hpt⟩ : ∃ pt, ptrC (walkT S g none l1).1 = .pointer pt := ⟨_, rfl⟩
  rw [hpt] at hwk
  have hf := fun W => fails_any er W
  unfold failV repV failR at hf
  clear hm hpt
  go_enter Tryd.func16, Tryd.ntmps16
  go_wp2_with fail
  refine hwk.mono ?_
  rintro e w1 ⟨rfl, b1⟩
  have T1 := Lib.hid (T0.out.go b1)
  obtain ⟨w2, hw2, b2, pb⟩ := open1 w1 #[.pointer pt] 65
  have T2 := Lib.hid (T1.out.go b2)
  have hlt1 : w.heap.size < w1.heap.size := T1.out.p.lt
  clear hw0 c6 hwk b1 b2
  clear pb
  go_wp2_with fail
  refine (hf w2).mono ?_
  rintro e wz ⟨rfl, bz⟩
  clear hf
  have TZ := Lib.hid (T2.out.go bz)
  obtain ⟨W, hst, hfr, hW, q0, q1, q2, q3, q4, q5, q6⟩ := st7 TZ.out.r (failR er) none 0 0
  obtain ⟨d0, d1, d2, d3, d4, d5, d6, hfz⟩ := rep0_at TZ.out.r
  dsimp only [failR] at hst q0 q1 q2 q3 q4 q5 q6
  have HF := Lib.hid hfr
  clear hfr hW bz
  go_wp2_with fail
  refine bodyPost_ret (v := failV er) (by simp [results, Tryd.results16, go_sem, q0, q1, q2, q3, q4, q5, q6, failV, repV, failR]; try rfl) rfl ?_
  exact ⟨vs, rfl, Went.low H.out HS.out (HF.out.below TZ.out.b (fun k e => by omega))⟩
set_option maxRecDepth 100000 in
set_option maxHeartbeats 4000000 in
theorem bytes_root (h : IsT w g S vs) (hs : SepT w g S vs) (ho : OkT S g) (hk : RkT S g rk D) (hkd : KdT S) (c : CallV) (vf vt : Value) (l1 : List ByteArray) (hl1 : l1.length ≤ 100000) (hsz1 : ∀ s ∈ l1, s.size ≤ 1000000) (hv1 : NmV w vf l1) (hvt : ∃ A n c, vt = .slice A n c) (h1 : (walkT S g none l1).2 = 0) (h2 : (walkT S g none l1).1 = none) :
    Calls Tryd.prog 16 #[.pointer (some ⟨g, 0, none⟩), planV c vf vt] w fun e w' => ∃ vs', e = .returned (repV (bytesT S g D l1 c).2 (.slice none 0 0)) ∧ Went w w' g S vs (bytesT S g D l1 c).1 vs' := by
  obtain ⟨Af, nf, cf, rfl, hnf, hcf, hrf⟩ := _root_.id hv1
  obtain ⟨At_, nt, ct, rfl⟩ := hvt
  obtain ⟨w0, hw0, b0, p0, r0⟩ := open_w w (planA c Af nf cf At_ nt ct) rep0
  have T0 : Hid (At w w0 g S vs (planA c Af nf cf At_ nt ct)) := Lib.hid ⟨b0, r0, p0, h.low b0⟩
  have H := Lib.hid h; have HS := Lib.hid hs
  unfold planV
  obtain ⟨A0, n0, k0, e0, hn0, hc0, hr0⟩ := hv1.low b0
  cases e0
  have hwk := walk_any T0.out.t ho Af nf cf l1 hn0 (by omega) hsz1 hr0
  have c6 : w0.cell? ⟨w.heap.size, 6, none⟩ = some (.slice Af nf cf) := by rw [p0.cell]; rfl
  unfold planA rep0 at hw0
  clear hr0 hrf b0 p0 r0 h hs hv1
  have hm : bytesT S g D l1 c = (S, failR 18) := by unfold bytesT; rw [if_neg (fun e => e h1), h2]
  rw [hm]
  rw [h1, h2] at hwk
  have hptr : ptrC none = .pointer none := rfl
  rw [hptr] at hwk
  have hf := fun W => fails_any 18 W
  unfold failV repV failR at hf
  clear hm h1 h2
  go_enter Tryd.func16, Tryd.ntmps16
  go_wp2_with fail
  refine hwk.mono ?_
  rintro e w1 ⟨rfl, b1⟩
  have T1 := Lib.hid (T0.out.go b1)
  obtain ⟨w2, hw2, b2, pb⟩ := open1 w1 #[.pointer none] 65
  have T2 := Lib.hid (T1.out.go b2)
  have hlt1 : w.heap.size < w1.heap.size := T1.out.p.lt
  clear hw0 c6 hwk b1 b2
  have c5 : w2.cell? ⟨w1.heap.size, 0, none⟩ = some (.pointer none) := by rw [pb.cell]; rfl
  have f5 : w2.frozen? ⟨w1.heap.size, 0, none⟩ = false := pb.frozen 0
  have hset : w2.setCell ⟨w1.heap.size, 0, none⟩ (.pointer none) = w2 := by
    rw [setCell_eq_setRow w2 _ 0 _ 65 (0, 0) _ pb]
    exact setRow_self w2 _ _ 65 (0, 0) pb
  clear pb
  go_wp2_with fail
  refine (hf w2).mono ?_
  rintro e wz ⟨rfl, bz⟩
  clear hf
  have TZ := Lib.hid (T2.out.go bz)
  obtain ⟨W, hst, hfr, hW, q0, q1, q2, q3, q4, q5, q6⟩ := st7 TZ.out.r (failR 18) none 0 0
  obtain ⟨d0, d1, d2, d3, d4, d5, d6, hfz⟩ := rep0_at TZ.out.r
  dsimp only [failR] at hst q0 q1 q2 q3 q4 q5 q6
  have HF := Lib.hid hfr
  clear hfr hW bz
  go_wp2_with fail
  refine bodyPost_ret (v := failV 18) (by simp [results, Tryd.results16, go_sem, q0, q1, q2, q3, q4, q5, q6, failV, repV, failR]; try rfl) rfl ?_
  exact ⟨vs, rfl, Went.low H.out HS.out (HF.out.below TZ.out.b (fun k e => by omega))⟩
set_option maxRecDepth 100000 in
set_option maxHeartbeats 4000000 in
theorem bytes_dir (h : IsT w g S vs) (hs : SepT w g S vs) (ho : OkT S g) (hk : RkT S g rk D) (hkd : KdT S) (c : CallV) (vf vt : Value) (l1 : List ByteArray) (hl1 : l1.length ≤ 100000) (hsz1 : ∀ s ∈ l1, s.size ≤ 1000000) (hv1 : NmV w vf l1) (hvt : ∃ A n c, vt = .slice A n c) (h1 : (walkT S g none l1).2 = 0) (b : Nat) (r : NR) (hb : (walkT S g none l1).1 = some b) (hrd : S.nd (b, 0) = some r) (h2 : r.kind = 2) :
    Calls Tryd.prog 16 #[.pointer (some ⟨g, 0, none⟩), planV c vf vt] w fun e w' => ∃ vs', e = .returned (repV (bytesT S g D l1 c).2 (.slice none 0 0)) ∧ Went w w' g S vs (bytesT S g D l1 c).1 vs' := by
  obtain ⟨Af, nf, cf, rfl, hnf, hcf, hrf⟩ := _root_.id hv1
  obtain ⟨At_, nt, ct, rfl⟩ := hvt
  obtain ⟨w0, hw0, b0, p0, r0⟩ := open_w w (planA c Af nf cf At_ nt ct) rep0
  have T0 : Hid (At w w0 g S vs (planA c Af nf cf At_ nt ct)) := Lib.hid ⟨b0, r0, p0, h.low b0⟩
  have H := Lib.hid h; have HS := Lib.hid hs
  unfold planV
  obtain ⟨A0, n0, k0, e0, hn0, hc0, hr0⟩ := hv1.low b0
  cases e0
  have hwk := walk_any T0.out.t ho Af nf cf l1 hn0 (by omega) hsz1 hr0
  have c6 : w0.cell? ⟨w.heap.size, 6, none⟩ = some (.slice Af nf cf) := by rw [p0.cell]; rfl
  unfold planA rep0 at hw0
  clear hr0 hrf b0 p0 r0 h hs hv1
  have hm : bytesT S g D l1 c = (S, failR 18) := by unfold bytesT; rw [if_neg (fun e => e h1), hb]; dsimp only; rw [hrd]; dsimp only; rw [if_pos h2]
  rw [hm]
  rw [h1, hb] at hwk
  have hptr : ptrC (some b) = .pointer (some ⟨b, 0, none⟩) := rfl
  rw [hptr] at hwk
  have hf := fun W => fails_any 18 W
  unfold failV repV failR at hf
  clear hm h1 hb
  go_enter Tryd.func16, Tryd.ntmps16
  go_wp2_with fail
  refine hwk.mono ?_
  rintro e w1 ⟨rfl, b1⟩
  have T1 := Lib.hid (T0.out.go b1)
  obtain ⟨w2, hw2, b2, pb⟩ := open1 w1 #[.pointer (some ⟨b, 0, none⟩)] 65
  have T2 := Lib.hid (T1.out.go b2)
  have hlt1 : w.heap.size < w1.heap.size := T1.out.p.lt
  clear hw0 c6 hwk b1 b2
  have c5 : w2.cell? ⟨w1.heap.size, 0, none⟩ = some (.pointer (some ⟨b, 0, none⟩)) := by rw [pb.cell]; rfl
  have hN := T2.out.t.node _ _ hrd
  have k0 := hN.c0
  have k2 := hN.c2
  dsimp only at k0 k2
  clear hN
  rw [h2] at k0
  clear pb k2
  go_wp2_with fail
  refine (hf w2).mono ?_
  rintro e wz ⟨rfl, bz⟩
  clear hf
  have TZ := Lib.hid (T2.out.go bz)
  obtain ⟨W, hst, hfr, hW, q0, q1, q2, q3, q4, q5, q6⟩ := st7 TZ.out.r (failR 18) none 0 0
  obtain ⟨d0, d1, d2, d3, d4, d5, d6, hfz⟩ := rep0_at TZ.out.r
  dsimp only [failR] at hst q0 q1 q2 q3 q4 q5 q6
  have HF := Lib.hid hfr
  clear hfr hW bz
  go_wp2_with fail
  refine bodyPost_ret (v := failV 18) (by simp [results, Tryd.results16, go_sem, q0, q1, q2, q3, q4, q5, q6, failV, repV, failR]; try rfl) rfl ?_
  exact ⟨vs, rfl, Went.low H.out HS.out (HF.out.below TZ.out.b (fun k e => by omega))⟩
set_option maxRecDepth 100000 in
set_option maxHeartbeats 4000000 in
theorem bytes_read (h : IsT w g S vs) (hs : SepT w g S vs) (ho : OkT S g) (hk : RkT S g rk D) (hkd : KdT S) (c : CallV) (vf vt : Value) (l1 : List ByteArray) (hl1 : l1.length ≤ 100000) (hsz1 : ∀ s ∈ l1, s.size ≤ 1000000) (hv1 : NmV w vf l1) (hvt : ∃ A n c, vt = .slice A n c) (h1 : (walkT S g none l1).2 = 0) (b : Nat) (r : NR) (hb : (walkT S g none l1).1 = some b) (hrd : S.nd (b, 0) = some r) (h2 : r.kind ≠ 2) (h6 : c.op = 6) (ha : 0 ≤ c.at_) (hn : 0 ≤ c.n) :
    Calls Tryd.prog 16 #[.pointer (some ⟨g, 0, none⟩), planV c vf vt] w fun e w' => ∃ vs', e = .returned (repV (bytesT S g D l1 c).2 (.slice none 0 0)) ∧ Went w w' g S vs (bytesT S g D l1 c).1 vs' := by
  obtain ⟨Af, nf, cf, rfl, hnf, hcf, hrf⟩ := _root_.id hv1
  obtain ⟨At_, nt, ct, rfl⟩ := hvt
  obtain ⟨w0, hw0, b0, p0, r0⟩ := open_w w (planA c Af nf cf At_ nt ct) rep0
  have T0 : Hid (At w w0 g S vs (planA c Af nf cf At_ nt ct)) := Lib.hid ⟨b0, r0, p0, h.low b0⟩
  have H := Lib.hid h; have HS := Lib.hid hs
  unfold planV
  obtain ⟨A0, n0, k0, e0, hn0, hc0, hr0⟩ := hv1.low b0
  cases e0
  have hwk := walk_any T0.out.t ho Af nf cf l1 hn0 (by omega) hsz1 hr0
  have c6 : w0.cell? ⟨w.heap.size, 6, none⟩ = some (.slice Af nf cf) := by rw [p0.cell]; rfl
  unfold planA rep0 at hw0
  clear hr0 hrf b0 p0 r0 h hs hv1
  have hm : bytesT S g D l1 c = (S, ⟨0, readB r.data c.at_ c.n, 0, 0, 0, 0⟩) := by unfold bytesT; rw [if_neg (fun e => e h1), hb]; dsimp only; rw [hrd]; dsimp only; rw [if_neg h2, if_pos h6]
  rw [hm]
  rw [h1, hb] at hwk
  have hptr : ptrC (some b) = .pointer (some ⟨b, 0, none⟩) := rfl
  rw [hptr] at hwk
  have h2f : (r.kind == 2) = false := by simpa using h2
  have hdat := (ho.okn _ _ hrd).dat
  have h6f : (c.op == 6) = true := by simpa using h6
  clear hm h1 hb h6
  unfold readB
  have e1 : ((r.data.size : Int) - min c.at_ r.data.size) = ((r.data.extract (min c.at_ r.data.size).toNat r.data.size).size : Int) := by rw [ByteArray.size_extract]; omega
  rw [e1]
  have hsb : (min c.at_ (r.data.size : Int)) ≤ (r.data.size : Int) := by omega
  have hs0 : 0 ≤ (min c.at_ (r.data.size : Int)) := by omega
  obtain ⟨s1, hs1⟩ : ∃ s1, r.data.extract (min c.at_ r.data.size).toNat r.data.size = s1 := ⟨_, rfl⟩
  rw [hs1]
  obtain ⟨s2, hs2⟩ : ∃ s2, s1.extract 0 (min c.n s1.size).toNat = s2 := ⟨_, rfl⟩
  rw [hs2]
  clear e1
  go_enter Tryd.func16, Tryd.ntmps16
  go_wp2_with fail
  refine hwk.mono ?_
  rintro e w1 ⟨rfl, b1⟩
  have T1 := Lib.hid (T0.out.go b1)
  obtain ⟨w2, hw2, b2, pb⟩ := open1 w1 #[.pointer (some ⟨b, 0, none⟩)] 65
  have T2 := Lib.hid (T1.out.go b2)
  have hlt1 : w.heap.size < w1.heap.size := T1.out.p.lt
  clear hw0 c6 hwk b1 b2
  have c5 : w2.cell? ⟨w1.heap.size, 0, none⟩ = some (.pointer (some ⟨b, 0, none⟩)) := by rw [pb.cell]; rfl
  have hN := T2.out.t.node _ _ hrd
  have k0 := hN.c0
  have k2 := hN.c2
  dsimp only at k0 k2
  clear hN
  have a0 : w2.cell? ⟨w.heap.size, 0, none⟩ = some (.int .i64 c.op) := by rw [T2.out.p.cell]; rfl
  have a3 : w2.cell? ⟨w.heap.size, 3, none⟩ = some (.int .i64 c.at_) := by rw [T2.out.p.cell]; rfl
  have a4 : w2.cell? ⟨w.heap.size, 4, none⟩ = some (.int .i64 c.n) := by rw [T2.out.p.cell]; rfl
  have a5 : w2.cell? ⟨w.heap.size, 5, none⟩ = some (.string c.data) := by rw [T2.out.p.cell]; rfl
  clear pb a5
  obtain ⟨W, hst, hfr, hW, q0, q1, q2, q3, q4, q5, q6⟩ := st7 T2.out.r ⟨0, s2, 0, 0, 0, 0⟩ none 0 0
  obtain ⟨d0, d1, d2, d3, d4, d5, d6, hfz⟩ := rep0_at T2.out.r
  dsimp only at hst q0 q1 q2 q3 q4 q5 q6
  have HF := Lib.hid hfr
  clear hfr hW
  go_wp2_with fail
  refine bodyPost_ret (v := repV ⟨0, s2, 0, 0, 0, 0⟩ (.slice none 0 0)) (by simp [results, Tryd.results16, go_sem, q0, q1, q2, q3, q4, q5, q6, repV]; try rfl) rfl ?_
  exact ⟨vs, rfl, Went.low H.out HS.out (HF.out.below T2.out.b (fun k e => by omega))⟩
set_option maxRecDepth 100000 in
set_option maxHeartbeats 4000000 in
theorem bytes_full7 (h : IsT w g S vs) (hs : SepT w g S vs) (ho : OkT S g) (hk : RkT S g rk D) (hkd : KdT S) (c : CallV) (vf vt : Value) (l1 : List ByteArray) (hl1 : l1.length ≤ 100000) (hsz1 : ∀ s ∈ l1, s.size ≤ 1000000) (hv1 : NmV w vf l1) (hvt : ∃ A n c, vt = .slice A n c) (h1 : (walkT S g none l1).2 = 0) (b : Nat) (r : NR) (hb : (walkT S g none l1).1 = some b) (hrd : S.nd (b, 0) = some r) (h2 : r.kind ≠ 2) (h7 : c.op = 7) (hb7 : 0 ≤ c.at_ ∧ c.at_ + c.data.size ≤ 6144) (hfull : freeT S g D < need (newN c r.data) - need r.data.size) :
    Calls Tryd.prog 16 #[.pointer (some ⟨g, 0, none⟩), planV c vf vt] w fun e w' => ∃ vs', e = .returned (repV (bytesT S g D l1 c).2 (.slice none 0 0)) ∧ Went w w' g S vs (bytesT S g D l1 c).1 vs' := by
  obtain ⟨Af, nf, cf, rfl, hnf, hcf, hrf⟩ := _root_.id hv1
  obtain ⟨At_, nt, ct, rfl⟩ := hvt
  obtain ⟨w0, hw0, b0, p0, r0⟩ := open_w w (planA c Af nf cf At_ nt ct) rep0
  have T0 : Hid (At w w0 g S vs (planA c Af nf cf At_ nt ct)) := Lib.hid ⟨b0, r0, p0, h.low b0⟩
  have H := Lib.hid h; have HS := Lib.hid hs
  unfold planV
  obtain ⟨A0, n0, k0, e0, hn0, hc0, hr0⟩ := hv1.low b0
  cases e0
  have hwk := walk_any T0.out.t ho Af nf cf l1 hn0 (by omega) hsz1 hr0
  have c6 : w0.cell? ⟨w.heap.size, 6, none⟩ = some (.slice Af nf cf) := by rw [p0.cell]; rfl
  unfold planA rep0 at hw0
  clear hr0 hrf b0 p0 r0 h hs hv1
  have h6 : c.op ≠ 6 := by omega
  have hN : newN c r.data = (max (r.data.size : Int) (c.at_ + c.data.size)) := if_pos h7
  have hm : bytesT S g D l1 c = (S, failR 15) := by unfold bytesT; rw [if_neg (fun e => e h1), hb]; dsimp only; rw [hrd]; dsimp only; rw [if_neg h2, if_neg h6, if_pos hfull]
  rw [hm]
  rw [h1, hb] at hwk
  have hptr : ptrC (some b) = .pointer (some ⟨b, 0, none⟩) := rfl
  rw [hptr] at hwk
  have h2f : (r.kind == 2) = false := by simpa using h2
  have hdat := (ho.okn _ _ hrd).dat
  have h6f : (c.op == 6) = false := by simpa using h6
  have h7f : (c.op == 7) = true := by simpa using h7
  have hwx : IntKind.i64.wrap (c.at_ + (c.data.size : Int)) = c.at_ + c.data.size := by rw [IntKind.wrap_i64]; omega
  have hcn1 := fun W => need_any (newN c r.data) W (by rw [hN]; omega) (by rw [hN]; omega)
  have hcn2 := fun W => need_any (r.data.size : Int) W (by omega) (by omega)
  have hbd1 := need_bd (newN c r.data) (by rw [hN]; omega)
  have hbd2 := need_bd (r.data.size : Int) (by omega)
  have hfr' : ∀ w', IsT w' g S vs → Calls Tryd.prog 9 #[.pointer (some ⟨g, 0, none⟩)] w' fun e w'' => e = .returned (.int .i64 (freeT S g D)) ∧ Below w'.heap.size w' w'' := fun w' hT => free_any hT ho hk
  generalize freeT S g D = fr at *
  generalize hn1 : need (newN c r.data) = n1 at *
  generalize hn2 : need (r.data.size : Int) = n2 at *
  have hws : IntKind.i64.wrap (n1 - n2) = n1 - n2 := by rw [IntKind.wrap_i64]; omega
  have dfl : decide (fr < n1 - n2) = true := decide_eq_true hfull
  have hf := fun W => fails_any 15 W
  unfold failV repV failR at hf
  rw [hN] at hcn1
  clear hm h1 hb h6 h7 hfull hn1 hn2 hN
  go_enter Tryd.func16, Tryd.ntmps16
  go_wp2_with fail
  refine hwk.mono ?_
  rintro e w1 ⟨rfl, b1⟩
  have T1 := Lib.hid (T0.out.go b1)
  obtain ⟨w2, hw2, b2, pb⟩ := open1 w1 #[.pointer (some ⟨b, 0, none⟩)] 65
  have T2 := Lib.hid (T1.out.go b2)
  have hlt1 : w.heap.size < w1.heap.size := T1.out.p.lt
  clear hw0 c6 hwk b1 b2
  have c5 : w2.cell? ⟨w1.heap.size, 0, none⟩ = some (.pointer (some ⟨b, 0, none⟩)) := by rw [pb.cell]; rfl
  have hN := T2.out.t.node _ _ hrd
  have k0 := hN.c0
  have k2 := hN.c2
  dsimp only at k0 k2
  clear hN
  have a0 : w2.cell? ⟨w.heap.size, 0, none⟩ = some (.int .i64 c.op) := by rw [T2.out.p.cell]; rfl
  have a3 : w2.cell? ⟨w.heap.size, 3, none⟩ = some (.int .i64 c.at_) := by rw [T2.out.p.cell]; rfl
  have a4 : w2.cell? ⟨w.heap.size, 4, none⟩ = some (.int .i64 c.n) := by rw [T2.out.p.cell]; rfl
  have a5 : w2.cell? ⟨w.heap.size, 5, none⟩ = some (.string c.data) := by rw [T2.out.p.cell]; rfl
  clear pb
  go_wp2_with fail
  refine (hcn1 w2).mono ?_
  rintro e w3 ⟨rfl, rfl⟩
  go_wp2_with fail
  refine (hcn2 w2).mono ?_
  rintro e w3 ⟨rfl, rfl⟩
  clear hcn1 hcn2
  go_wp2_with fail
  refine (hfr' w2 T2.out.t).mono ?_
  rintro e w4 ⟨rfl, b4⟩
  have T4 := Lib.hid (T2.out.go b4)
  clear hfr'
  clear b4
  go_wp2_with fail
  refine (hf w4).mono ?_
  rintro e wz ⟨rfl, bz⟩
  clear hf
  have TZ := Lib.hid (T4.out.go bz)
  obtain ⟨W, hst, hfr, hW, q0, q1, q2, q3, q4, q5, q6⟩ := st7 TZ.out.r (failR 15) none 0 0
  obtain ⟨d0, d1, d2, d3, d4, d5, d6, hfz⟩ := rep0_at TZ.out.r
  dsimp only [failR] at hst q0 q1 q2 q3 q4 q5 q6
  have HF := Lib.hid hfr
  clear hfr hW bz
  go_wp2_with fail
  refine bodyPost_ret (v := failV 15) (by simp [results, Tryd.results16, go_sem, q0, q1, q2, q3, q4, q5, q6, failV, repV, failR]; try rfl) rfl ?_
  exact ⟨vs, rfl, Went.low H.out HS.out (HF.out.below TZ.out.b (fun k e => by omega))⟩
set_option maxRecDepth 100000 in
set_option maxHeartbeats 4000000 in
theorem bytes_full8 (h : IsT w g S vs) (hs : SepT w g S vs) (ho : OkT S g) (hk : RkT S g rk D) (hkd : KdT S) (c : CallV) (vf vt : Value) (l1 : List ByteArray) (hl1 : l1.length ≤ 100000) (hsz1 : ∀ s ∈ l1, s.size ≤ 1000000) (hv1 : NmV w vf l1) (hvt : ∃ A n c, vt = .slice A n c) (h1 : (walkT S g none l1).2 = 0) (b : Nat) (r : NR) (hb : (walkT S g none l1).1 = some b) (hrd : S.nd (b, 0) = some r) (h2 : r.kind ≠ 2) (h6 : c.op ≠ 6) (h7 : c.op ≠ 7) (hb8 : 0 ≤ c.n ∧ c.n ≤ 6144) (hfull : freeT S g D < need (newN c r.data) - need r.data.size) :
    Calls Tryd.prog 16 #[.pointer (some ⟨g, 0, none⟩), planV c vf vt] w fun e w' => ∃ vs', e = .returned (repV (bytesT S g D l1 c).2 (.slice none 0 0)) ∧ Went w w' g S vs (bytesT S g D l1 c).1 vs' := by
  obtain ⟨Af, nf, cf, rfl, hnf, hcf, hrf⟩ := _root_.id hv1
  obtain ⟨At_, nt, ct, rfl⟩ := hvt
  obtain ⟨w0, hw0, b0, p0, r0⟩ := open_w w (planA c Af nf cf At_ nt ct) rep0
  have T0 : Hid (At w w0 g S vs (planA c Af nf cf At_ nt ct)) := Lib.hid ⟨b0, r0, p0, h.low b0⟩
  have H := Lib.hid h; have HS := Lib.hid hs
  unfold planV
  obtain ⟨A0, n0, k0, e0, hn0, hc0, hr0⟩ := hv1.low b0
  cases e0
  have hwk := walk_any T0.out.t ho Af nf cf l1 hn0 (by omega) hsz1 hr0
  have c6 : w0.cell? ⟨w.heap.size, 6, none⟩ = some (.slice Af nf cf) := by rw [p0.cell]; rfl
  unfold planA rep0 at hw0
  clear hr0 hrf b0 p0 r0 h hs hv1
  have hN : newN c r.data = c.n := if_neg h7
  have hm : bytesT S g D l1 c = (S, failR 15) := by unfold bytesT; rw [if_neg (fun e => e h1), hb]; dsimp only; rw [hrd]; dsimp only; rw [if_neg h2, if_neg h6, if_pos hfull]
  rw [hm]
  rw [h1, hb] at hwk
  have hptr : ptrC (some b) = .pointer (some ⟨b, 0, none⟩) := rfl
  rw [hptr] at hwk
  have h2f : (r.kind == 2) = false := by simpa using h2
  have hdat := (ho.okn _ _ hrd).dat
  have h6f : (c.op == 6) = false := by simpa using h6
  have h7f : (c.op == 7) = false := by simpa using h7
  have hcn1 := fun W => need_any (newN c r.data) W (by rw [hN]; omega) (by rw [hN]; omega)
  have hcn2 := fun W => need_any (r.data.size : Int) W (by omega) (by omega)
  have hbd1 := need_bd (newN c r.data) (by rw [hN]; omega)
  have hbd2 := need_bd (r.data.size : Int) (by omega)
  have hfr' : ∀ w', IsT w' g S vs → Calls Tryd.prog 9 #[.pointer (some ⟨g, 0, none⟩)] w' fun e w'' => e = .returned (.int .i64 (freeT S g D)) ∧ Below w'.heap.size w' w'' := fun w' hT => free_any hT ho hk
  generalize freeT S g D = fr at *
  generalize hn1 : need (newN c r.data) = n1 at *
  generalize hn2 : need (r.data.size : Int) = n2 at *
  have hws : IntKind.i64.wrap (n1 - n2) = n1 - n2 := by rw [IntKind.wrap_i64]; omega
  have dfl : decide (fr < n1 - n2) = true := decide_eq_true hfull
  have hf := fun W => fails_any 15 W
  unfold failV repV failR at hf
  rw [hN] at hcn1
  clear hm h1 hb h6 h7 hfull hn1 hn2 hN
  go_enter Tryd.func16, Tryd.ntmps16
  go_wp2_with fail
  refine hwk.mono ?_
  rintro e w1 ⟨rfl, b1⟩
  have T1 := Lib.hid (T0.out.go b1)
  obtain ⟨w2, hw2, b2, pb⟩ := open1 w1 #[.pointer (some ⟨b, 0, none⟩)] 65
  have T2 := Lib.hid (T1.out.go b2)
  have hlt1 : w.heap.size < w1.heap.size := T1.out.p.lt
  clear hw0 c6 hwk b1 b2
  have c5 : w2.cell? ⟨w1.heap.size, 0, none⟩ = some (.pointer (some ⟨b, 0, none⟩)) := by rw [pb.cell]; rfl
  have hN := T2.out.t.node _ _ hrd
  have k0 := hN.c0
  have k2 := hN.c2
  dsimp only at k0 k2
  clear hN
  have a0 : w2.cell? ⟨w.heap.size, 0, none⟩ = some (.int .i64 c.op) := by rw [T2.out.p.cell]; rfl
  have a3 : w2.cell? ⟨w.heap.size, 3, none⟩ = some (.int .i64 c.at_) := by rw [T2.out.p.cell]; rfl
  have a4 : w2.cell? ⟨w.heap.size, 4, none⟩ = some (.int .i64 c.n) := by rw [T2.out.p.cell]; rfl
  have a5 : w2.cell? ⟨w.heap.size, 5, none⟩ = some (.string c.data) := by rw [T2.out.p.cell]; rfl
  clear pb
  go_wp2_with fail
  refine (hcn1 w2).mono ?_
  rintro e w3 ⟨rfl, rfl⟩
  go_wp2_with fail
  refine (hcn2 w2).mono ?_
  rintro e w3 ⟨rfl, rfl⟩
  clear hcn1 hcn2
  go_wp2_with fail
  refine (hfr' w2 T2.out.t).mono ?_
  rintro e w4 ⟨rfl, b4⟩
  have T4 := Lib.hid (T2.out.go b4)
  clear hfr'
  clear b4
  go_wp2_with fail
  refine (hf w4).mono ?_
  rintro e wz ⟨rfl, bz⟩
  clear hf
  have TZ := Lib.hid (T4.out.go bz)
  obtain ⟨W, hst, hfr, hW, q0, q1, q2, q3, q4, q5, q6⟩ := st7 TZ.out.r (failR 15) none 0 0
  obtain ⟨d0, d1, d2, d3, d4, d5, d6, hfz⟩ := rep0_at TZ.out.r
  dsimp only [failR] at hst q0 q1 q2 q3 q4 q5 q6
  have HF := Lib.hid hfr
  clear hfr hW bz
  go_wp2_with fail
  refine bodyPost_ret (v := failV 15) (by simp [results, Tryd.results16, go_sem, q0, q1, q2, q3, q4, q5, q6, failV, repV, failR]; try rfl) rfl ?_
  exact ⟨vs, rfl, Went.low H.out HS.out (HF.out.below TZ.out.b (fun k e => by omega))⟩
end
end Go.Proofs.YtglglbbjacgbdaaDoor
