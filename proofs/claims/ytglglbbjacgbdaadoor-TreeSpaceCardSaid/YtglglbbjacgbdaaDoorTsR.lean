import Derived.Test.YtglglbbjacgbdaaDoorTsQ
import Derived.Test.YtglglbbjacgbdaaDoorTrU
namespace Go.Proofs.YtglglbbjacgbdaaDoor
open Go.RowKit
set_option linter.unusedVariables false
set_option linter.unusedSimpArgs false
attribute [local go_sem] b_max2 b_min2 b_max b_min

/-! ### drop -/
theorem cellsC_erase (l : List Ch) (i : Nat) (hi : i < l.length) : cellsC (l.eraseIdx i) = (cellsC l).take (i * 2) ++ (cellsC l).drop ((i + 1) * 2) := by
  rw [List.eraseIdx_eq_take_drop_succ, cellsC_append, (cellsC_take l i (by omega)).1, (cellsC_take l (i + 1) hi).2]
section
variable {w w' : World} {id : Id} {r : NR} {v : Value}
set_option maxRecDepth 100000 in
set_option maxHeartbeats 1000000 in
theorem drop_any (h : IsN w id r v) (ho : OkN r) {t : TypeId} {cs : Array Value} (hb : Blk w id.1 t cs) (ht : t ≠ 72) (s : ByteArray) (hh : hasN r.list s = true) :
    Calls Tryd.prog 28 #[.pointer (some ⟨id.1, id.2, none⟩), .string s] w fun e w' => e = .returned (.tuple #[]) ∧
      ∃ v' cs', w'.ownsRow 0 72 2 v' (r.list.length - 1) (cellsC (r.list.eraseIdx (plc r.list s))) ∧ Blk w' id.1 t cs' ∧ w'.cell? ⟨id.1, id.2 + 3, none⟩ = some v' ∧
        (∀ o, o ≠ id.2 + 3 → w'.cell? ⟨id.1, o, none⟩ = w.cell? ⟨id.1, o, none⟩) ∧ Fr (fun k => k = id.1 ∨ v.ownBlock = some k) w w' ∧ v'.ownBlock = v.ownBlock := by
  have hp := place_any h ho s
  rw [hh] at hp
  have hpl := (plc_lt ho.so hh).1
  have hcells := cellsC_erase r.list _ hpl
  rw [hcells]
  have hrow := h.row
  have hnb : v.ownBlock ≠ some id.1 := own_blk_ne hrow hb (Ne.symm ht)
  have hone := cellsC_one r.list
  have c3 := h.c3
  have hlt := h.lt
  have hlen := ho.len
  generalize plc r.list s = p at *
  generalize hxs : cellsC r.list = xs at *
  generalize hn : r.list.length = n at *
  clear h ho hcells hxs hn hh
  obtain ⟨a, b⟩ := id
  dsimp only at *
  obtain ⟨q, c, rfl⟩ : ∃ q c, v = .slice (some ⟨q, 0, none⟩) n c := by
    rcases hrow.2 with ⟨_, h0⟩ | ⟨g, cap, cur, hv, _⟩
    · omega
    · exact ⟨g, cap, hv⟩
  have hwp : IntKind.i64.wrap ((p : Int) + 1) = (p : Int) + 1 := by rw [IntKind.wrap_i64]; omega
  go_enter Tryd.func28, Tryd.ntmps28
  go_wp2_with fail
  refine hp.mono ?_
  rintro e w1 ⟨rfl, b1⟩
  have c31 : w1.cell? ⟨a, b + 3, none⟩ = some (.slice (some ⟨q, 0, none⟩) n c) := (b1.cell (p := ⟨a, b + 3, none⟩) hlt).trans c3
  have hb1 : Blk w1 a t cs := hb.below b1 hlt
  have hr1 : w1.ownsRow 0 72 2 (.slice (some ⟨q, 0, none⟩) n c) n xs := Fr.own_low b1 hrow
  clear hp
  have hdel := del_any hr1 hpl hone
  go_wp2_with fail
  refine hdel.mono ?_
  rintro e w3 ⟨rfl, h1, h2⟩
  have hqa : ¬ (q = a) := fun e => hnb (by rw [e]; rfl)
  have hb3 : Blk w3 a t cs := hb1.grown h2 (fun e => hqa (by injection e with e; exact e.symm))
  have c33 : w3.cell? ⟨a, b + 3, none⟩ = some (.slice (some ⟨q, 0, none⟩) n c) := (hb3.cell _).trans ((hb1.cell _).symm.trans c31)
  have f33 : w3.frozen? ⟨a, b + 3, none⟩ = false := hb3.frozen _
  have hin : b + 3 < cs.size := by
    have := (hb3.cell (b + 3)).symm.trans c33
    exact (Array.getElem?_eq_some_iff.1 this).1
  have hb4 : Blk (w3.setCell ⟨a, b + 3, none⟩ (.slice (some ⟨q, 0, none⟩) (n - 1) c)) a t (cs.setIfInBounds (b + 3) (.slice (some ⟨q, 0, none⟩) (n - 1) c)) := hb3.set_ _ _
  have hf2 : Fr (fun k => k = a ∨ (Value.slice (some ⟨q, 0, none⟩) n c).ownBlock = some k) w w3 := (Fr.of_below b1 _).trans ((Fr.of_grown h2).mono fun k hk _ => .inr hk)
  have hfin : (w3.setCell ⟨a, b + 3, none⟩ (.slice (some ⟨q, 0, none⟩) (n - 1) c)).ownsRow 0 72 2 (.slice (some ⟨q, 0, none⟩) (n - 1) c) (n - 1) (xs.take (p * 2) ++ xs.drop ((p + 1) * 2)) ∧ (w3.setCell ⟨a, b + 3, none⟩ (.slice (some ⟨q, 0, none⟩) (n - 1) c)).cell? ⟨a, b + 3, none⟩ = some (.slice (some ⟨q, 0, none⟩) (n - 1) c) ∧ (∀ o, o ≠ b + 3 → (w3.setCell ⟨a, b + 3, none⟩ (.slice (some ⟨q, 0, none⟩) (n - 1) c)).cell? ⟨a, o, none⟩ = w.cell? ⟨a, o, none⟩) ∧ Fr (fun k => k = a ∨ (Value.slice (some ⟨q, 0, none⟩) n c).ownBlock = some k) w (w3.setCell ⟨a, b + 3, none⟩ (.slice (some ⟨q, 0, none⟩) (n - 1) c)) ∧ (Value.slice (some ⟨q, 0, none⟩) (n - 1) c).ownBlock = (Value.slice (some ⟨q, 0, none⟩) n c).ownBlock := by
    refine ⟨(Fr.setCell (F := fun k => k = a) w3 a (b + 3) _ rfl).own h1 (fun k hk e => hqa (by rw [← e]; injection hk)), ?_, fun o ho => ?_, hf2.trans (Fr.setCell _ _ _ _ (.inl rfl)), rfl⟩
    · rw [hb4.cell]; simp [hin]
    · rw [hb4.cell, hb.cell, Array.getElem?_setIfInBounds, if_neg (by omega)]
  have HF := Lib.hid hfin; have HB := Lib.hid hb4
  clear hfin hb4 hf2 h1 h2 hdel hrow hr1 hone hb hb1 hb3 c3 c31 hnb
  go_wp2_with fail
  go_end0
  exact ⟨rfl, _, _, HF.out.1, HB.out, HF.out.2⟩
end
section
variable {w w' : World} {g : Nat} {S : TS} {vs : Id → Value} {id : Id} {r r' : NR} {v' : Value}
theorem drop_tree (h : IsT w g S vs) (hs : SepT w g S vs) (hr : S.nd id = some r) (ho : OkN r) (s : ByteArray) (hh : hasN r.list s = true) :
    Calls Tryd.prog 28 #[.pointer (some ⟨id.1, id.2, none⟩), .string s] w fun e w' => e = .returned (.tuple #[]) ∧ ∃ v', Went w w' g S vs (S.upd id (dropR r s)) (vsU vs id v') := by
  obtain ⟨t, cs, hb, ht⟩ := hs.blk id r hr
  have hN := h.node id r hr
  refine (drop_any hN ho hb ht s hh).mono ?_
  rintro e w' ⟨rfl, v', cs', h1, h2, h3, h4, h5, h6⟩
  refine ⟨rfl, v', ?_⟩
  have hd : dropR r s = { r with list := r.list.eraseIdx (plc r.list s) } := if_pos hh
  have hl : (dropR r s).list.length = r.list.length - 1 := by have := dropR_lt ho.so hh; omega
  have hN' : IsN w' id (dropR r s) v' := ⟨(h4 _ (by omega)).trans (by rw [(dropR_kind r s).1]; exact hN.c0), (h4 _ (by omega)).trans (by rw [(dropR_kind r s).2.1]; exact hN.c1), (h4 _ (by omega)).trans (by rw [(dropR_kind r s).2.2]; exact hN.c2), h3, by rw [hl, show (dropR r s).list = r.list.eraseIdx (plc r.list s) by rw [hd]]; exact h1, ⟨cs', t, h2⟩⟩
  obtain ⟨k1, k2, k3, k4⟩ := h.upd hs hr hN' h5 h2 ht (fun o ho' => h4 o (by omega)) (.inl h6)
  exact ⟨k1, k2, k3, k4⟩
end
section
variable {w : World} {g : Nat} {S : TS} {vs : Id → Value}
set_option maxRecDepth 100000 in
set_option maxHeartbeats 4000000 in
theorem unlink_err (h : IsT w g S vs) (hs : SepT w g S vs) (ho : OkT S g) (hkd : KdT S) (c : CallV) (vf vt : Value) (l1 : List ByteArray) (hl1 : l1.length ≤ 100000) (hne1 : l1 ≠ []) (hsz1 : ∀ s ∈ l1, s.size ≤ 1000000) (hv1 : NmV w vf l1) (hvt : ∃ A n c, vt = .slice A n c) (h1 : (walkT S g none l1).2 ≠ 0) :
    Calls Tryd.prog 13 #[.pointer (some ⟨g, 0, none⟩), planV c vf vt] w fun e w' => ∃ vs', e = .returned (failV (unlinkT S g l1).2) ∧ Went w w' g S vs (unlinkT S g l1).1 vs' := by
  obtain ⟨Af, nf, cf, rfl, hnf, hcf, hrf⟩ := _root_.id hv1
  obtain ⟨At_, nt, ct, rfl⟩ := hvt
  obtain ⟨w0, hw0, b0, p0, r0⟩ := open_w w (planA c Af nf cf At_ nt ct) rep0
  have T0 : Hid (At w w0 g S vs (planA c Af nf cf At_ nt ct)) := Lib.hid ⟨b0, r0, p0, h.low b0⟩
  have H := Lib.hid h; have HS := Lib.hid hs
  unfold planV
  obtain ⟨A0, n0, k0, e0, hn0, hc0, hr0⟩ := hv1.low b0
  cases e0
  have hwk := walk_any T0.out.t ho Af nf cf l1 hn0 (by omega) hsz1 hr0
  have hla := fun {W : World} (hT : IsT W g S vs) (hN : NmV W (.slice Af nf cf) l1) => last_any hT ho _ l1 hl1 hne1 hsz1 hN
  have HV := Lib.hid hv1
  have c6 : w0.cell? ⟨w.heap.size, 6, none⟩ = some (.slice Af nf cf) := by rw [p0.cell]; rfl
  unfold planA rep0 at hw0
  clear hr0 hrf b0 p0 r0 h hs hv1
  have hm : unlinkT S g l1 = (S, (walkT S g none l1).2) := by unfold unlinkT; rw [if_pos h1]
  rw [hm]
  generalize (walkT S g none l1).2 = er at *
  obtain ⟨pt, hpt⟩ : ∃ pt, ptrC (walkT S g none l1).1 = .pointer pt := ⟨_, rfl⟩
  rw [hpt] at hwk
  have hf := fun W => fails_any er W
  unfold failV repV failR at hf
  clear hm hpt hla
  go_enter Tryd.func13, Tryd.ntmps13
  go_wp2_with fail
  refine hwk.mono ?_
  rintro e w1 ⟨rfl, b1⟩
  have T1 := Lib.hid (T0.out.go b1)
  obtain ⟨w2, hw2, b2, pb⟩ := open1 w1 #[.pointer pt] 65
  have T2 := Lib.hid (T1.out.go b2)
  have hlt1 : w.heap.size < w1.heap.size := T1.out.p.lt
  clear hw0 c6 hwk b1 b2
  clear pb
  go_wp2_with fail
  refine (hf w2).mono ?_
  rintro e wz ⟨rfl, bz⟩
  clear hf
  have TZ := Lib.hid (T2.out.go bz)
  obtain ⟨W, hst, hfr, hW, q0, q1, q2, q3, q4, q5, q6⟩ := st7 TZ.out.r (failR er) none 0 0
  obtain ⟨d0, d1, d2, d3, d4, d5, d6, hfz⟩ := rep0_at TZ.out.r
  dsimp only [failR] at hst q0 q1 q2 q3 q4 q5 q6
  have HF := Lib.hid hfr
  clear hfr hW bz
  go_wp2_with fail
  refine bodyPost_ret (v := failV er) (by simp [results, Tryd.results13, go_sem, q0, q1, q2, q3, q4, q5, q6, failV, repV, failR]; try rfl) rfl ?_
  exact ⟨vs, rfl, Went.low H.out HS.out (HF.out.below TZ.out.b (fun k e => by omega))⟩
set_option maxRecDepth 100000 in
set_option maxHeartbeats 4000000 in
theorem unlink_full (h : IsT w g S vs) (hs : SepT w g S vs) (ho : OkT S g) (hkd : KdT S) (c : CallV) (vf vt : Value) (l1 : List ByteArray) (hl1 : l1.length ≤ 100000) (hne1 : l1 ≠ []) (hsz1 : ∀ s ∈ l1, s.size ≤ 1000000) (hv1 : NmV w vf l1) (hvt : ∃ A n c, vt = .slice A n c) (h1 : (walkT S g none l1).2 = 0) (b : Nat) (r : NR) (hb : (walkT S g none l1).1 = some b) (hrd : S.nd (b, 0) = some r) (h2 : r.list ≠ []) :
    Calls Tryd.prog 13 #[.pointer (some ⟨g, 0, none⟩), planV c vf vt] w fun e w' => ∃ vs', e = .returned (failV (unlinkT S g l1).2) ∧ Went w w' g S vs (unlinkT S g l1).1 vs' := by
  obtain ⟨Af, nf, cf, rfl, hnf, hcf, hrf⟩ := _root_.id hv1
  obtain ⟨At_, nt, ct, rfl⟩ := hvt
  obtain ⟨w0, hw0, b0, p0, r0⟩ := open_w w (planA c Af nf cf At_ nt ct) rep0
  have T0 : Hid (At w w0 g S vs (planA c Af nf cf At_ nt ct)) := Lib.hid ⟨b0, r0, p0, h.low b0⟩
  have H := Lib.hid h; have HS := Lib.hid hs
  unfold planV
  obtain ⟨A0, n0, k0, e0, hn0, hc0, hr0⟩ := hv1.low b0
  cases e0
  have hwk := walk_any T0.out.t ho Af nf cf l1 hn0 (by omega) hsz1 hr0
  have hla := fun {W : World} (hT : IsT W g S vs) (hN : NmV W (.slice Af nf cf) l1) => last_any hT ho _ l1 hl1 hne1 hsz1 hN
  have HV := Lib.hid hv1
  have c6 : w0.cell? ⟨w.heap.size, 6, none⟩ = some (.slice Af nf cf) := by rw [p0.cell]; rfl
  unfold planA rep0 at hw0
  clear hr0 hrf b0 p0 r0 h hs hv1
  have hm : unlinkT S g l1 = (S, 20) := by unfold unlinkT; rw [if_neg (fun e => e h1), hb]; dsimp only; rw [hrd]; dsimp only; rw [if_pos h2]
  rw [hm]
  rw [h1, hb] at hwk
  have hptr : ptrC (some b) = .pointer (some ⟨b, 0, none⟩) := rfl
  rw [hptr] at hwk
  have hpos := List.length_pos_iff.2 h2
  have hf := fun W => fails_any 20 W
  unfold failV repV failR at hf
  clear hm hla h1 hb h2
  go_enter Tryd.func13, Tryd.ntmps13
  go_wp2_with fail
  refine hwk.mono ?_
  rintro e w1 ⟨rfl, b1⟩
  have T1 := Lib.hid (T0.out.go b1)
  obtain ⟨w2, hw2, b2, pb⟩ := open1 w1 #[.pointer (some ⟨b, 0, none⟩)] 65
  have T2 := Lib.hid (T1.out.go b2)
  have hlt1 : w.heap.size < w1.heap.size := T1.out.p.lt
  clear hw0 c6 hwk b1 b2
  have hN := T2.out.t.node _ _ hrd
  obtain ⟨A3, k3, ev, _, _⟩ := Reads.of_own hN.row
  have c3 := hN.c3
  rw [ev] at c3
  have c5 : w2.cell? ⟨w1.heap.size, 0, none⟩ = some (.pointer (some ⟨b, 0, none⟩)) := by rw [pb.cell]; rfl
  dsimp only at c3
  clear hN ev
  generalize r.list.length = m at *
  have hgt : decide ((0 : Int) < (m : Int)) = true := by rw [decide_eq_true_eq]; omega
  clear pb
  go_wp2_with fail
  refine (hf w2).mono ?_
  rintro e wz ⟨rfl, bz⟩
  clear hf
  have TZ := Lib.hid (T2.out.go bz)
  obtain ⟨W, hst, hfr, hW, q0, q1, q2, q3, q4, q5, q6⟩ := st7 TZ.out.r (failR 20) none 0 0
  obtain ⟨d0, d1, d2, d3, d4, d5, d6, hfz⟩ := rep0_at TZ.out.r
  dsimp only [failR] at hst q0 q1 q2 q3 q4 q5 q6
  have HF := Lib.hid hfr
  clear hfr hW bz
  go_wp2_with fail
  refine bodyPost_ret (v := failV 20) (by simp [results, Tryd.results13, go_sem, q0, q1, q2, q3, q4, q5, q6, failV, repV, failR]; try rfl) rfl ?_
  exact ⟨vs, rfl, Went.low H.out HS.out (HF.out.below TZ.out.b (fun k e => by omega))⟩
set_option maxRecDepth 100000 in
set_option maxHeartbeats 4000000 in
theorem unlink_done (h : IsT w g S vs) (hs : SepT w g S vs) (ho : OkT S g) (hkd : KdT S) (c : CallV) (vf vt : Value) (l1 : List ByteArray) (hl1 : l1.length ≤ 100000) (hne1 : l1 ≠ []) (hsz1 : ∀ s ∈ l1, s.size ≤ 1000000) (hv1 : NmV w vf l1) (hvt : ∃ A n c, vt = .slice A n c) (h1 : (walkT S g none l1).2 = 0) (b : Nat) (r : NR) (hb : (walkT S g none l1).1 = some b) (hrd : S.nd (b, 0) = some r) (h2 : r.list = []) (id : Id) (r2 : NR) (hid : (lastT S g l1).1 = some id) (he : (lastT S g l1).2.2 = 0) (hr2 : S.nd id = some r2) (hh : hasN r2.list (lastT S g l1).2.1 = true) (hne : id ≠ (b, 0)) (hlk : r.links ≤ 1000000000) :
    Calls Tryd.prog 13 #[.pointer (some ⟨g, 0, none⟩), planV c vf vt] w fun e w' => ∃ vs', e = .returned (failV (unlinkT S g l1).2) ∧ Went w w' g S vs (unlinkT S g l1).1 vs' := by
  obtain ⟨Af, nf, cf, rfl, hnf, hcf, hrf⟩ := _root_.id hv1
  obtain ⟨At_, nt, ct, rfl⟩ := hvt
  obtain ⟨w0, hw0, b0, p0, r0⟩ := open_w w (planA c Af nf cf At_ nt ct) rep0
  have T0 : Hid (At w w0 g S vs (planA c Af nf cf At_ nt ct)) := Lib.hid ⟨b0, r0, p0, h.low b0⟩
  have H := Lib.hid h; have HS := Lib.hid hs
  unfold planV
  obtain ⟨A0, n0, k0, e0, hn0, hc0, hr0⟩ := hv1.low b0
  cases e0
  have hwk := walk_any T0.out.t ho Af nf cf l1 hn0 (by omega) hsz1 hr0
  have hla := fun {W : World} (hT : IsT W g S vs) (hN : NmV W (.slice Af nf cf) l1) => last_any hT ho _ l1 hl1 hne1 hsz1 hN
  have HV := Lib.hid hv1
  have c6 : w0.cell? ⟨w.heap.size, 6, none⟩ = some (.slice Af nf cf) := by rw [p0.cell]; rfl
  unfold planA rep0 at hw0
  clear hr0 hrf b0 p0 r0 h hs hv1
  have hm : unlinkT S g l1 = ((S.upd id (dropR r2 (lastT S g l1).2.1)).upd (b, 0) { r with links := r.links - 1 }, 0) := by unfold unlinkT; rw [if_neg (fun e => e h1), hb]; dsimp only; rw [hrd]; dsimp only; rw [if_neg (fun e => e h2), if_neg (fun e => e he), hid]; dsimp only; rw [hr2]
  rw [hm]
  rw [h1, hb] at hwk
  have hptr : ptrC (some b) = .pointer (some ⟨b, 0, none⟩) := rfl
  rw [hptr] at hwk
  rw [he, hid] at hla
  unfold ptrI at hla
  dsimp only [Option.map_some] at hla
  have hok2 := ho.okn _ _ hr2
  have hlk0 := hkd.lk _ _ hrd
  have hrd' : (S.upd id (dropR r2 (lastT S g l1).2.1)).nd (b, 0) = some r := by rw [upd_other _ _ (Ne.symm hne)]; exact hrd
  generalize (lastT S g l1).2.1 = nm at *
  have hf := fun W => fails_any 0 W
  unfold failV repV failR at hf
  have hl0 : r.list.length = 0 := by rw [h2]; rfl
  have hblt : b < w.heap.size := (H.out.node _ _ hrd).lt
  obtain ⟨i1, i2⟩ := id
  dsimp only at hla
  have HR2 := Lib.hid hr2; have HRD := Lib.hid hrd; have HRD' := Lib.hid hrd'; have HOK2 := Lib.hid hok2; have HH := Lib.hid hh
  clear hm h1 hb h2 hid he hok2 hrd' hne hr2 hh
  go_enter Tryd.func13, Tryd.ntmps13
  go_wp2_with fail
  refine hwk.mono ?_
  rintro e w1 ⟨rfl, b1⟩
  have T1 := Lib.hid (T0.out.go b1)
  obtain ⟨w2, hw2, b2, pb⟩ := open1 w1 #[.pointer (some ⟨b, 0, none⟩)] 65
  have T2 := Lib.hid (T1.out.go b2)
  have hlt1 : w.heap.size < w1.heap.size := T1.out.p.lt
  clear hw0 c6 hwk b1 b2
  have hN := T2.out.t.node _ _ HRD.out
  obtain ⟨A3, k3, ev, _, _⟩ := Reads.of_own hN.row
  have c3 := hN.c3
  rw [ev] at c3
  have c5 : w2.cell? ⟨w1.heap.size, 0, none⟩ = some (.pointer (some ⟨b, 0, none⟩)) := by rw [pb.cell]; rfl
  dsimp only at c3
  clear hN ev
  rw [hl0] at c3
  have HPB := Lib.hid pb
  have c62 : w2.cell? ⟨w.heap.size, 6, none⟩ = some (.slice Af nf cf) := by rw [T2.out.p.cell]; rfl
  clear pb hrd
  go_wp2_with fail
  refine (hla T2.out.t (HV.out.low T2.out.b)).mono ?_
  rintro e w3 ⟨rfl, b3⟩
  have T3 := Lib.hid (T2.out.go b3)
  have PB3 := Lib.hid (HPB.out.below b3 HPB.out.lt)
  clear hla c62 c5 c3 b3
  go_wp2_with fail
  refine (drop_tree T3.out.t (HS.out.low T3.out.b) HR2.out HOK2.out nm HH.out).mono ?_
  rintro e w4 ⟨rfl, v', W4⟩
  have hno : ∀ k, w.heap.size ≤ k → ¬ ownT g S vs k := fun k hk e => by have := own_lt H.out e; omega
  have R4 := Lib.hid (W4.fr.blk T3.out.r (hno _ (by omega)))
  have PB4 := Lib.hid (W4.fr.blk PB3.out (hno _ (by omega)))
  have WT4 := Lib.hid ((Went.low H.out HS.out T3.out.b).trans W4)
  have hsz3 : w.heap.size + 1 < w3.heap.size := T3.out.r.lt
  have hw13 : w1.heap.size < w3.heap.size := PB3.out.lt
  have hno4 : Hid (∀ k, w.heap.size ≤ k → k < w3.heap.size → ¬ ownT g (S.upd (i1, i2) (dropR r2 nm)) (vsU vs (i1, i2) v') k) := Lib.hid (fun k hk hk2 e => by
    rcases W4.own _ e with e | e
    · exact hno k hk e
    · omega)
  clear W4 hno
  have k14 : w4.cell? ⟨b, 1, none⟩ = some (.int .i64 r.links) := (WT4.out.tree.node _ _ HRD'.out).c1
  have f14 : w4.frozen? ⟨b, 1, none⟩ = false := by
    obtain ⟨t, cs, hbb, _⟩ := WT4.out.sep.blk _ _ HRD'.out
    exact hbb.frozen 1
  have c54 : w4.cell? ⟨w1.heap.size, 0, none⟩ = some (.pointer (some ⟨b, 0, none⟩)) := by rw [PB4.out.cell]; rfl
  have hwl : IntKind.i64.wrap (r.links - 1) = r.links - 1 := by rw [IntKind.wrap_i64]; omega
  obtain ⟨W5, hW5, WB, FB⟩ := link_node WT4.out.tree WT4.out.sep HRD'.out (r.links - 1)
  have R5 := Lib.hid (FB.blk R4.out (by omega))
  have HWB := Lib.hid (WT4.out.trans WB)
  have hno5 : Hid (¬ ownT g ((S.upd (i1, i2) (dropR r2 nm)).upd (b, 0) { r with links := r.links - 1 }) (vsU (vsU vs (i1, i2) v') (b, 0) (vsU vs (i1, i2) v' (b, 0))) (w.heap.size + 1)) := Lib.hid (fun e => by
    rcases WB.own _ e with e | e
    · exact hno4.out _ (by omega) (by omega) e
    · have := R4.out.lt; omega)
  clear WB FB
  go_wp2_with fail
  refine (hf W5).mono ?_
  rintro e wz ⟨rfl, bz⟩
  clear hf k14 f14 c54 hW5
  have R9 := R5.out.below bz R5.out.lt
  obtain ⟨W, hst, hfr, hW, q0, q1, q2, q3, q4, q5, q6⟩ := st7 R9 (failR 0) none 0 0
  obtain ⟨d0, d1, d2, d3, d4, d5, d6, hfz⟩ := rep0_at R9
  dsimp only [failR] at hst q0 q1 q2 q3 q4 q5 q6
  have WL := HWB.out.trans (Went.low HWB.out.tree HWB.out.sep bz)
  have HF := Lib.hid (WL.far hfr (by omega) hno5.out)
  clear hfr hW bz R9 WL
  go_wp2_with fail
  refine bodyPost_ret (v := failV 0) (by simp [results, Tryd.results13, go_sem, q0, q1, q2, q3, q4, q5, q6, failV, repV, failR]; try rfl) rfl ?_
  exact ⟨_, rfl, HF.out⟩
end
end Go.Proofs.YtglglbbjacgbdaaDoor
