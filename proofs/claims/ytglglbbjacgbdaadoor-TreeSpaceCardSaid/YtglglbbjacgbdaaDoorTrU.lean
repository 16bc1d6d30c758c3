import Derived.Test.YtglglbbjacgbdaaDoorTrT
import Derived.Test.YtglglbbjacgbdaaDoorTrG
namespace Go.Proofs.YtglglbbjacgbdaaDoor
open Go.RowKit
set_option linter.unusedVariables false
set_option linter.unusedSimpArgs false
attribute [local go_sem] b_max2 b_min2 b_max b_min

theorem open1 (w : World) (cs : Array Value) (t : TypeId) : ∃ w0, w.alloc (.cells cs t) = w0 ∧ Below w.heap.size w w0 ∧ Blk w0 w.heap.size t cs := ⟨_, rfl, (Below.refl _ w).alloc (Nat.le_refl _) _, Blk.new w t _⟩
/-- what is known at each stage of a doer -/
structure At (w wk : World) (g : Nat) (S : TS) (vs : Id → Value) (ps : Array Value) : Prop where
  b : Below w.heap.size w wk
  r : Blk wk (w.heap.size + 1) 29 rep0
  p : Blk wk w.heap.size 47 ps
  t : IsT wk g S vs
theorem At.go {w wk w' : World} {g : Nat} {S : TS} {vs : Id → Value} {ps : Array Value} (h : At w wk g S vs ps) (hb : Below wk.heap.size wk w') : At w w' g S vs ps :=
  ⟨h.b.trans (hb.mono h.b.size), h.r.below hb h.r.lt, h.p.below hb h.p.lt, h.t.low hb⟩
theorem walkT_some {S : TS} {g : Nat} : ∀ (l : List ByteArray) (cur : Option Nat), (l ≠ [] ∨ ∃ b, cur = some b) → (walkT S g cur l).2 = 0 → ∃ b, (walkT S g cur l).1 = some b
  | [], cur, h, _ => by
    rcases h with h | h
    · exact absurd rfl h
    · exact h
  | s :: rest, cur, _, h => by
    unfold walkT at *
    split at h
    · cases h
    · rename_i id hl
      split at h
      · cases h
      · rename_i b hb
        exact walkT_some rest (some b) (.inr ⟨b, rfl⟩) h
structure KdT (S : TS) : Prop where
  kd : ∀ b r, S.nd (b, 0) = some r → r.kind = 1 ∨ r.kind = 2
  lk : ∀ id r, S.nd id = some r → 0 ≤ r.links
theorem link_node {w : World} {g : Nat} {S : TS} {vs : Id → Value} (h : IsT w g S vs) (hs : SepT w g S vs) {b : Nat} {r : NR} (hr : S.nd (b, 0) = some r) (x : Int) :
    ∃ W, w.setCell ⟨b, 1, none⟩ (.int .i64 x) = W ∧ Went w W g S vs (S.upd (b, 0) { r with links := x }) (vsU vs (b, 0) (vs (b, 0))) ∧ Fr (fun k => k = b) w W := by
  refine ⟨_, rfl, ?_, Fr.setCell _ _ _ _ rfl⟩
  obtain ⟨t, cs, hb, ht⟩ := hs.blk _ _ hr
  have hN := h.node _ _ hr
  have hf : Fr (fun k => k = b) w (w.setCell ⟨b, 1, none⟩ (.int .i64 x)) := Fr.setCell _ _ _ _ rfl
  have hb' := hb.set_ 1 (.int .i64 x)
  have hin : 1 < cs.size := by
    have := (hb.cell 1).symm.trans hN.c1
    exact (Array.getElem?_eq_some_iff.1 this).1
  have hc : ∀ o, o ≠ 1 → (w.setCell ⟨b, 1, none⟩ (.int .i64 x)).cell? ⟨b, o, none⟩ = w.cell? ⟨b, o, none⟩ := fun o ho => by
    rw [hb'.cell, hb.cell, Array.getElem?_setIfInBounds, if_neg (by omega)]
  have hrow := hN.row
  have hnb : (vs (b, 0)).ownBlock ≠ some b := own_blk_ne hrow hb (Ne.symm ht)
  have hN' : IsN (w.setCell ⟨b, 1, none⟩ (.int .i64 x)) (b, 0) { r with links := x } (vs (b, 0)) :=
    ⟨(hc 0 (by omega)).trans hN.c0, by rw [hb'.cell]; simp [hin], (hc 2 (by omega)).trans hN.c2, (hc 3 (by omega)).trans hN.c3, hf.own hrow (fun k hk e => hnb (by rw [hk, e])), ⟨_, _, hb'⟩⟩
  obtain ⟨k1, k2, k3, k4⟩ := h.upd hs hr hN' (hf.mono fun k hk _ => .inl hk) hb' ht (fun o ho => hc o (by dsimp only at ho; omega)) (.inl rfl)
  exact ⟨k1, k2, k3, k4⟩
def linkT (S : TS) (g D : Nat) (l1 l2 : List ByteArray) : TS × Int :=
  if (walkT S g none l1).2 ≠ 0 then (S, (walkT S g none l1).2) else match (walkT S g none l1).1 with
  | none => (S, 0)
  | some b => match S.nd (b, 0) with
    | none => (S, 0)
    | some r => if r.kind = 2 then (S, 18) else if 1000 ≤ r.links then (S, 11) else
      if (lastT S g l2).2.2 ≠ 0 then (S, (lastT S g l2).2.2) else match (lastT S g l2).1 with
      | none => (S, 0)
      | some id => match S.nd id with
        | none => (S, 0)
        | some r2 => if hasN r2.list (lastT S g l2).2.1 = true then (S, 17) else
          if fitsT S g D r2 ((lastT S g l2).2.1.size + 6) 0 ≠ 0 then (S, fitsT S g D r2 ((lastT S g l2).2.1.size + 6) 0)
          else ((S.upd (b, 0) { r with links := r.links + 1 }).upd id (putR r2 (lastT S g l2).2.1 b), 0)
section
variable {w : World} {g : Nat} {S : TS} {vs : Id → Value} {rk : Nat → Nat} {D : Nat}
set_option maxRecDepth 100000 in
set_option maxHeartbeats 4000000 in
theorem link_any (h : IsT w g S vs) (hs : SepT w g S vs) (ho : OkT S g) (hk : RkT S g rk D) (hkd : KdT S) (c : CallV) (vf vt : Value) (l1 l2 : List ByteArray) (hl1 : l1.length ≤ 100000) (hl2 : l2.length ≤ 100000) (hne1 : l1 ≠ []) (hne : l2 ≠ []) (hsz1 : ∀ s ∈ l1, s.size ≤ 1000000) (hsz : ∀ s ∈ l2, s.size ≤ 100) (hv1 : NmV w vf l1) (hv : NmV w vt l2) :
    Calls Tryd.prog 12 #[.pointer (some ⟨g, 0, none⟩), planV c vf vt] w fun e w' => ∃ vs', e = .returned (failV (linkT S g D l1 l2).2) ∧ Went w w' g S vs (linkT S g D l1 l2).1 vs' := by
  obtain ⟨Af, nf, cf, rfl, hnf, hcf, hrf⟩ := id hv1
  obtain ⟨At_, nt, ct, rfl, hnt, hct, hrt⟩ := id hv
  obtain ⟨w0, hw0, b0, p0, r0⟩ := open_w w (planA c Af nf cf At_ nt ct) rep0
  have T0 : Hid (At w w0 g S vs (planA c Af nf cf At_ nt ct)) := Lib.hid ⟨b0, r0, p0, h.low b0⟩
  have H := Lib.hid h; have HS := Lib.hid hs
  unfold planV
  obtain ⟨A0, n0, k0, e0, hn0, hc0, hr0⟩ := hv1.low b0
  cases e0
  have hwk := walk_any T0.out.t ho Af nf cf l1 hn0 (by omega) hsz1 hr0
  have hla := fun {W : World} (hT : IsT W g S vs) (hN : NmV W (.slice At_ nt ct) l2) => last_any hT ho _ l2 hl2 hne (fun s hs => by have := hsz s hs; omega) hN
  have HV := Lib.hid hv
  have c6 : w0.cell? ⟨w.heap.size, 6, none⟩ = some (.slice Af nf cf) := by rw [p0.cell]; rfl
  unfold planA rep0 at hw0
  clear hr0 hrf hrt b0 p0 r0 h hs hv1 hv
  by_cases h1 : (walkT S g none l1).2 = 0
  case neg =>
    have hm : linkT S g D l1 l2 = (S, (walkT S g none l1).2) := by unfold linkT; rw [if_pos h1]
    rw [hm]
    generalize (walkT S g none l1).2 = er at *
    obtain ⟨pt, hpt⟩ : ∃ pt, ptrC (walkT S g none l1).1 = .pointer pt := ⟨_, rfl⟩
    rw [hpt] at hwk
    have hf := fun W => fails_any er W
    unfold failV repV failR at hf
    clear hm hla hpt
    go_enter Tryd.func12, Tryd.ntmps12
    go_wp2_with fail
    refine hwk.mono ?_
    rintro e w1 ⟨rfl, b1⟩
    have T1 := Lib.hid (T0.out.go b1)
    obtain ⟨w2, hw2, b2, pb⟩ := open1 w1 #[.pointer pt] 65
    have T2 := Lib.hid (T1.out.go b2)
    have hlt1 : w.heap.size < w1.heap.size := T1.out.p.lt
    clear hw0 c6 hwk b1 b2
    clear pb
    go_wp2_with fail
    refine (hf w2).mono ?_
    rintro e wz ⟨rfl, bz⟩
    clear hf
    have TZ := Lib.hid (T2.out.go bz)
    obtain ⟨W, hst, hfr, hW, q0, q1, q2, q3, q4, q5, q6⟩ := st7 TZ.out.r (failR er) none 0 0
    obtain ⟨d0, d1, d2, d3, d4, d5, d6, hfz⟩ := rep0_at TZ.out.r
    dsimp only [failR] at hst q0 q1 q2 q3 q4 q5 q6
    have HF := Lib.hid hfr
    clear hfr hW bz
    go_wp2_with fail
    refine bodyPost_ret (v := failV er) (by simp [results, Tryd.results12, go_sem, q0, q1, q2, q3, q4, q5, q6, failV, repV, failR]; try rfl) rfl ?_
    exact ⟨vs, rfl, Went.low H.out HS.out (HF.out.below TZ.out.b (fun k e => by omega))⟩
  obtain ⟨b, hb⟩ : ∃ b, (walkT S g none l1).1 = some b := walkT_some l1 none (.inl hne1) h1
  obtain ⟨r, hrd⟩ := walkT_ok ho l1 none (fun b e => by cases e) b hb
  rw [hb, h1] at hwk
  have hptr : ptrC (some b) = .pointer (some ⟨b, 0, none⟩) := rfl
  rw [hptr] at hwk
  by_cases h2 : r.kind = 2
  case pos =>
    have hm : linkT S g D l1 l2 = (S, 18) := by unfold linkT; rw [if_neg (fun e => e h1), hb]; dsimp only; rw [hrd]; dsimp only; rw [if_pos h2]
    rw [hm]
    have hf := fun W => fails_any 18 W
    unfold failV repV failR at hf
    clear hm hla
    go_enter Tryd.func12, Tryd.ntmps12
    go_wp2_with fail
    refine hwk.mono ?_
    rintro e w1 ⟨rfl, b1⟩
    have T1 := Lib.hid (T0.out.go b1)
    obtain ⟨w2, hw2, b2, pb⟩ := open1 w1 #[.pointer (some ⟨b, 0, none⟩)] 65
    have T2 := Lib.hid (T1.out.go b2)
    have hlt1 : w.heap.size < w1.heap.size := T1.out.p.lt
    clear hw0 c6 hwk b1 b2
    have hN := T2.out.t.node _ _ hrd
    have k0 := hN.c0
    have k1 := hN.c1
    dsimp only at k0 k1
    have c5 : w2.cell? ⟨w1.heap.size, 0, none⟩ = some (.pointer (some ⟨b, 0, none⟩)) := by rw [pb.cell]; rfl
    clear hN
    rw [h2] at k0
    clear pb
    go_wp2_with fail
    refine (hf w2).mono ?_
    rintro e wz ⟨rfl, bz⟩
    clear hf
    have TZ := Lib.hid (T2.out.go bz)
    obtain ⟨W, hst, hfr, hW, q0, q1, q2, q3, q4, q5, q6⟩ := st7 TZ.out.r (failR 18) none 0 0
    obtain ⟨d0, d1, d2, d3, d4, d5, d6, hfz⟩ := rep0_at TZ.out.r
    dsimp only [failR] at hst q0 q1 q2 q3 q4 q5 q6
    have HF := Lib.hid hfr
    clear hfr hW bz
    go_wp2_with fail
    refine bodyPost_ret (v := failV 18) (by simp [results, Tryd.results12, go_sem, q0, q1, q2, q3, q4, q5, q6, failV, repV, failR]; try rfl) rfl ?_
    exact ⟨vs, rfl, Went.low H.out HS.out (HF.out.below TZ.out.b (fun k e => by omega))⟩
  have h2f : (r.kind == 2) = false := by simpa using h2
  have hlk0 := hkd.lk _ _ hrd
  by_cases h3 : 1000 ≤ r.links
  case pos =>
    have hm : linkT S g D l1 l2 = (S, 11) := by unfold linkT; rw [if_neg (fun e => e h1), hb]; dsimp only; rw [hrd]; dsimp only; rw [if_neg h2, if_pos h3]
    rw [hm]
    have hf := fun W => fails_any 11 W
    unfold failV repV failR at hf
    clear hm hla
    go_enter Tryd.func12, Tryd.ntmps12
    go_wp2_with fail
    refine hwk.mono ?_
    rintro e w1 ⟨rfl, b1⟩
    have T1 := Lib.hid (T0.out.go b1)
    obtain ⟨w2, hw2, b2, pb⟩ := open1 w1 #[.pointer (some ⟨b, 0, none⟩)] 65
    have T2 := Lib.hid (T1.out.go b2)
    have hlt1 : w.heap.size < w1.heap.size := T1.out.p.lt
    clear hw0 c6 hwk b1 b2
    have hN := T2.out.t.node _ _ hrd
    have k0 := hN.c0
    have k1 := hN.c1
    dsimp only at k0 k1
    have c5 : w2.cell? ⟨w1.heap.size, 0, none⟩ = some (.pointer (some ⟨b, 0, none⟩)) := by rw [pb.cell]; rfl
    clear hN
    clear pb
    generalize r.links = lk at *
    go_wp2_with fail
    refine (hf w2).mono ?_
    rintro e wz ⟨rfl, bz⟩
    clear hf
    have TZ := Lib.hid (T2.out.go bz)
    obtain ⟨W, hst, hfr, hW, q0, q1, q2, q3, q4, q5, q6⟩ := st7 TZ.out.r (failR 11) none 0 0
    obtain ⟨d0, d1, d2, d3, d4, d5, d6, hfz⟩ := rep0_at TZ.out.r
    dsimp only [failR] at hst q0 q1 q2 q3 q4 q5 q6
    have HF := Lib.hid hfr
    clear hfr hW bz
    go_wp2_with fail
    refine bodyPost_ret (v := failV 11) (by simp [results, Tryd.results12, go_sem, q0, q1, q2, q3, q4, q5, q6, failV, repV, failR]; try rfl) rfl ?_
    exact ⟨vs, rfl, Went.low H.out HS.out (HF.out.below TZ.out.b (fun k e => by omega))⟩
  have h3f : (lk0 : Int) → True := fun _ => trivial
  have h3n : ¬ (1000 ≤ r.links) := h3
  clear h3f
  by_cases h4 : (lastT S g l2).2.2 = 0
  case neg =>
    have hm : linkT S g D l1 l2 = (S, (lastT S g l2).2.2) := by unfold linkT; rw [if_neg (fun e => e h1), hb]; dsimp only; rw [hrd]; dsimp only; rw [if_neg h2, if_neg h3, if_pos h4]
    rw [hm]
    generalize (lastT S g l2).2.2 = er at *
    generalize (lastT S g l2).2.1 = nm at *
    generalize ptrI (lastT S g l2).1 = pt at *
    have hf := fun W => fails_any er W
    unfold failV repV failR at hf
    clear hm
    go_enter Tryd.func12, Tryd.ntmps12
    go_wp2_with fail
    refine hwk.mono ?_
    rintro e w1 ⟨rfl, b1⟩
    have T1 := Lib.hid (T0.out.go b1)
    obtain ⟨w2, hw2, b2, pb⟩ := open1 w1 #[.pointer (some ⟨b, 0, none⟩)] 65
    have T2 := Lib.hid (T1.out.go b2)
    have hlt1 : w.heap.size < w1.heap.size := T1.out.p.lt
    clear hw0 c6 hwk b1 b2
    have hN := T2.out.t.node _ _ hrd
    have k0 := hN.c0
    have k1 := hN.c1
    dsimp only at k0 k1
    have c5 : w2.cell? ⟨w1.heap.size, 0, none⟩ = some (.pointer (some ⟨b, 0, none⟩)) := by rw [pb.cell]; rfl
    clear hN
    have HPB := Lib.hid pb
    have c7 : w2.cell? ⟨w.heap.size, 7, none⟩ = some (.slice At_ nt ct) := by rw [T2.out.p.cell]; rfl
    clear pb
    generalize hlk : r.links = lk at *
    go_wp2_with fail
    refine (hla T2.out.t (HV.out.low T2.out.b)).mono ?_
    rintro e w3 ⟨rfl, b3⟩
    have T3 := Lib.hid (T2.out.go b3)
    have PB3 := Lib.hid (HPB.out.below b3 HPB.out.lt)
    clear hla c7 c5 k0 k1 b3
    go_wp2_with fail
    refine (hf w3).mono ?_
    rintro e wz ⟨rfl, bz⟩
    clear hf
    have TZ := Lib.hid (T3.out.go bz)
    obtain ⟨W, hst, hfr, hW, q0, q1, q2, q3, q4, q5, q6⟩ := st7 TZ.out.r (failR er) none 0 0
    obtain ⟨d0, d1, d2, d3, d4, d5, d6, hfz⟩ := rep0_at TZ.out.r
    dsimp only [failR] at hst q0 q1 q2 q3 q4 q5 q6
    have HF := Lib.hid hfr
    clear hfr hW bz
    go_wp2_with fail
    refine bodyPost_ret (v := failV er) (by simp [results, Tryd.results12, go_sem, q0, q1, q2, q3, q4, q5, q6, failV, repV, failR]; try rfl) rfl ?_
    exact ⟨vs, rfl, Went.low H.out HS.out (HF.out.below TZ.out.b (fun k e => by omega))⟩
  obtain ⟨id, r2, hid, hrd2, hkd2, hnm⟩ := lastT_some ho h4
  have hmem : (lastT S g l2).2.1 ∈ l2 := by
    have := List.length_pos_iff.2 hne
    rw [hnm, List.getD_eq_getElem?_getD, List.getElem?_eq_getElem (by omega)]; exact List.getElem_mem _
  have hnsz := hsz _ hmem
  have hok := ho.okn _ r2 hrd2
  have hpl : ∀ W, IsT W g S vs → Calls Tryd.prog 24 #[.pointer (some ⟨id.1, id.2, none⟩), .string (lastT S g l2).2.1] W fun e w' => e = .returned (.tuple #[.int .i64 (plc r2.list (lastT S g l2).2.1), .bool (hasN r2.list (lastT S g l2).2.1)]) ∧ Below W.heap.size W w' := fun W hT => place_any (hT.node id r2 hrd2) hok (lastT S g l2).2.1
  have hfi : ∀ W, IsT W g S vs → Calls Tryd.prog 25 #[.pointer (some ⟨g, 0, none⟩), .pointer (some ⟨id.1, id.2, none⟩), .int .i64 ((lastT S g l2).2.1.size + 6), .int .i64 0] W fun e w' => e = .returned (.int .i64 (fitsT S g D r2 ((lastT S g l2).2.1.size + 6) 0)) ∧ Below W.heap.size W w' := fun W hT => fits_any hT ho hk hrd2 ((lastT S g l2).2.1.size + 6) 0 (by omega) (by omega)
  have hw6 : IntKind.i64.wrap (((lastT S g l2).2.1.size : Int) + 6) = ((lastT S g l2).2.1.size : Int) + 6 := by rw [IntKind.wrap_i64]; omega
  rw [h4, hid] at hla
  unfold ptrI at hla
  dsimp only [Option.map_some] at hla
  by_cases h5 : hasN r2.list (lastT S g l2).2.1 = true
  case pos =>
    have hm : linkT S g D l1 l2 = (S, 17) := by unfold linkT; rw [if_neg (fun e => e h1), hb]; dsimp only; rw [hrd]; dsimp only; rw [if_neg h2, if_neg h3, if_neg (fun e => e h4), hid]; dsimp only; rw [hrd2]; dsimp only; rw [if_pos h5]
    rw [hm]
    rw [h5] at hpl
    generalize (lastT S g l2).2.1 = nm at *
    generalize plc r2.list nm = pc at *
    have hf := fun W => fails_any 17 W
    unfold failV repV failR at hf
    obtain ⟨i1, i2⟩ := id
    dsimp only at *
    clear hm hfi hid hmem hnm hw6
    go_enter Tryd.func12, Tryd.ntmps12
    go_wp2_with fail
    refine hwk.mono ?_
    rintro e w1 ⟨rfl, b1⟩
    have T1 := Lib.hid (T0.out.go b1)
    obtain ⟨w2, hw2, b2, pb⟩ := open1 w1 #[.pointer (some ⟨b, 0, none⟩)] 65
    have T2 := Lib.hid (T1.out.go b2)
    have hlt1 : w.heap.size < w1.heap.size := T1.out.p.lt
    clear hw0 c6 hwk b1 b2
    have hN := T2.out.t.node _ _ hrd
    have k0 := hN.c0
    have k1 := hN.c1
    dsimp only at k0 k1
    have c5 : w2.cell? ⟨w1.heap.size, 0, none⟩ = some (.pointer (some ⟨b, 0, none⟩)) := by rw [pb.cell]; rfl
    clear hN
    have HPB := Lib.hid pb
    have c7 : w2.cell? ⟨w.heap.size, 7, none⟩ = some (.slice At_ nt ct) := by rw [T2.out.p.cell]; rfl
    clear pb
    generalize hlk : r.links = lk at *
    go_wp2_with fail
    refine (hla T2.out.t (HV.out.low T2.out.b)).mono ?_
    rintro e w3 ⟨rfl, b3⟩
    have T3 := Lib.hid (T2.out.go b3)
    have PB3 := Lib.hid (HPB.out.below b3 HPB.out.lt)
    clear hla c7 c5 k0 k1 b3
    go_wp2_with fail
    refine (hpl w3 T3.out.t).mono ?_
    rintro e w4 ⟨rfl, b4⟩
    have T4 := Lib.hid (T3.out.go b4)
    have PB4 := Lib.hid (PB3.out.below b4 PB3.out.lt)
    clear hpl b4
    go_wp2_with fail
    refine (hf w4).mono ?_
    rintro e wz ⟨rfl, bz⟩
    clear hf
    have TZ := Lib.hid (T4.out.go bz)
    obtain ⟨W, hst, hfr, hW, q0, q1, q2, q3, q4, q5, q6⟩ := st7 TZ.out.r (failR 17) none 0 0
    obtain ⟨d0, d1, d2, d3, d4, d5, d6, hfz⟩ := rep0_at TZ.out.r
    dsimp only [failR] at hst q0 q1 q2 q3 q4 q5 q6
    have HF := Lib.hid hfr
    clear hfr hW bz
    go_wp2_with fail
    refine bodyPost_ret (v := failV 17) (by simp [results, Tryd.results12, go_sem, q0, q1, q2, q3, q4, q5, q6, failV, repV, failR]; try rfl) rfl ?_
    exact ⟨vs, rfl, Went.low H.out HS.out (HF.out.below TZ.out.b (fun k e => by omega))⟩
  have h5f : hasN r2.list (lastT S g l2).2.1 = false := by simpa using h5
  rw [h5f] at hpl
  by_cases h6 : fitsT S g D r2 ((lastT S g l2).2.1.size + 6) 0 = 0
  case neg =>
    have hm : linkT S g D l1 l2 = (S, fitsT S g D r2 ((lastT S g l2).2.1.size + 6) 0) := by unfold linkT; rw [if_neg (fun e => e h1), hb]; dsimp only; rw [hrd]; dsimp only; rw [if_neg h2, if_neg h3, if_neg (fun e => e h4), hid]; dsimp only; rw [hrd2]; dsimp only; rw [if_neg h5, if_pos h6]
    rw [hm]
    generalize fitsT S g D r2 ((lastT S g l2).2.1.size + 6) 0 = er at *
    generalize (lastT S g l2).2.1 = nm at *
    generalize plc r2.list nm = pc at hpl
    have hf := fun W => fails_any er W
    unfold failV repV failR at hf
    obtain ⟨i1, i2⟩ := id
    dsimp only at *
    clear hm hid hmem hnm
    go_enter Tryd.func12, Tryd.ntmps12
    go_wp2_with fail
    refine hwk.mono ?_
    rintro e w1 ⟨rfl, b1⟩
    have T1 := Lib.hid (T0.out.go b1)
    obtain ⟨w2, hw2, b2, pb⟩ := open1 w1 #[.pointer (some ⟨b, 0, none⟩)] 65
    have T2 := Lib.hid (T1.out.go b2)
    have hlt1 : w.heap.size < w1.heap.size := T1.out.p.lt
    clear hw0 c6 hwk b1 b2
    have hN := T2.out.t.node _ _ hrd
    have k0 := hN.c0
    have k1 := hN.c1
    dsimp only at k0 k1
    have c5 : w2.cell? ⟨w1.heap.size, 0, none⟩ = some (.pointer (some ⟨b, 0, none⟩)) := by rw [pb.cell]; rfl
    clear hN
    have HPB := Lib.hid pb
    have c7 : w2.cell? ⟨w.heap.size, 7, none⟩ = some (.slice At_ nt ct) := by rw [T2.out.p.cell]; rfl
    clear pb
    generalize hlk : r.links = lk at *
    go_wp2_with fail
    refine (hla T2.out.t (HV.out.low T2.out.b)).mono ?_
    rintro e w3 ⟨rfl, b3⟩
    have T3 := Lib.hid (T2.out.go b3)
    have PB3 := Lib.hid (HPB.out.below b3 HPB.out.lt)
    clear hla c7 c5 k0 k1 b3
    go_wp2_with fail
    refine (hpl w3 T3.out.t).mono ?_
    rintro e w4 ⟨rfl, b4⟩
    have T4 := Lib.hid (T3.out.go b4)
    have PB4 := Lib.hid (PB3.out.below b4 PB3.out.lt)
    clear hpl b4
    go_wp2_with fail
    refine (hfi w4 T4.out.t).mono ?_
    rintro e w5 ⟨rfl, b5⟩
    have T5 := Lib.hid (T4.out.go b5)
    have PB5 := Lib.hid (PB4.out.below b5 PB4.out.lt)
    clear hfi b5
    go_wp2_with fail
    refine (hf w5).mono ?_
    rintro e wz ⟨rfl, bz⟩
    clear hf
    have TZ := Lib.hid (T5.out.go bz)
    obtain ⟨W, hst, hfr, hW, q0, q1, q2, q3, q4, q5, q6⟩ := st7 TZ.out.r (failR er) none 0 0
    obtain ⟨d0, d1, d2, d3, d4, d5, d6, hfz⟩ := rep0_at TZ.out.r
    dsimp only [failR] at hst q0 q1 q2 q3 q4 q5 q6
    have HF := Lib.hid hfr
    clear hfr hW bz
    go_wp2_with fail
    refine bodyPost_ret (v := failV er) (by simp [results, Tryd.results12, go_sem, q0, q1, q2, q3, q4, q5, q6, failV, repV, failR]; try rfl) rfl ?_
    exact ⟨vs, rfl, Went.low H.out HS.out (HF.out.below TZ.out.b (fun k e => by omega))⟩
  have hm : linkT S g D l1 l2 = ((S.upd (b, 0) { r with links := r.links + 1 }).upd id (putR r2 (lastT S g l2).2.1 b), 0) := by unfold linkT; rw [if_neg (fun e => e h1), hb]; dsimp only; rw [hrd]; dsimp only; rw [if_neg h2, if_neg h3, if_neg (fun e => e h4), hid]; dsimp only; rw [hrd2]; dsimp only; rw [if_neg h5, if_neg (fun e => e h6)]
  rw [hm]
  have hlen := fits_len hkd2 (by omega) h6
  rw [h6] at hfi
  have hnid : ¬ id = (b, 0) := fun e => by
    rw [e, hrd] at hrd2
    cases hrd2
    rcases hkd.kd _ _ hrd with e | e
    · exact hkd2 e
    · exact h2 e
  have hrd2' : (S.upd (b, 0) { r with links := r.links + 1 }).nd id = some r2 := by rw [← hrd2]; exact if_neg hnid
  generalize (lastT S g l2).2.1 = nm at *
  generalize plc r2.list nm = pc at hpl
  have hf := fun W => fails_any 0 W
  unfold failV repV failR at hf
  obtain ⟨i1, i2⟩ := id
  dsimp only at *
  have hblt : b < w.heap.size := (H.out.node _ _ hrd).lt
  clear hm hid hmem hnm
  go_enter Tryd.func12, Tryd.ntmps12
  go_wp2_with fail
  refine hwk.mono ?_
  rintro e w1 ⟨rfl, b1⟩
  have T1 := Lib.hid (T0.out.go b1)
  obtain ⟨w2, hw2, b2, pb⟩ := open1 w1 #[.pointer (some ⟨b, 0, none⟩)] 65
  have T2 := Lib.hid (T1.out.go b2)
  have hlt1 : w.heap.size < w1.heap.size := T1.out.p.lt
  clear hw0 c6 hwk b1 b2
  have hN := T2.out.t.node _ _ hrd
  have k0 := hN.c0
  have k1 := hN.c1
  dsimp only at k0 k1
  have c5 : w2.cell? ⟨w1.heap.size, 0, none⟩ = some (.pointer (some ⟨b, 0, none⟩)) := by rw [pb.cell]; rfl
  clear hN
  have HPB := Lib.hid pb
  have c7 : w2.cell? ⟨w.heap.size, 7, none⟩ = some (.slice At_ nt ct) := by rw [T2.out.p.cell]; rfl
  clear pb
  go_wp2_with fail
  refine (hla T2.out.t (HV.out.low T2.out.b)).mono ?_
  rintro e w3 ⟨rfl, b3⟩
  have T3 := Lib.hid (T2.out.go b3)
  have PB3 := Lib.hid (HPB.out.below b3 HPB.out.lt)
  clear hla c7 c5 k0 k1 b3
  go_wp2_with fail
  refine (hpl w3 T3.out.t).mono ?_
  rintro e w4 ⟨rfl, b4⟩
  have T4 := Lib.hid (T3.out.go b4)
  have PB4 := Lib.hid (PB3.out.below b4 PB3.out.lt)
  clear hpl b4
  go_wp2_with fail
  refine (hfi w4 T4.out.t).mono ?_
  rintro e w5 ⟨rfl, b5⟩
  have T5 := Lib.hid (T4.out.go b5)
  have PB5 := Lib.hid (PB4.out.below b5 PB4.out.lt)
  clear hfi b5
  have k15 : w5.cell? ⟨b, 1, none⟩ = some (.int .i64 r.links) := (T5.out.t.node _ _ hrd).c1
  have f15 : w5.frozen? ⟨b, 1, none⟩ = false := by
    obtain ⟨t, cs, hbb, _⟩ := (HS.out.low T5.out.b).blk _ _ hrd
    exact hbb.frozen 1
  have c55 : w5.cell? ⟨w1.heap.size, 0, none⟩ = some (.pointer (some ⟨b, 0, none⟩)) := by rw [PB5.out.cell]; rfl
  have hwl : IntKind.i64.wrap (r.links + 1) = r.links + 1 := by rw [IntKind.wrap_i64]; omega
  obtain ⟨W5, hW5, WB, FB⟩ := link_node T5.out.t (HS.out.low T5.out.b) hrd (r.links + 1)
  have c56 : W5.cell? ⟨w1.heap.size, 0, none⟩ = some (.pointer (some ⟨b, 0, none⟩)) := by rw [(FB.blk PB5.out (by omega)).cell]; rfl
  have HWB := Lib.hid WB
  have R5 := Lib.hid (FB.blk T5.out.r (by omega))
  clear WB FB
  go_wp2_with fail
  refine (put_tree HWB.out.tree HWB.out.sep hrd2' hok hlen nm b).mono ?_
  rintro e w6 ⟨rfl, v', W6⟩
  have hlt5 := T5.out.r.lt
  have hno5 : ¬ ownT g (S.upd (b, 0) { r with links := r.links + 1 }) (vsU vs (b, 0) (vs (b, 0))) (w.heap.size + 1) := fun e => by
    rcases HWB.out.own _ e with e | e
    · have := own_lt H.out e; omega
    · omega
  have R6 := W6.fr.blk R5.out hno5
  have hno6 : ¬ ownT g ((S.upd (b, 0) { r with links := r.links + 1 }).upd (i1, i2) (putR r2 nm b)) (vsU (vsU vs (b, 0) (vs (b, 0))) (i1, i2) v') (w.heap.size + 1) := fun e => by
    rcases W6.own _ e with e | e
    · exact hno5 e
    · have := HWB.out.fr.size; omega
  have WT := Lib.hid ((Went.low H.out HS.out T5.out.b).trans (HWB.out.trans W6))
  have HR6 := Lib.hid R6; have HNO := Lib.hid hno6
  clear W6 R6 hno5 hno6 hrd2' c55 c56 k15 f15 hW5
  go_wp2_with fail
  refine (hf w6).mono ?_
  rintro e wz ⟨rfl, bz⟩
  clear hf
  have R9 := HR6.out.below bz HR6.out.lt
  obtain ⟨W, hst, hfr, hW, q0, q1, q2, q3, q4, q5, q6⟩ := st7 R9 (failR 0) none 0 0
  obtain ⟨d0, d1, d2, d3, d4, d5, d6, hfz⟩ := rep0_at R9
  dsimp only [failR] at hst q0 q1 q2 q3 q4 q5 q6
  have WL := WT.out.trans (Went.low WT.out.tree WT.out.sep bz)
  have HF := Lib.hid (WL.far hfr (by omega) HNO.out)
  clear hfr hW bz R9 WL
  go_wp2_with fail
  refine bodyPost_ret (v := failV 0) (by simp [results, Tryd.results12, go_sem, q0, q1, q2, q3, q4, q5, q6, failV, repV, failR]; try rfl) rfl ?_
  exact ⟨_, rfl, HF.out⟩
end
end Go.Proofs.YtglglbbjacgbdaaDoor
