import Derived.Test.YtglglbbjacgbdaaDoorTrS
namespace Go.Proofs.YtglglbbjacgbdaaDoor
open Go.RowKit
set_option linter.unusedVariables false
set_option linter.unusedSimpArgs false
attribute [local go_sem] b_max2 b_min2 b_max b_min

/-! ### how each of a plan's doers begins: the plan and the reply in cells -/
def planA (c : CallV) (Af : Option Addr) (nf cf : Nat) (At : Option Addr) (nt ct : Nat) : Array Value := #[.int .i64 c.op, .string c.path, .string c.dest, .int .i64 c.at_, .int .i64 c.n, .string c.data, .slice Af nf cf, .slice At nt ct]
def rep0 : Array Value := #[.int .i64 0, .string ⟨#[]⟩, .slice none 0 0, .int .i64 0, .int .i64 0, .int .i64 0, .int .i64 0]
theorem open_w (w : World) (ps rs : Array Value) : ∃ w0, (w.alloc (.cells ps 47)).alloc (.cells rs 29) = w0 ∧ Below w.heap.size w w0 ∧ Blk w0 w.heap.size 47 ps ∧ Blk w0 (w.heap.size + 1) 29 rs := by
  refine ⟨_, rfl, ((Below.refl _ w).alloc (Nat.le_refl _) _).alloc (by simp) _, (Blk.new w 47 _).alloc _, ?_⟩
  have := Blk.new (w.alloc (.cells ps 47)) 29 rs
  rwa [sz_alloc] at this
theorem rep0_at {w : World} {rb : Nat} (h : Blk w rb 29 rep0) :
    w.cell? ⟨rb, 0, none⟩ = some (.int .i64 0) ∧ w.cell? ⟨rb, 1, none⟩ = some (.string ⟨#[]⟩) ∧ w.cell? ⟨rb, 2, none⟩ = some (.slice none 0 0) ∧ w.cell? ⟨rb, 3, none⟩ = some (.int .i64 0) ∧ w.cell? ⟨rb, 4, none⟩ = some (.int .i64 0) ∧
      w.cell? ⟨rb, 5, none⟩ = some (.int .i64 0) ∧ w.cell? ⟨rb, 6, none⟩ = some (.int .i64 0) ∧ ∀ j, w.frozen? ⟨rb, j, none⟩ = false := by
  refine ⟨?_, ?_, ?_, ?_, ?_, ?_, ?_, fun j => h.frozen j⟩ <;> (rw [h.cell]; rfl)
theorem st7 {w : World} {rb : Nat} (h : Blk w rb 29 rep0) (r : Rep) (A : Option Addr) (n c : Nat) :
    ∃ W, (((((((w.setCell ⟨rb, 0, none⟩ (.int .i64 r.err)).setCell ⟨rb, 1, none⟩ (.string r.data)).setCell ⟨rb, 2, none⟩ (.slice A n c)).setCell ⟨rb, 3, none⟩ (.int .i64 r.kind)).setCell ⟨rb, 4, none⟩ (.int .i64 r.links)).setCell ⟨rb, 5, none⟩ (.int .i64 r.size)).setCell ⟨rb, 6, none⟩ (.int .i64 r.free)) = W ∧
      Fr (fun k => k = rb) w W ∧ Blk W rb 29 (repC r (.slice A n c)).toArray ∧
      W.cell? ⟨rb, 0, none⟩ = some (.int .i64 r.err) ∧ W.cell? ⟨rb, 1, none⟩ = some (.string r.data) ∧ W.cell? ⟨rb, 2, none⟩ = some (.slice A n c) ∧ W.cell? ⟨rb, 3, none⟩ = some (.int .i64 r.kind) ∧
      W.cell? ⟨rb, 4, none⟩ = some (.int .i64 r.links) ∧ W.cell? ⟨rb, 5, none⟩ = some (.int .i64 r.size) ∧ W.cell? ⟨rb, 6, none⟩ = some (.int .i64 r.free) := by
  have hb : Blk (((((((w.setCell ⟨rb, 0, none⟩ (.int .i64 r.err)).setCell ⟨rb, 1, none⟩ (.string r.data)).setCell ⟨rb, 2, none⟩ (.slice A n c)).setCell ⟨rb, 3, none⟩ (.int .i64 r.kind)).setCell ⟨rb, 4, none⟩ (.int .i64 r.links)).setCell ⟨rb, 5, none⟩ (.int .i64 r.size)).setCell ⟨rb, 6, none⟩ (.int .i64 r.free)) rb 29 (repC r (.slice A n c)).toArray := ((((((h.set_ 0 _).set_ 1 _).set_ 2 _).set_ 3 _).set_ 4 _).set_ 5 _).set_ 6 _
  refine ⟨_, rfl, ?_, hb, ?_, ?_, ?_, ?_, ?_, ?_, ?_⟩
  · have s : ∀ (W : World) j u, Fr (fun k => k = rb) W (W.setCell ⟨rb, j, none⟩ u) := fun W j u => Fr.setCell W rb j u rfl
    exact ((((((s _ _ _).trans (s _ _ _)).trans (s _ _ _)).trans (s _ _ _)).trans (s _ _ _)).trans (s _ _ _)).trans (s _ _ _)
  all_goals (rw [hb.cell]; rfl)
theorem own_lt {w : World} {g : Nat} {S : TS} {vs : Id → Value} (h : IsT w g S vs) {k : Nat} (hk : ownT g S vs k) : k < w.heap.size := by
  rcases hk with rfl | ⟨id, r, e, rfl | hk⟩
  · exact World.block_lt_of_cell? _ _ h.rm
  · exact (h.node id r e).lt
  · exact ((h.node id r e).row.lt k hk).2
theorem Went.far {w w' w'' : World} {g : Nat} {S S' : TS} {vs vs' : Id → Value} {rb : Nat} (h : Went w w' g S vs S' vs') (hF : Fr (fun k => k = rb) w' w'') (hrb : w.heap.size ≤ rb) (hno : ¬ ownT g S' vs' rb) : Went w w'' g S vs S' vs' := by
  have hn : ∀ id r, S'.nd id = some r → ¬ id.1 = rb ∧ (∀ k, (vs' id).ownBlock = some k → ¬ k = rb) := fun id r e => ⟨fun x => hno (.inr ⟨id, r, e, .inl x.symm⟩), fun k hk x => hno (.inr ⟨id, r, e, .inr (x ▸ hk)⟩)⟩
  have hg : ¬ g = rb := fun x => hno (.inl x.symm)
  refine ⟨h.tree.fr hF hg hn, ⟨fun id r e => ?_, h.sep.ids, h.sep.rows, ?_⟩, ?_, h.own⟩
  · obtain ⟨t, cs, hb, h9⟩ := h.sep.blk id r e
    exact ⟨t, cs, hF.blk hb (hn id r e).1, h9⟩
  · obtain ⟨t, cs, hb, h9⟩ := h.sep.groot
    exact ⟨t, cs, hF.blk hb hg, h9⟩
  · exact ⟨hF.os.trans h.fr.os, hF.tape.trans h.fr.tape, hF.output.trans h.fr.output, Nat.le_trans h.fr.size hF.size, fun k hk hk2 => (hF.block k (Nat.lt_of_lt_of_le hk h.fr.size) (by omega)).trans (h.fr.block k hk hk2)⟩
section
variable {w : World} {g : Nat} {S : TS} {vs : Id → Value} {rk : Nat → Nat} {D : Nat}
set_option maxRecDepth 100000 in
set_option maxHeartbeats 2000000 in
theorem makes_any (h : IsT w g S vs) (hs : SepT w g S vs) (ho : OkT S g) (hk : RkT S g rk D) (c : CallV) (vf vt : Value) (l : List ByteArray) (hl : l.length ≤ 100000) (hne : l ≠ []) (hsz : ∀ s ∈ l, s.size ≤ 100) (hv : NmV w vf l) (ht : ∃ A n c, vt = .slice A n c) :
    Calls Tryd.prog 11 #[.pointer (some ⟨g, 0, none⟩), planV c vf vt] w fun e w' => ∃ N vs', e = .returned (failV (makesT S g D c.op l N).2) ∧ Went w w' g S vs (makesT S g D c.op l N).1 vs' ∧ w.heap.size ≤ N := by
  obtain ⟨Af, nf, cf, rfl, hn, hc, hr⟩ := id hv
  obtain ⟨At, nt, ct, rfl⟩ := ht
  obtain ⟨w0, hw0, b0, p0, r0⟩ := open_w w (planA c Af nf cf At nt ct) rep0
  unfold planV
  have h0 := h.low b0
  have hs0 := hs.low b0
  have hla := last_any h0 ho _ l hl hne (fun s hs => by have := hsz s hs; omega) (hv.low b0)
  unfold planA rep0 at hw0
  have c6 : w0.cell? ⟨w.heap.size, 6, none⟩ = some (.slice Af nf cf) := by rw [p0.cell]; rfl
  have c0 : w0.cell? ⟨w.heap.size, 0, none⟩ = some (.int .i64 c.op) := by rw [p0.cell]; rfl
  by_cases h1 : (lastT S g l).2.2 = 0
  · obtain ⟨id, r, hid, hrd, hkd, hnm⟩ := lastT_some ho h1
    have hmem : (lastT S g l).2.1 ∈ l := by
      have := List.length_pos_iff.2 hne
      rw [hnm, List.getD_eq_getElem?_getD, List.getElem?_eq_getElem (by omega)]; exact List.getElem_mem _
    have hnsz := hsz _ hmem
    have hok := ho.okn _ r hrd
    have hpl := fun {W : World} (hT : IsT W g S vs) => place_any (hT.node id r hrd) hok (lastT S g l).2.1
    rw [hid] at hla
    by_cases h2 : hasN r.list (lastT S g l).2.1 = true
    · have hm : ∀ N, makesT S g D c.op l N = (S, 17) := fun N => by unfold makesT; rw [if_neg (fun e => e h1), hid]; dsimp only; rw [hrd]; dsimp only; rw [if_pos h2]
      simp only [hm]
      rw [h2] at hpl
      rw [h1] at hla
      generalize (lastT S g l).2.1 = nm at *
      have hpl' : ∀ W, IsT W g S vs → Calls Tryd.prog 24 #[.pointer (some ⟨id.1, id.2, none⟩), .string nm] W fun e w' => e = .returned (.tuple #[.int .i64 (plc r.list nm), .bool true]) ∧ Below W.heap.size W w' := fun W hT => hpl hT
      generalize plc r.list nm = pc at *
      have hf := fun W => fails_any 17 W
      unfold failV repV failR at hf
      unfold ptrI at hla
      dsimp only [Option.map_some] at hla
      obtain ⟨i1, i2⟩ := id
      dsimp only at *
      have H := Lib.hid h; have HS := Lib.hid hs; have P0 := Lib.hid p0; have R0 := Lib.hid r0; have H0 := Lib.hid h0; have HP := Lib.hid hpl'
      clear hv hr h0 hs0 h hs p0 r0 hm hsz hpl hpl' hok hid hmem hnm
      go_enter Tryd.func11, Tryd.ntmps11
      go_wp2_with fail
      refine hla.mono ?_
      rintro e w1 ⟨rfl, b1⟩
      clear hw0 hla c6 c0
      have H1 := Lib.hid (H0.out.low b1)
      go_wp2_with fail
      refine (HP.out w1 H1.out).mono ?_
      rintro e w2 ⟨rfl, b2⟩
      have b3 : Below w.heap.size w w2 := (b0.trans (b1.mono b0.size)).trans (b2.mono (by have := b1.size; have := b0.size; omega))
      have R2 := (R0.out.below b1 R0.out.lt).below b2 (by have := b1.size; have := R0.out.lt; omega)
      have HB3 := Lib.hid b3; have HR2 := Lib.hid R2
      clear b0 b1 b2 b3 R2
      go_wp2_with fail
      refine (hf w2).mono ?_
      rintro e wz ⟨rfl, bz⟩
      clear hf
      have b9 : Below w.heap.size w wz := HB3.out.trans (bz.mono (by have := HB3.out.size; omega))
      have R9 := HR2.out.below bz HR2.out.lt
      obtain ⟨W, hst, hfr, hW, q0, q1, q2, q3, q4, q5, q6⟩ := st7 R9 (failR 17) none 0 0
      obtain ⟨d0, d1, d2, d3, d4, d5, d6, hfz⟩ := rep0_at R9
      dsimp only [failR] at hst q0 q1 q2 q3 q4 q5 q6
      have HB := Lib.hid b9; have HF := Lib.hid hfr; have HW := Lib.hid hW
      clear hfr hW HB3 HR2 b9 bz R9
      go_wp2_with fail
      refine bodyPost_ret (v := failV 17) (by simp [results, Tryd.results11, go_sem, q0, q1, q2, q3, q4, q5, q6, failV, repV, failR]; try rfl) rfl ?_
      exact ⟨w.heap.size, vs, rfl, Went.low H.out HS.out (HF.out.below HB.out (fun k e => by omega)), Nat.le_refl _⟩

    · have h2f : hasN r.list (lastT S g l).2.1 = false := by simpa using h2
      have hfi := fun {W : World} (hT : IsT W g S vs) => fits_any hT ho hk hrd ((lastT S g l).2.1.size + 6) 1 (by omega) (by omega)
      have hfi' : ∀ W, IsT W g S vs → Calls Tryd.prog 25 #[.pointer (some ⟨g, 0, none⟩), .pointer (some ⟨id.1, id.2, none⟩), .int .i64 ((lastT S g l).2.1.size + 6), .int .i64 1] W fun e w' => e = .returned (.int .i64 (fitsT S g D r ((lastT S g l).2.1.size + 6) 1)) ∧ Below W.heap.size W w' := fun W hT => hfi hT
      clear hfi
      have hpl' : ∀ W, IsT W g S vs → Calls Tryd.prog 24 #[.pointer (some ⟨id.1, id.2, none⟩), .string (lastT S g l).2.1] W fun e w' => e = .returned (.tuple #[.int .i64 (plc r.list (lastT S g l).2.1), .bool false]) ∧ Below W.heap.size W w' := fun W hT => by rw [← h2f]; exact hpl hT
      clear hpl
      have hw6 : IntKind.i64.wrap (((lastT S g l).2.1.size : Int) + 6) = ((lastT S g l).2.1.size : Int) + 6 := by rw [IntKind.wrap_i64]; omega
      rw [h1] at hla
      unfold ptrI at hla
      dsimp only [Option.map_some] at hla
      by_cases h3 : fitsT S g D r ((lastT S g l).2.1.size + 6) 1 = 0
      · have hm : ∀ N, makesT S g D c.op l N = ((S.upd (N, 0) ⟨c.op, 1, ⟨#[]⟩, []⟩).upd id (putR r (lastT S g l).2.1 N), 0) := fun N => by unfold makesT; rw [if_neg (fun e => e h1), hid]; dsimp only; rw [hrd]; dsimp only; rw [if_neg h2, if_neg (fun e => e h3)]
        simp only [hm]
        have hlen := fits_len hkd (by omega) h3
        rw [h3] at hfi'
        generalize (lastT S g l).2.1 = nm at *
        generalize plc r.list nm = pc at hpl'
        have hf := fun W => fails_any 0 W
        unfold failV repV failR at hf
        obtain ⟨i1, i2⟩ := id
        dsimp only at *
        have H := Lib.hid h; have HS := Lib.hid hs; have P0 := Lib.hid p0; have R0 := Lib.hid r0; have H0 := Lib.hid h0; have HP := Lib.hid hpl'; have HFI := Lib.hid hfi'
        clear hv hr h0 hs0 h hs p0 r0 hm hsz hpl' hfi' hid hmem hnm h3
        go_enter Tryd.func11, Tryd.ntmps11
        go_wp2_with fail
        refine hla.mono ?_
        rintro e w1 ⟨rfl, b1⟩
        clear hw0 hla c6
        have c01 := (b1.cell (p := ⟨w.heap.size, 0, none⟩) P0.out.lt).trans c0
        clear c0
        have H1 := Lib.hid (H0.out.low b1)
        go_wp2_with fail
        refine (HP.out w1 H1.out).mono ?_
        rintro e w2 ⟨rfl, b2⟩
        have H2 := Lib.hid (H1.out.low b2)
        have c02 := (b2.cell (p := ⟨w.heap.size, 0, none⟩) (by have := b1.size; have := P0.out.lt; show w.heap.size < _; omega)).trans c01
        clear c01
        go_wp2_with fail
        refine (HFI.out w2 H2.out).mono ?_
        rintro e w3 ⟨rfl, b3⟩
        have H3 := Lib.hid (H2.out.low b3)
        have c03 := (b3.cell (p := ⟨w.heap.size, 0, none⟩) (by have := b1.size; have := b2.size; have := P0.out.lt; show w.heap.size < _; omega)).trans c02
        clear c02
        have b4 : Below w.heap.size w w3 := ((b0.trans (b1.mono b0.size)).trans (b2.mono (by have := b1.size; have := b0.size; omega))).trans (b3.mono (by have := b1.size; have := b0.size; have := b2.size; omega))
        have R3 := ((R0.out.below b1 R0.out.lt).below b2 (by have := b1.size; have := R0.out.lt; omega)).below b3 (by have := b1.size; have := b2.size; have := R0.out.lt; omega)
        have HB3 := Lib.hid b4; have HR3 := Lib.hid R3
        clear b0 b1 b2 b3 b4 R3
        go_wp2_with fail
        have WA := Went.low H.out HS.out HB3.out
        have hN0 : S.nd (w3.heap.size, 0) = none := by
          cases hx : S.nd (w3.heap.size, 0) with
          | none => rfl
          | some x => have := (WA.tree.node _ _ hx).lt; simp at this
        have WB := Went.add WA.tree WA.sep ⟨c.op, 1, ⟨#[]⟩, []⟩ rfl hN0
        have hnid : ¬ (i1, i2) = (w3.heap.size, 0) := fun e => by rw [e, hN0] at hrd; cases hrd
        have hrd' : (S.upd (w3.heap.size, 0) ⟨c.op, 1, ⟨#[]⟩, []⟩).nd (i1, i2) = some r := by rw [← hrd]; exact if_neg hnid
        refine (put_tree WB.tree WB.sep hrd' hok hlen nm w3.heap.size).mono ?_
        rintro e w4 ⟨rfl, v', W4⟩
        have hrlt := HR3.out.lt
        have hno3 : ¬ ownT g (S.upd (w3.heap.size, 0) ⟨c.op, 1, ⟨#[]⟩, []⟩) (vsU vs (w3.heap.size, 0) (.slice none 0 0)) (w.heap.size + 1) := fun e => by
          rcases WB.own _ e with e | e
          · have := own_lt H.out e; omega
          · omega
        have R4 := W4.fr.blk (HR3.out.alloc (.cells #[.int .i64 c.op, .int .i64 1, .string ⟨#[]⟩, .slice none 0 0] 42)) hno3
        have hno4 : ¬ ownT g ((S.upd (w3.heap.size, 0) ⟨c.op, 1, ⟨#[]⟩, []⟩).upd (i1, i2) (putR r nm w3.heap.size)) (vsU (vsU vs (w3.heap.size, 0) (.slice none 0 0)) (i1, i2) v') (w.heap.size + 1) := fun e => by
          rcases W4.own _ e with e | e
          · exact hno3 e
          · rw [sz_alloc] at e; omega
        have WT := Lib.hid (WA.trans (WB.trans W4))
        have HR4 := Lib.hid R4; have HNO := Lib.hid hno4; have hw3 : w.heap.size ≤ w3.heap.size := HB3.out.size
        clear WA WB W4 R4 hno3 hno4 hrd' c03
        go_wp2_with fail
        refine (hf w4).mono ?_
        rintro e wz ⟨rfl, bz⟩
        clear hf
        have R9 := HR4.out.below bz HR4.out.lt
        obtain ⟨W, hst, hfr, hW, q0, q1, q2, q3, q4, q5, q6⟩ := st7 R9 (failR 0) none 0 0
        obtain ⟨d0, d1, d2, d3, d4, d5, d6, hfz⟩ := rep0_at R9
        dsimp only [failR] at hst q0 q1 q2 q3 q4 q5 q6
        have WL := WT.out.trans (Went.low WT.out.tree WT.out.sep bz)
        have HF := Lib.hid (WL.far hfr (by omega) HNO.out)
        clear hfr hW bz R9 WL
        go_wp2_with fail
        refine bodyPost_ret (v := failV 0) (by simp [results, Tryd.results11, go_sem, q0, q1, q2, q3, q4, q5, q6, failV, repV, failR]; try rfl) rfl ?_
        exact ⟨w3.heap.size, _, rfl, HF.out, hw3⟩
      · have hm : ∀ N, makesT S g D c.op l N = (S, fitsT S g D r ((lastT S g l).2.1.size + 6) 1) := fun N => by unfold makesT; rw [if_neg (fun e => e h1), hid]; dsimp only; rw [hrd]; dsimp only; rw [if_neg h2, if_pos h3]
        simp only [hm]
        generalize fitsT S g D r ((lastT S g l).2.1.size + 6) 1 = er at *
        generalize (lastT S g l).2.1 = nm at *
        generalize plc r.list nm = pc at hpl'
        have hf := fun W => fails_any er W
        unfold failV repV failR at hf
        obtain ⟨i1, i2⟩ := id
        dsimp only at *
        have H := Lib.hid h; have HS := Lib.hid hs; have P0 := Lib.hid p0; have R0 := Lib.hid r0; have H0 := Lib.hid h0; have HP := Lib.hid hpl'; have HFI := Lib.hid hfi'
        clear hv hr h0 hs0 h hs p0 r0 hm hsz hpl' hfi' hok hid hmem hnm
        go_enter Tryd.func11, Tryd.ntmps11
        go_wp2_with fail
        refine hla.mono ?_
        rintro e w1 ⟨rfl, b1⟩
        clear hw0 hla c6
        have c01 := (b1.cell (p := ⟨w.heap.size, 0, none⟩) P0.out.lt).trans c0
        clear c0
        have H1 := Lib.hid (H0.out.low b1)
        go_wp2_with fail
        refine (HP.out w1 H1.out).mono ?_
        rintro e w2 ⟨rfl, b2⟩
        have H2 := Lib.hid (H1.out.low b2)
        have c02 := (b2.cell (p := ⟨w.heap.size, 0, none⟩) (by have := b1.size; have := P0.out.lt; show w.heap.size < _; omega)).trans c01
        clear c01
        go_wp2_with fail
        refine (HFI.out w2 H2.out).mono ?_
        rintro e w3 ⟨rfl, b3⟩
        have H3 := Lib.hid (H2.out.low b3)
        have c03 := (b3.cell (p := ⟨w.heap.size, 0, none⟩) (by have := b1.size; have := b2.size; have := P0.out.lt; show w.heap.size < _; omega)).trans c02
        clear c02
        have b4 : Below w.heap.size w w3 := ((b0.trans (b1.mono b0.size)).trans (b2.mono (by have := b1.size; have := b0.size; omega))).trans (b3.mono (by have := b1.size; have := b0.size; have := b2.size; omega))
        have R3 := ((R0.out.below b1 R0.out.lt).below b2 (by have := b1.size; have := R0.out.lt; omega)).below b3 (by have := b1.size; have := b2.size; have := R0.out.lt; omega)
        have HB3 := Lib.hid b4; have HR3 := Lib.hid R3
        clear b0 b1 b2 b3 b4 R3
        go_wp2_with fail
        refine (hf w3).mono ?_
        rintro e wz ⟨rfl, bz⟩
        clear hf
        have b9 : Below w.heap.size w wz := HB3.out.trans (bz.mono (by have := HB3.out.size; omega))
        have R9 := HR3.out.below bz HR3.out.lt
        obtain ⟨W, hst, hfr, hW, q0, q1, q2, q3, q4, q5, q6⟩ := st7 R9 (failR er) none 0 0
        obtain ⟨d0, d1, d2, d3, d4, d5, d6, hfz⟩ := rep0_at R9
        dsimp only [failR] at hst q0 q1 q2 q3 q4 q5 q6
        have HB := Lib.hid b9; have HF := Lib.hid hfr; have HW := Lib.hid hW
        clear hfr hW HB3 HR3 b9 bz R9
        go_wp2_with fail
        refine bodyPost_ret (v := failV er) (by simp [results, Tryd.results11, go_sem, q0, q1, q2, q3, q4, q5, q6, failV, repV, failR]; try rfl) rfl ?_
        exact ⟨w.heap.size, vs, rfl, Went.low H.out HS.out (HF.out.below HB.out (fun k e => by omega)), Nat.le_refl _⟩
  · have hm : ∀ N, makesT S g D c.op l N = (S, (lastT S g l).2.2) := fun N => by unfold makesT; rw [if_pos h1]
    simp only [hm]
    generalize (lastT S g l).2.2 = er at *
    generalize (lastT S g l).2.1 = nm at *
    generalize ptrI (lastT S g l).1 = pt at *
    have hf := fun W => fails_any er W
    unfold failV repV failR at hf
    have hsz0 := b0.size
    have H := Lib.hid h; have HS := Lib.hid hs; have P0 := Lib.hid p0; have R0 := Lib.hid r0
    clear hv hr h0 hs0 h hs p0 r0 hm hsz
    go_enter Tryd.func11, Tryd.ntmps11
    go_wp2_with fail
    refine hla.mono ?_
    rintro e w1 ⟨rfl, b1⟩
    clear hw0 hla c6 c0
    go_wp2_with fail
    refine (hf w1).mono ?_
    rintro e w2 ⟨rfl, b2⟩
    clear hf
    have b3 : Below w.heap.size w w2 := (b0.trans (b1.mono b0.size)).trans (b2.mono (by have := b1.size; omega))
    have R2 := (R0.out.below b1 R0.out.lt).below b2 (by have := b1.size; have := R0.out.lt; omega)
    obtain ⟨W, hst, hfr, hW, q0, q1, q2, q3, q4, q5, q6⟩ := st7 R2 (failR er) none 0 0
    obtain ⟨d0, d1, d2, d3, d4, d5, d6, hfz⟩ := rep0_at R2
    dsimp only [failR] at hst q0 q1 q2 q3 q4 q5 q6
    have HB := Lib.hid b3; have HF := Lib.hid hfr; have HW := Lib.hid hW
    clear hfr hW b0 b1 b2 b3 R2
    go_wp2_with fail
    refine bodyPost_ret (v := failV er) (by simp [results, Tryd.results11, go_sem, q0, q1, q2, q3, q4, q5, q6, failV, repV, failR]; try rfl) rfl ?_
    exact ⟨w.heap.size, vs, rfl, Went.low H.out HS.out (HF.out.below HB.out (fun k e => by omega)), Nat.le_refl _⟩
end
end Go.Proofs.YtglglbbjacgbdaaDoor
