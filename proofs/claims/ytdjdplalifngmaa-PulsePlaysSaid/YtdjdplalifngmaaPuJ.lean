import Derived.Test.YtdjdplalifngmaaPuI
import Derived.Test.YtdjdplalifngmaaPuG
namespace Go.Proofs.Ytdjdplalifngmaa
open Go.RowKit
set_option linter.unusedVariables false
attribute [local go_sem] b_max2 b_min2 b_max b_min

/-- both pulses, in blocks of the call's own -/
structure St2 (B wr : World) (g g' : Nat) (m : Int) (s : List (Bool × Int)) (L T : Int) (a : List Int) : Prop where
  p : IsP wr g m s
  r : IsR wr g' L T a
  b : Below B.heap.size B wr
  l : B.heap.size ≤ g
  l' : B.heap.size ≤ g'
  ne : g ≠ g'
section
variable {B w w' : World} {g g' : Nat} {m L T : Int} {s : List (Bool × Int)} {a : List Int}
theorem St2.low (h : St2 B w g g' m s L T a) (hb : Below w.heap.size w w') : St2 B w' g g' m s L T a :=
  ⟨h.p.below hb h.p.blk.lt, h.r.below hb h.r.blk.lt, h.b.trans (hb.mono h.b.size), h.l, h.l', h.ne⟩
theorem St2.drewN (h : St2 B w g g' m s L T a) (n : Nat) : St2 B (w.drewN n) g g' m s L T a := ⟨h.p.drewN n, h.r.drewN n, bdrewN h.b n, h.l, h.l', h.ne⟩
theorem St2.alloc (h : St2 B w g g' m s L T a) (o : Obj) : St2 B (w.alloc o) g g' m s L T a := ⟨h.p.alloc o, h.r.alloc o, h.b.alloc h.b.size o, h.l, h.l', h.ne⟩
theorem St2.stepP {s' : List (Bool × Int)} (h : St2 B w g g' m s L T a) (hp : IsP w' g m s') (hg : w.grownBy w' (some g)) : St2 B w' g g' m s' L T a :=
  ⟨hp, h.r.grown hg (fun e => h.ne (by injection e with e; exact e.symm)), h.b.grown hg h.b.size (fun k hk => by cases hk; exact h.l), h.l, h.l', h.ne⟩
theorem St2.stepR {T' : Int} {a' : List Int} (h : St2 B w g g' m s L T a) (hr : IsR w' g' L T' a') (hg : w.grownBy w' (some g')) : St2 B w' g g' m s L T' a' :=
  ⟨h.p.grown hg (fun e => h.ne (by injection e)), hr, h.b.grown hg h.b.size (fun k hk => by cases hk; exact h.l'), h.l, h.l', h.ne⟩
end

theorem quiet_q {w : World} {g : Nat} {m : Int} {s : List (Bool × Int)} (h : IsP w g m s) (n : Int) (k : Nat) :
    Calls Try.prog 14 #[.pointer (some ⟨g, 0, none⟩), .int .i64 n] (w.drewN k) fun e w' => e = .returned (.int .i64 (fQuiet s n)) ∧ ∃ m, w' = w.drewN m :=
  (quiet_any (h.drewN k) n).mono fun _ _ ⟨h1, h2⟩ => ⟨h1, k, h2.symm⟩
theorem rquiet_q {w : World} {g : Nat} {L T : Int} {a : List Int} (h : IsR w g L T a) (n : Int) (k : Nat) :
    Calls Try.prog 22 #[.pointer (some ⟨g, 0, none⟩), .int .i64 n] (w.drewN k) fun e w' => e = .returned (.int .i64 (rQuiet a L T n)) ∧ ∃ m, w' = w.drewN m :=
  (rquiet_any (h.drewN k) n).mono fun _ _ ⟨h1, m, h2⟩ => ⟨h1, k + m, by rw [h2, World.drewN_drewN]⟩
set_option maxRecDepth 100000 in
set_option maxHeartbeats 1000000 in
theorem law_plays (n : Int) (A : Option Addr) (len cap : Nat) (N : Nat → Nat → Int) (w : World) (h0 : -9223372036854775808 ≤ n) (h1 : n ≤ 9223372036854775807)
    (zb : ∀ i j, -9223372036854775808 ≤ N i j ∧ N i j ≤ 9223372036854775807) (zr : Reads w w.heap.size 2 A len ((List.range len).flatMap fun i => (List.range 2).map fun j => Value.int .i64 (N i j))) :
    Calls Try.prog 5 #[.int .i64 n, .slice A len cap] w fun e w' => e = .returned (.bool true) ∧ Below w.heap.size w w' := by
  have ZB := Lib.hid zb
  clear zb
  go_enter Try.func5, Try.ntmps5
  go_wp2_with fail
  refine (awake_any _).mono ?_
  rintro e w1 ⟨rfl, hb1⟩
  go_wp2_with fail
  refine (new_any n _ h0 h1).mono ?_
  rintro e w2 ⟨rfl, p2, hb2⟩
  have hs1 := hb1.size
  have hs2 := hb2.size
  have hlt2 := p2.blk.lt
  generalize hg : w1.heap.size = g at *
  clear hg
  go_wp2_with fail
  refine (rnew_any n _ h0 h1).mono ?_
  rintro e w3 ⟨rfl, r3, hb3⟩
  have p3 := p2.below hb3 hlt2
  have hs3 := hb3.size
  have st0 : St2 w w3 g w2.heap.size (min (max n 1) 1000 - 1) s0 (min (max n 1) 1000) 0 neg8 :=
    ⟨p3, r3, hb1.trans ((hb2.mono hs1).trans (hb3.mono (by omega))), by omega, by omega, by omega⟩
  have hrel0 := Rel.new (min (max n 1) 1000 - 1)
  rw [show min (max n 1) 1000 - 1 + 1 = min (max n 1) 1000 by omega] at hrel0
  generalize min (max n 1) 1000 - 1 = m at *
  generalize min (max n 1) 1000 = L at *
  generalize w2.heap.size = g' at *
  clear p2 r3 p3 hb1 hb2 hb3 hs1 hs2 hs3 hlt2
  go_wp2_with fail
  go_loopw [8, 9, 10, 11, 12, 13] (fun p _ _ _ _ _ wr => ∃ (i : Nat) (s : List (Bool × Int)) (T : Int) (a : List Int), p = .int .i64 i ∧ i ≤ len ∧ i ≤ 200 ∧ T ≤ i ∧ Rel m s L T a ∧ St2 w wr g g' m s L T a) (fun p _ _ _ _ _ _ => 200 - (intOf p).toNat)
  case atStart => exact ⟨0, _, 0, _, rfl, by omega, by omega, by omega, hrel0, st0⟩
  case round =>
    clear st0 hrel0
    obtain ⟨i, s, T, a, rfl, hil, hi20, hTi, hrl, hs⟩ := hrel
    by_cases hlt : i < len ∧ i < 200
    · obtain ⟨hlt, hlt2⟩ := hlt
      obtain ⟨ad, u0, e, hadb, hx0, hc0⟩ := zr.elem hlt (show 0 < 2 by omega)
      obtain ⟨ad', u1, e', _, hx1, hc1⟩ := zr.elem hlt (show 1 < 2 by omega)
      subst e
      obtain rfl : ad = ad' := by simpa using e'
      have hf := fun j hj => flat_get (fun i => (List.range 2).map fun j => Value.int .i64 (N i j)) 2 (by simp) (List.range len) i j (by simpa using hlt) hj
      rw [hf 0 (by omega)] at hx0
      rw [hf 1 (by omega)] at hx1
      simp only [List.getElem_range] at hx0 hx1
      obtain rfl : Value.int .i64 (N i 0) = u0 := by simpa [List.range_succ] using hx0
      obtain rfl : Value.int .i64 (N i 1) = u1 := by simpa [List.range_succ] using hx1
      have hc0' : wr.cell? (ad.add (i * 2)) = some (.int .i64 (N i 0)) := (hs.b.cell (by rw [block_of_add]; exact hadb)).trans hc0
      have hc1' : wr.cell? (ad.add (i * 2 + 1)) = some (.int .i64 (N i 1)) := (hs.b.cell (by rw [block_of_add]; exact hadb)).trans hc1
      have z0 := ZB.out i 0
      have z1 := ZB.out i 1
      rw [add_field _ _ 1 (by omega)] at hc1'
      clear hf e' hx0 hx1 hc0 hc1
      generalize N i 0 = K at *
      generalize N i 1 = Z at *
      have hd20 : decide ((i : Int) < 200) = true := by rw [decide_eq_true_eq]; omega
      have tz1 := Int.tmod_lt_of_pos K (show (0:Int) < 8 by omega)
      have tz2 := Int.lt_tmod_of_pos K (show (0:Int) < 8 by omega)
      have ho := hs.alloc (.cells #[.int .i64 K, .int .i64 Z] 32)
      go_upto_if 39 with (fail)
      go_cut [10] (fun x w' => ∃ k : Int, x = .int .i64 k ∧ 0 ≤ k ∧ k < 8 ∧ (wr.alloc (.cells #[.int .i64 K, .int .i64 Z] 32)) = w')
      case first =>
        go_wp2_with fail
        all_goals go_meet
        · exact ⟨K.tmod 8 + 8, rfl, by omega, by omega, rfl⟩
        · exact ⟨K.tmod 8, rfl, by omega, by omega, rfl⟩
      case rest =>
      obtain ⟨k, rfl, hk0, hk8, rfl⟩ := hcut
      have hO : Blk (wr.alloc (.cells #[.int .i64 K, .int .i64 Z] 32)) wr.heap.size 32 #[.int .i64 K, .int .i64 Z] := Blk.new _ _ _
      have hog : g < wr.heap.size := hs.p.blk.lt
      have hog' : g' < wr.heap.size := hs.r.blk.lt
      generalize hob : wr.heap.size = ob at *
      generalize wr.alloc (.cells #[.int .i64 K, .int .i64 Z] 32) = wo at *
      have ht0 := hs.r.t0
      have oc : wo.cell? ⟨ob, 1, none⟩ = some (.int .i64 Z) := hO.cell 1
      have tcell := ho.r.ct
      go_upto_block 2 with (fail)
      go_cut [11] (fun x w' => x = .bool true ∧ ∃ (s' : List (Bool × Int)) (T' : Int) (a' : List Int), T' ≤ i + 1 ∧ Rel m s' L T' a' ∧ St2 w w' g g' m s' L T' a' ∧ w'.cell? ⟨ob, 1, none⟩ = some (.int .i64 Z))
      case first =>
        by_cases k45 : k = 4 ∨ k = 5
        · rcases k45 with rfl | rfl
          all_goals
            go_wp2_with fail
            go_region_held3 (fun w' => w'.cell? ⟨ob, 1, none⟩ = some (.int .i64 Z) ∧ w'.cell? ⟨g', 1, none⟩ = some (.int .i64 T)) (go_keep)
              (first
                | (go_at_call 13; refine (heard_any (ho.drewN 1).p _).mono ?_; rintro e wa ⟨rfl, pa, ga⟩; have sa := (ho.drewN 1).stepP pa ga; have ka : wa.cell? ⟨ob, 1, none⟩ = some (.int .i64 Z) := ga.cell oc (by simp; omega); have kt : wa.cell? ⟨g', 1, none⟩ = some (.int .i64 T) := ga.cell tcell (by have := ho.ne; simp; omega))
                | (go_at_call 17; refine (rset_any sa.r _ T (by omega)).mono ?_; rintro e wb ⟨rfl, rb, gb⟩; have sb := sa.stepR rb gb; have kb : wb.cell? ⟨ob, 1, none⟩ = some (.int .i64 Z) := gb.cell ka (by simp; omega); have kt2 := sb.r.ct))
            all_goals go_wp2_with fail
            all_goals go_meet
            all_goals exact ⟨by rw [hrl.seen Z]; simp, _, T, _, by omega, hrl.heard ht0 hs.r.l0 Z, sb, gb.cell ka (by simp; omega)⟩
        · have n4 : (k == 4) = false := by simp; omega
          have n5 : (k == 5) = false := by simp; omega
          by_cases k6 : k = 6
          · subst k6
            go_wp2_with fail
            go_region_held3 (fun w' => w'.cell? ⟨ob, 1, none⟩ = some (.int .i64 Z)) (go_keep)
              (first
                | (go_at_call 10; refine (watch_any (ho.drewN 1).p _).mono ?_; rintro e wa ⟨rfl, pa, ga⟩; have sa := (ho.drewN 1).stepP pa ga; have ka : wa.cell? ⟨ob, 1, none⟩ = some (.int .i64 Z) := ga.cell oc (by simp; omega))
                | (go_at_call 18; refine (rwatch_any sa.r _).mono ?_; rintro e wb ⟨rfl, rb, gb⟩; have sb := sa.stepR rb gb; have kb : wb.cell? ⟨ob, 1, none⟩ = some (.int .i64 Z) := gb.cell ka (by simp; omega)))
            all_goals go_wp2_with fail
            all_goals go_meet
            all_goals exact ⟨by rw [hrl.seen Z]; simp, _, T, _, by omega, hrl.watch ht0 hs.r.l0 Z, sb, gb.cell ka (by simp; omega)⟩
          · have n6 : (k == 6) = false := by simp; omega
            by_cases k7 : k = 7
            · subst k7
              go_wp2_with fail
              go_region_held3 (fun w' => w'.cell? ⟨ob, 1, none⟩ = some (.int .i64 Z)) (go_keep)
                (first
                  | (go_at_call 15; refine (forget_any (ho.drewN 1).p _).mono ?_; rintro e wa ⟨rfl, pa, ga⟩; have sa := (ho.drewN 1).stepP pa ga; have ka : wa.cell? ⟨ob, 1, none⟩ = some (.int .i64 Z) := ga.cell oc (by simp; omega))
                  | (go_at_call 17; refine (rset_any sa.r _ (-1) (by omega)).mono ?_; rintro e wb ⟨rfl, rb, gb⟩; have sb := sa.stepR rb gb; have kb : wb.cell? ⟨ob, 1, none⟩ = some (.int .i64 Z) := gb.cell ka (by simp; omega)))
              all_goals go_wp2_with fail
              all_goals go_meet
              all_goals exact ⟨by rw [hrl.seen Z]; simp, _, T, _, by omega, hrl.forget Z, sb, gb.cell ka (by simp; omega)⟩
            · have n7 : (k == 7) = false := by simp; omega
              go_wp2_with fail
              refine (tick_any ho.p).mono ?_
              rintro e wa ⟨rfl, pa, ga⟩
              have sa := ho.stepP pa ga
              have ka : wa.cell? ⟨ob, 1, none⟩ = some (.int .i64 Z) := ga.cell oc (by simp; omega)
              have ct := sa.r.ct
              have ft := sa.r.blk.frozen 1
              have hT2 : T ≤ 199 := by omega
              go_wp2_with fail
              go_meet
              exact ⟨rfl, _, T + 1, a, by omega, hrl.tick hs.r.a0, sa.stepR (sa.r.tick (by omega)) (grownBy_setCell _ _ _ _), (grownBy_setCell _ _ _ _).cell ka (by simp; omega)⟩
      case rest =>
      obtain ⟨rfl, s', T', a', hT', hrl', hs', hz'⟩ := hcut
      have hqs := hs'.p.q0
      have hm0 := hs'.p.m0
      have eL : fLate m s' = rThose true a' L T' 8 := hrl'.those hm0 hqs true
      have eW : fWatched s' = rThose false a' L T' 8 := hrl'.those hm0 hqs false
      have eQ := hrl'.quiet Z
      have hlenL := rThose_len true a' L T' 8
      have hlenW := rThose_len false a' L T' 8
      have EL := Lib.hid eL; have EW := Lib.hid eW; have EQ := Lib.hid eQ; clear eL eW eQ
      clear hob oc tcell hO ho hs hc0' hc1' tz1 tz2 z0 z1 hrl
      go_wp2_with fail
      refine (late_any hs'.p).mono ?_
      rintro e wa ⟨va, rfl, owa, ba⟩
      have sa := hs'.low ba
      rw [EL.out] at owa
      obtain ⟨Aa, ca, rfl, _, ra⟩ := Reads.of_own owa
      go_wp2_with fail
      refine (rthose_any sa.r true).mono ?_
      rintro e wb ⟨vb, rfl, owb, bb⟩
      have sb := sa.low bb
      obtain ⟨Ab, cb, rfl, _, rb⟩ := Reads.of_own owb
      go_wp2_with fail
      refine (same_any rfl (by omega) (ra.below bb) rb).mono ?_
      rintro e wc1 ⟨rfl, m1, rfl⟩
      have sc := sb.drewN m1
      go_wp2_with fail
      refine (watched_any sc.p).mono ?_
      rintro e wd ⟨vd, rfl, owd, bd⟩
      have sd := sc.low bd
      rw [EW.out] at owd
      obtain ⟨Ad, cd, rfl, _, rd⟩ := Reads.of_own owd
      go_wp2_with fail
      refine (rthose_any sd.r false).mono ?_
      rintro e we ⟨ve, rfl, owe, be⟩
      have se := sd.low be
      obtain ⟨Ae, ce, rfl, _, re⟩ := Reads.of_own owe
      go_wp2_with fail
      refine (same_any rfl (by omega) (rd.below be) re).mono ?_
      rintro e wf ⟨rfl, m2, rfl⟩
      have sf := se.drewN m2
      clear owa owb owd owe ra rb rd re
      have zf : (we.drewN m2).cell? ⟨ob, 1, none⟩ = some (.int .i64 Z) := by
        have h1 := World.block_lt_of_cell? wc _ hz'
        simp only at h1
        have e1 := (bcell ba).1 ob 1 h1
        have e2 := (bcell bb).1 ob 1 (by have := ba.size; omega)
        have e3 := (bcell bd).1 ob 1 (by have := ba.size; have := bb.size; show ob < wb.heap.size; omega)
        have e4 := (bcell be).1 ob 1 (by have := ba.size; have := bb.size; have h4 := bd.size; have h5 : (wb.drewN m1).heap.size = wb.heap.size := rfl; omega)
        exact e4.trans (e3.trans (e2.trans (e1.trans hz')))
      have hob' := World.block_lt_of_cell? _ _ zf
      clear sa sb sc sd se ba bb bd be hs'
      generalize we.drewN m2 = wf at *
      have cq := fun k => quiet_q sf.p Z k
      have crq := fun k => rquiet_q sf.r Z k
      rw [EQ.out] at cq
      generalize rQuiet a' L T' Z = QQ at *
      have CQ := Lib.hid cq; have CRQ := Lib.hid crq; clear cq crq
      go_wp2_with fail
      go_quiet ((first | (go_at_call 14; exact CQ.out _) | (go_at_call 22; exact CRQ.out _)))
      go_wp2_with fail
      go_roundw
      case rel => exact ⟨i + 1, s', T', a', vint (by omega), by omega, by omega, by omega, hrl', sf.drewN nq⟩
      case measure => simp [intOf]; omega
    · have hdd : (decide (i < len) && decide ((i : Int) < 200)) = false := by simp; omega
      go_wp2_with fail
      all_goals go_ret
      all_goals exact ⟨rfl, hs.b⟩
end Go.Proofs.Ytdjdplalifngmaa
