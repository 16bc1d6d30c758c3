import Derived.Test.YtepmgcgpioljiaaInX
import Derived.Deep.RegionHeld3
namespace Go.Proofs.Ytepmgcgpioljiaa
open Go.RowKit
set_option linter.unusedVariables false
attribute [local go_sem] b_max2 b_min2 b_max b_min

/-! ### InodeBytes -/
/-- an inode in its box -/
structure OneI (w0 w : World) (k l s : Int) (A : Option Addr) (n c : Nat) (zs : List Int) : Prop where
  b0 : Blk w w0.heap.size 37 #[.int .i64 k, .int .i64 l, .int .i64 s, .slice A n c]
  r0 : Reads w w0.heap.size 1 A n (zs.map (Value.int .i64))
  be : Below w0.heap.size w0 w
section
variable {w0 w w1 : World} {k l s : Int} {A : Option Addr} {n c : Nat} {zs : List Int}
theorem OneI.low (h : OneI w0 w k l s A n c zs) (hb : Below w.heap.size w w1) : OneI w0 w1 k l s A n c zs := by
  have h1 := h.b0.lt
  have hb' : Below w0.heap.size w w1 := hb.mono (by omega)
  exact ⟨h.b0.below hb (by omega), h.r0.below hb', h.be.trans hb'⟩
theorem OneI.drewN (h : OneI w0 w k l s A n c zs) (m : Nat) : OneI w0 (w.drewN m) k l s A n c zs := h.low (bdrewN (Below.refl _ _) m)
theorem OneI.c0 (h : OneI w0 w k l s A n c zs) : w.cell? ⟨w0.heap.size, 0, none⟩ = some (.int .i64 k) ∧ w.cell? ⟨w0.heap.size, 1, none⟩ = some (.int .i64 l) ∧ w.cell? ⟨w0.heap.size, 2, none⟩ = some (.int .i64 s) ∧ w.cell? ⟨w0.heap.size, 3, none⟩ = some (.slice A n c) ∧ (∀ i, w.frozen? ⟨w0.heap.size, i, none⟩ = false) := ⟨h.b0.cell 0, h.b0.cell 1, h.b0.cell 2, h.b0.cell 3, h.b0.frozen⟩
theorem OneI.set0 (h : OneI w0 w k l s A n c zs) {m : Nat} (hn : zs.length = n) (hm : m ≤ n) :
    OneI w0 ((((w.setCell ⟨w0.heap.size, 0, none⟩ (.int .i64 k)).setCell ⟨w0.heap.size, 1, none⟩ (.int .i64 l)).setCell ⟨w0.heap.size, 2, none⟩ (.int .i64 s)).setCell ⟨w0.heap.size, 3, none⟩ (.slice A m c)) k l s A m c (zs.take m) := by
  obtain ⟨h1, h2⟩ := st4 h.b0 (.int .i64 k) (.int .i64 l) (.int .i64 s) (.slice A m c)
  have hb : Below w0.heap.size w0 _ := (h2.below (B := w0) h.be (fun k e => by simp [FG] at e; omega))
  have hbe : Below w0.heap.size w ((((w.setCell ⟨w0.heap.size, 0, none⟩ (.int .i64 k)).setCell ⟨w0.heap.size, 1, none⟩ (.int .i64 l)).setCell ⟨w0.heap.size, 2, none⟩ (.int .i64 s)).setCell ⟨w0.heap.size, 3, none⟩ (.slice A m c)) := ⟨h2.os, h2.tape, h2.output, h2.size, fun j hj => h2.block j (by have := h.be.size; omega) (by simp [FG]; omega)⟩
  exact ⟨h1, reads_take (h.r0.below hbe) hn hm, hb⟩
theorem OneI.check (h : OneI w0 w k l s A n c zs) (hn : zs.length = n ∧ n ≤ 20) (hs : -9223372036854775808 ≤ s ∧ s ≤ 9223372036854775807) :
    Calls Try.prog 23 #[.agg #[.int .i64 k, .int .i64 l, .int .i64 s, .slice A n c]] w fun e w' => e = .returned (.int .i64 (fCheck k l s zs)) ∧ OneI w0 w' k l s A n c zs :=
  (check_any k l s A n c zs w hs.1 hs.2 hn.1 (by omega) (h.r0.more h.be.size)).mono fun e w' ⟨e1, e2⟩ => ⟨e1, h.low e2⟩
theorem OneI.rcheck (h : OneI w0 w k l s A n c zs) (hn : zs.length = n ∧ n ≤ 20) (hs : -9223372036854775808 ≤ s ∧ s ≤ 9223372036854775807) :
    Calls Try.prog 24 #[.agg #[.int .i64 k, .int .i64 l, .int .i64 s, .slice A n c]] w fun e w' => e = .returned (.int .i64 (fCheck k l s zs)) ∧ OneI w0 w' k l s A n c zs :=
  (rcheck_any k l s A n c zs w hs.1 hs.2 hn.1 (by omega) (h.r0.more h.be.size)).mono fun e w' ⟨e1, e2⟩ => ⟨e1, h.low e2⟩
end
set_option maxRecDepth 100000 in
set_option maxHeartbeats 2000000 in
theorem law_bytes (k l s : Int) (A : Option Addr) (n c : Nat) (zs : List Int) (kd : Int) (w : World)
    (hs0 : -9223372036854775808 ≤ s) (hs1 : s ≤ 9223372036854775807) (hn : zs.length = n) (hc : n ≤ c)
    (hr : Reads w w.heap.size 1 A n (zs.map (Value.int .i64))) :
    Calls Try.prog 9 #[.agg #[.int .i64 k, .int .i64 l, .int .i64 s, .slice A n c], .int .i64 kd] w fun e w' => e = .returned (.bool true) ∧ Below w.heap.size w w' := by
  have hbe : Below w.heap.size w (w.alloc (.cells #[.int .i64 k, .int .i64 l, .int .i64 s, .slice A n c] 37)) := (Below.refl _ w).alloc (Nat.le_refl _) _
  have T0 : OneI w (w.alloc (.cells #[.int .i64 k, .int .i64 l, .int .i64 s, .slice A n c] 37)) k l s A n c zs := ⟨Blk.new _ _ _, hr.below hbe, hbe⟩
  clear hbe hr
  go_enter Try.func9, Try.ntmps9
  go_wp2_with fail
  refine (awake_any _).mono ?_
  rintro e w1 ⟨rfl, b1⟩
  have T1 := T0.low b1
  clear b1 T0
  obtain ⟨p0, p1, p2, p3, pf⟩ := T1.c0
  go_wp2_with fail
  refine (small_any k l s A n c w1 hc).mono ?_
  rintro e w2 ⟨rfl, b2⟩
  have T2 := T1.low b2
  clear p0 p1 p2 p3 pf T1 b2
  obtain ⟨p0, p1, p2, p3, pf⟩ := T2.c0
  have f0 := pf 0; have f1 := pf 1; have f2 := pf 2; have f3 := pf 3
  have T3 := T2.set0 (m := min n 20) hn (Nat.min_le_left _ _)
  clear T2 pf
  go_upto_region 3 with (fail)
  clear p0 p1 p2 p3 f0 f1 f2 f3
  generalize (((w2.setCell ⟨w.heap.size, 0, none⟩ (.int .i64 k)).setCell ⟨w.heap.size, 1, none⟩ (.int .i64 l)).setCell ⟨w.heap.size, 2, none⟩ (.int .i64 s)).setCell ⟨w.heap.size, 3, none⟩ (.slice A (min n 20) c) = w3 at *
  have hm : (zs.take (min n 20)).length = min n 20 := by rw [List.length_take]; omega
  have hm20 : min n 20 ≤ 20 := Nat.min_le_right _ _
  generalize zs.take (min n 20) = ys at *
  generalize min n 20 = m at *
  clear hn hc
  have hsz3 : w.heap.size ≤ w3.heap.size := T3.be.size
  have cB := bytes_any k l s A m c ys w3 hs0 hs1 hm (by omega) (T3.r0.more hsz3)
  obtain ⟨p0, p1, p2, p3, pf⟩ := T3.c0
  obtain ⟨S, ES, eS⟩ := pair_of (fBytes k l s ys)
  rw [eS] at cB
  dsimp only at cB
  go_wp2_with fail
  refine cB.mono ?_
  rintro e w4 ⟨rfl, b4⟩
  have T4 := T3.low b4
  clear p0 p1 p2 p3 pf cB T3 b4 hsz3
  have hsz4 : w.heap.size ≤ w4.heap.size := T4.be.size
  have cB := rbytes_any k l s A m c ys w4 hs0 hs1 hm (by omega) (T4.r0.more hsz4)
  obtain ⟨p0, p1, p2, p3, pf⟩ := T4.c0
  rw [eS] at cB
  dsimp only at cB
  go_wp2_with fail
  refine cB.mono ?_
  rintro e w5 ⟨rfl, b5⟩
  have T5 := T4.low b5
  clear p0 p1 p2 p3 pf cB T4 b5 hsz4
  go_wp2_with fail
  refine (inew_any kd w5).mono ?_
  rintro e w6 ⟨rfl, b6⟩
  have T6 := T5.low b6
  clear T5 b6
  have hsm := same_any kd 1 0 kd 1 0 none none 0 0 0 0 [] [] w6 rfl rfl (by omega) (by omega) (by simpa using Reads.none_) (by simpa using Reads.none_)
  have hdd : decide (kd = kd ∧ (1 : Int) = 1 ∧ (0 : Int) = 0 ∧ ([] : List Int) = []) = true := by simp
  rw [hdd] at hsm
  go_wp2_with fail
  refine hsm.mono ?_
  rintro e w7 ⟨rfl, b7⟩
  have T7 := T6.low b7
  clear T6 b7 hsm hdd
  obtain ⟨p0, p1, p2, p3, pf⟩ := T7.c0
  have T7d := T7.drewN 1
  have hmm : ys.length = m ∧ m ≤ 20 := ⟨hm, hm20⟩
  have hss : -9223372036854775808 ≤ s ∧ s ≤ 9223372036854775807 := ⟨hs0, hs1⟩
  generalize hfc : fCheck k l s ys = fc at *
  have hfs : (S.toList == S.toList) = true := beq_list S
  clear T7 pf
  go_wp2_with fail
  go_region_held3 (fun w' => w'.cell? ⟨w.heap.size, 0, none⟩ = some (.int .i64 k) ∧ w'.cell? ⟨w.heap.size, 1, none⟩ = some (.int .i64 l) ∧ w'.cell? ⟨w.heap.size, 2, none⟩ = some (.int .i64 s) ∧ w'.cell? ⟨w.heap.size, 3, none⟩ = some (.slice A m c)) (go_keep)
    (first
      | (go_at_call 23; refine (OneI.check (w0 := w) (zs := ys) (by assumption) hmm hss).mono ?_; rintro e wa ⟨rfl, Ta⟩; obtain ⟨x0, x1, x2, x3, xf⟩ := Ta.c0)
      | (go_at_call 24; refine (OneI.rcheck (w0 := w) (zs := ys) (by assumption) hmm hss).mono ?_; rintro e wb ⟨rfl, Tb⟩; obtain ⟨x0, x1, x2, x3, xf⟩ := Tb.c0))
  have Tbb := Tb.be
  rcases fBytes_two k l s ys with ⟨g1, g2⟩ | ⟨g1, g2⟩
  · rw [eS] at g2
    obtain ⟨rfl, rfl⟩ := Prod.mk.inj g2
    have hrd := fRead_inoB k l s ys g1
    have hsz := inoB_size k l s ys
    rw [hm] at hsz
    have hm12 : m ≤ 12 := by
      obtain ⟨_, _, _, _, _, h6, h7, _, _⟩ := fCheck_ok g1
      have := need_le s h6; omega
    have hS : (inoB k l s ys).size ≤ 510 := by omega
    generalize inoB k l s ys = S at *
    have hrr := read_any S wb (by omega)
    rw [hrd] at hrr
    dsimp only at hrr
    have HRR := Lib.hid hrr
    clear hrr hrd eS g1 g2 hfc T7d Ta Tbb
    go_wp2_with fail
    refine HRR.out.mono ?_
    rintro e wc ⟨v, rfl, hV, bc⟩
    obtain ⟨A', n', c', rfl, hn2, hc2, hr2⟩ := hV
    dsimp only at hn2 hr2
    have Tc := Tb.low bc
    have bd : Below wc.heap.size wc (wc.alloc (.cells #[.int .i64 k, .int .i64 l, .int .i64 s, .slice A' n' c'] 37)) := (Below.refl _ wc).alloc (Nat.le_refl _) _
    have Td := Tc.low bd
    have kd7 : Blk (wc.alloc (.cells #[.int .i64 k, .int .i64 l, .int .i64 s, .slice A' n' c'] 37)) wc.heap.size 37 #[.int .i64 k, .int .i64 l, .int .i64 s, .slice A' n' c'] := Blk.new _ _ _
    have hr7 := (hr2.below bd).more (B' := (wc.alloc (.cells #[.int .i64 k, .int .i64 l, .int .i64 s, .slice A' n' c'] 37)).heap.size) (by simp)
    clear Tb Tc hr2 bc bd x0 x1 x2 x3 xf HRR
    go_upto_region 11 with (fail)
    generalize wc.alloc (.cells #[.int .i64 k, .int .i64 l, .int .i64 s, .slice A' n' c'] 37) = wd at *
    have hsm := same_any k l s k l s A' A n' c' m c ys ys wd hn2 hm (by omega) (by omega) hr7 (Td.r0.more Td.be.size)
    have hdd : decide (k = k ∧ l = l ∧ s = s ∧ ys = ys) = true := by simp
    rw [hdd] at hsm
    obtain ⟨x0, x1, x2, x3, xf⟩ := Td.c0
    have y0 : wd.cell? ⟨wc.heap.size, 0, none⟩ = some (.int .i64 k) := kd7.cell 0
    have y1 : wd.cell? ⟨wc.heap.size, 1, none⟩ = some (.int .i64 l) := kd7.cell 1
    have y2 : wd.cell? ⟨wc.heap.size, 2, none⟩ = some (.int .i64 s) := kd7.cell 2
    have y3 : wd.cell? ⟨wc.heap.size, 3, none⟩ = some (.slice A' n' c') := kd7.cell 3
    have HSM := Lib.hid hsm
    clear hsm hdd xf kd7 hr7
    go_wp2_with fail
    refine HSM.out.mono ?_
    rintro e we ⟨rfl, be⟩
    have hfin := (Td.low be).be
    have HF := Lib.hid hfin
    have hSi : (S.size : Int) ≤ 510 := by omega
    clear hfin HSM be x0 x1 x2 x3 y0 y1 y2 y3 Td
    go_wp2_with fail
    go_ret
    exact ⟨ret_bool (by rw [decide_eq_true_eq]; omega), HF.out⟩
  · rw [eS] at g2
    obtain ⟨rfl, rfl⟩ := Prod.mk.inj g2
    have HB := Lib.hid Tbb
    clear Tb Tbb g1 g2 eS T7d Ta hfc
    go_wp2_with fail
    go_ret
    exact ⟨rfl, HB.out⟩
end Go.Proofs.Ytepmgcgpioljiaa
