import Derived.Test.YtepmgcgpioljiaaInV
import Derived.Test.YtepmgcgpioljiaaInW
import Derived.Lib.SmallJoins
import Derived.ProofKit
import Derived.OpenShut
namespace Go.Proofs.Ytepmgcgpioljiaa
open Go.RowKit
set_option linter.unusedVariables false
attribute [local go_sem] b_max2 b_min2 b_max b_min

/-! ### InodeOne -/
theorem fBytes_two (k l s : Int) (zs : List Int) : (fCheck k l s zs = 0 ∧ fBytes k l s zs = (inoB k l s zs, 0)) ∨ (fCheck k l s zs = 1 ∧ fBytes k l s zs = (⟨#[]⟩, 1)) := by
  rcases fCheck_two k l s zs with h | h
  · exact .inl ⟨h, if_pos h⟩
  · exact .inr ⟨h, if_neg (by rw [h]; omega)⟩
/-- two inodes in their boxes -/
structure TwoI (w0 w : World) (k l s : Int) (A : Option Addr) (n c : Nat) (zs : List Int) (k' l' s' : Int) (A' : Option Addr) (n' c' : Nat) (zs' : List Int) : Prop where
  b0 : Blk w w0.heap.size 37 #[.int .i64 k, .int .i64 l, .int .i64 s, .slice A n c]
  b1 : Blk w (w0.heap.size + 1) 37 #[.int .i64 k', .int .i64 l', .int .i64 s', .slice A' n' c']
  r0 : Reads w w0.heap.size 1 A n (zs.map (Value.int .i64))
  r1 : Reads w w0.heap.size 1 A' n' (zs'.map (Value.int .i64))
  be : Below w0.heap.size w0 w
section
variable {w0 w w1 : World} {k l s : Int} {A : Option Addr} {n c : Nat} {zs : List Int} {k' l' s' : Int} {A' : Option Addr} {n' c' : Nat} {zs' : List Int}
theorem TwoI.low (h : TwoI w0 w k l s A n c zs k' l' s' A' n' c' zs') (hb : Below w.heap.size w w1) : TwoI w0 w1 k l s A n c zs k' l' s' A' n' c' zs' := by
  have h1 := h.b1.lt
  have hb' : Below w0.heap.size w w1 := hb.mono (by omega)
  exact ⟨h.b0.below hb (by omega), h.b1.below hb h1, h.r0.below hb', h.r1.below hb', h.be.trans hb'⟩
theorem TwoI.c0 (h : TwoI w0 w k l s A n c zs k' l' s' A' n' c' zs') : w.cell? ⟨w0.heap.size, 0, none⟩ = some (.int .i64 k) ∧ w.cell? ⟨w0.heap.size, 1, none⟩ = some (.int .i64 l) ∧ w.cell? ⟨w0.heap.size, 2, none⟩ = some (.int .i64 s) ∧ w.cell? ⟨w0.heap.size, 3, none⟩ = some (.slice A n c) ∧ (∀ i, w.frozen? ⟨w0.heap.size, i, none⟩ = false) := ⟨h.b0.cell 0, h.b0.cell 1, h.b0.cell 2, h.b0.cell 3, h.b0.frozen⟩
theorem TwoI.c1 (h : TwoI w0 w k l s A n c zs k' l' s' A' n' c' zs') : w.cell? ⟨w0.heap.size + 1, 0, none⟩ = some (.int .i64 k') ∧ w.cell? ⟨w0.heap.size + 1, 1, none⟩ = some (.int .i64 l') ∧ w.cell? ⟨w0.heap.size + 1, 2, none⟩ = some (.int .i64 s') ∧ w.cell? ⟨w0.heap.size + 1, 3, none⟩ = some (.slice A' n' c') ∧ (∀ i, w.frozen? ⟨w0.heap.size + 1, i, none⟩ = false) := ⟨h.b1.cell 0, h.b1.cell 1, h.b1.cell 2, h.b1.cell 3, h.b1.frozen⟩
theorem reads_take {B : Nat} {m : Nat} (h : Reads w B 1 A n (zs.map (Value.int .i64))) (hn : zs.length = n) (hm : m ≤ n) : Reads w B 1 A m ((zs.take m).map (Value.int .i64)) := by
  refine ⟨by simp; omega, fun h0 => ?_⟩
  obtain ⟨ad, e, hb, hc⟩ := h.2 (by omega)
  refine ⟨ad, e, hb, fun i u hi => hc i u ?_⟩
  rw [List.map_take] at hi
  rw [List.getElem?_take] at hi
  split at hi
  · exact hi
  · cases hi
theorem TwoI.set0 (h : TwoI w0 w k l s A n c zs k' l' s' A' n' c' zs') {m : Nat} (hn : zs.length = n) (hm : m ≤ n) :
    TwoI w0 ((((w.setCell ⟨w0.heap.size, 0, none⟩ (.int .i64 k)).setCell ⟨w0.heap.size, 1, none⟩ (.int .i64 l)).setCell ⟨w0.heap.size, 2, none⟩ (.int .i64 s)).setCell ⟨w0.heap.size, 3, none⟩ (.slice A m c)) k l s A m c (zs.take m) k' l' s' A' n' c' zs' := by
  obtain ⟨h1, h2⟩ := st4 h.b0 (.int .i64 k) (.int .i64 l) (.int .i64 s) (.slice A m c)
  have hb : Below w0.heap.size w0 _ := (h2.below (B := w0) h.be (fun k e => by simp [FG] at e; omega))
  have hbe : Below w0.heap.size w ((((w.setCell ⟨w0.heap.size, 0, none⟩ (.int .i64 k)).setCell ⟨w0.heap.size, 1, none⟩ (.int .i64 l)).setCell ⟨w0.heap.size, 2, none⟩ (.int .i64 s)).setCell ⟨w0.heap.size, 3, none⟩ (.slice A m c)) := ⟨h2.os, h2.tape, h2.output, h2.size, fun j hj => h2.block j (by have := h.be.size; omega) (by simp [FG]; omega)⟩
  exact ⟨h1, h2.blk h.b1 (by simp [FG]), reads_take (h.r0.below hbe) hn hm, h.r1.below hbe, hb⟩
theorem TwoI.set1 (h : TwoI w0 w k l s A n c zs k' l' s' A' n' c' zs') {m : Nat} (hn : zs'.length = n') (hm : m ≤ n') :
    TwoI w0 ((((w.setCell ⟨w0.heap.size + 1, 0, none⟩ (.int .i64 k')).setCell ⟨w0.heap.size + 1, 1, none⟩ (.int .i64 l')).setCell ⟨w0.heap.size + 1, 2, none⟩ (.int .i64 s')).setCell ⟨w0.heap.size + 1, 3, none⟩ (.slice A' m c')) k l s A n c zs k' l' s' A' m c' (zs'.take m) := by
  obtain ⟨h1, h2⟩ := st4 h.b1 (.int .i64 k') (.int .i64 l') (.int .i64 s') (.slice A' m c')
  have hb : Below w0.heap.size w0 _ := (h2.below (B := w0) h.be (fun k e => by simp [FG] at e; omega))
  have hbe : Below w0.heap.size w ((((w.setCell ⟨w0.heap.size + 1, 0, none⟩ (.int .i64 k')).setCell ⟨w0.heap.size + 1, 1, none⟩ (.int .i64 l')).setCell ⟨w0.heap.size + 1, 2, none⟩ (.int .i64 s')).setCell ⟨w0.heap.size + 1, 3, none⟩ (.slice A' m c')) := ⟨h2.os, h2.tape, h2.output, h2.size, fun j hj => h2.block j (by have := h.be.size; omega) (by simp [FG]; omega)⟩
  exact ⟨h2.blk h.b0 (by simp [FG]), h1, h.r0.below hbe, reads_take (h.r1.below hbe) hn hm, hb⟩
end
set_option maxRecDepth 100000 in
set_option maxHeartbeats 2000000 in
theorem law_one (k l s : Int) (A : Option Addr) (n c : Nat) (zs : List Int) (k' l' s' : Int) (A' : Option Addr) (n' c' : Nat) (zs' : List Int) (w : World)
    (hs0 : -9223372036854775808 ≤ s) (hs1 : s ≤ 9223372036854775807) (hs0' : -9223372036854775808 ≤ s') (hs1' : s' ≤ 9223372036854775807) (hn : zs.length = n) (hn' : zs'.length = n') (hc : n ≤ c) (hc' : n' ≤ c')
    (hr : Reads w w.heap.size 1 A n (zs.map (Value.int .i64))) (hr' : Reads w w.heap.size 1 A' n' (zs'.map (Value.int .i64))) :
    Calls Try.prog 7 #[.agg #[.int .i64 k, .int .i64 l, .int .i64 s, .slice A n c], .agg #[.int .i64 k', .int .i64 l', .int .i64 s', .slice A' n' c']] w fun e w' => e = .returned (.bool true) ∧ Below w.heap.size w w' := by
  have hbe : Below w.heap.size w ((w.alloc (.cells #[.int .i64 k, .int .i64 l, .int .i64 s, .slice A n c] 37)).alloc (.cells #[.int .i64 k', .int .i64 l', .int .i64 s', .slice A' n' c'] 37)) := ((Below.refl _ w).alloc (Nat.le_refl _) _).alloc (by simp) _
  have T0 : TwoI w ((w.alloc (.cells #[.int .i64 k, .int .i64 l, .int .i64 s, .slice A n c] 37)).alloc (.cells #[.int .i64 k', .int .i64 l', .int .i64 s', .slice A' n' c'] 37)) k l s A n c zs k' l' s' A' n' c' zs' := by
    refine ⟨(Blk.new _ _ _).alloc _, ?_, hr.below hbe, hr'.below hbe, hbe⟩
    have := Blk.new (w.alloc (.cells #[.int .i64 k, .int .i64 l, .int .i64 s, .slice A n c] 37)) 37 #[.int .i64 k', .int .i64 l', .int .i64 s', .slice A' n' c']
    simpa using this
  clear hbe hr hr'
  go_enter Try.func7, Try.ntmps7
  go_wp2_with fail
  refine (awake_any _).mono ?_
  rintro e w1 ⟨rfl, b1⟩
  have T1 := T0.low b1
  clear b1 T0
  obtain ⟨p0, p1, p2, p3, pf⟩ := T1.c0
  go_wp2_with fail
  refine (small_any k l s A n c w1 hc).mono ?_
  rintro e w2 ⟨rfl, b2⟩
  have T2 := T1.low b2
  clear p0 p1 p2 p3 pf T1 b2
  obtain ⟨p0, p1, p2, p3, pf⟩ := T2.c0
  have f0 := pf 0; have f1 := pf 1; have f2 := pf 2; have f3 := pf 3
  have T3 := T2.set0 (m := min n 20) hn (Nat.min_le_left _ _)
  clear T2 pf
  go_upto_region 3 with (fail)
  clear p0 p1 p2 p3 f0 f1 f2 f3
  generalize (((w2.setCell ⟨w.heap.size, 0, none⟩ (.int .i64 k)).setCell ⟨w.heap.size, 1, none⟩ (.int .i64 l)).setCell ⟨w.heap.size, 2, none⟩ (.int .i64 s)).setCell ⟨w.heap.size, 3, none⟩ (.slice A (min n 20) c) = w3 at *
  obtain ⟨p0, p1, p2, p3, pf⟩ := T3.c1
  go_wp2_with fail
  refine (small_any k' l' s' A' n' c' w3 hc').mono ?_
  rintro e w4 ⟨rfl, b4⟩
  have T4 := T3.low b4
  clear p0 p1 p2 p3 pf T3 b4
  obtain ⟨p0, p1, p2, p3, pf⟩ := T4.c1
  have f0 := pf 0; have f1 := pf 1; have f2 := pf 2; have f3 := pf 3
  have T5 := T4.set1 (m := min n' 20) hn' (Nat.min_le_left _ _)
  clear T4 pf
  go_upto_region 4 with (fail)
  clear p0 p1 p2 p3 f0 f1 f2 f3
  generalize (((w4.setCell ⟨w.heap.size + 1, 0, none⟩ (.int .i64 k')).setCell ⟨w.heap.size + 1, 1, none⟩ (.int .i64 l')).setCell ⟨w.heap.size + 1, 2, none⟩ (.int .i64 s')).setCell ⟨w.heap.size + 1, 3, none⟩ (.slice A' (min n' 20) c') = w5 at *
  have hm : (zs.take (min n 20)).length = min n 20 := by rw [List.length_take]; omega
  have hm' : (zs'.take (min n' 20)).length = min n' 20 := by rw [List.length_take]; omega
  have hm20 : min n 20 ≤ 20 := Nat.min_le_right _ _
  have hm20' : min n' 20 ≤ 20 := Nat.min_le_right _ _
  generalize zs.take (min n 20) = ys at *
  generalize zs'.take (min n' 20) = ys' at *
  generalize min n 20 = m at *
  generalize min n' 20 = m' at *
  clear hn hn' hc hc'
  have hsz5 : w.heap.size ≤ w5.heap.size := T5.be.size
  have cB := bytes_any k l s A m c ys w5 hs0 hs1 hm (by omega) (T5.r0.more hsz5)
  obtain ⟨p0, p1, p2, p3, pf⟩ := T5.c0
  obtain ⟨S, ES, eS⟩ := pair_of (fBytes k l s ys)
  rw [eS] at cB
  dsimp only at cB
  go_wp2_with fail
  refine cB.mono ?_
  rintro e w6 ⟨rfl, b6⟩
  have T6 := T5.low b6
  clear p0 p1 p2 p3 pf cB T5 b6 hsz5
  have hsz6 : w.heap.size ≤ w6.heap.size := T6.be.size
  have cB := bytes_any k' l' s' A' m' c' ys' w6 hs0' hs1' hm' (by omega) (T6.r1.more hsz6)
  obtain ⟨p0, p1, p2, p3, pf⟩ := T6.c1
  obtain ⟨S', ES', eS'⟩ := pair_of (fBytes k' l' s' ys')
  rw [eS'] at cB
  dsimp only at cB
  go_wp2_with fail
  refine cB.mono ?_
  rintro e w7 ⟨rfl, b7⟩
  have T7 := T6.low b7
  clear p0 p1 p2 p3 pf cB T6 b7 hsz6
  have T7b := T7.be
  rcases fBytes_two k l s ys with ⟨g1, g2⟩ | ⟨g1, g2⟩
  · rw [eS] at g2
    obtain ⟨rfl, rfl⟩ := Prod.mk.inj g2
    rcases fBytes_two k' l' s' ys' with ⟨g3, g4⟩ | ⟨g3, g4⟩
    · rw [eS'] at g4
      obtain ⟨rfl, rfl⟩ := Prod.mk.inj g4
      have hinj := inoB_inj g1 g3
      have hsz := inoB_size k l s ys
      rw [hm] at hsz
      generalize inoB k l s ys = S at *
      generalize inoB k' l' s' ys' = S' at *
      have hcmp : (S.toList == S'.toList) = decide (k = k' ∧ l = l' ∧ s = s' ∧ ys = ys') := by
        by_cases e : S = S'
        · rw [decide_eq_true (hinj.1 e), e]; exact beq_list _
        · rw [decide_eq_false (fun h => e (hinj.2 h))]; exact bne_list e
      have hsm := same_any k l s k' l' s' A A' m c m' c' ys ys' w7 hm hm' (by omega) (by omega) (T7.r0.more T7b.size) (T7.r1.more T7b.size)
      generalize decide (k = k' ∧ l = l' ∧ s = s' ∧ ys = ys') = D at *
      obtain ⟨p0, p1, p2, p3, pf⟩ := T7.c0
      obtain ⟨q0, q1, q2, q3, qf⟩ := T7.c1
      have HC := Lib.hid hcmp
      clear hinj g1 g2 g3 g4 eS eS' hcmp pf qf
      go_wp2_with fail
      refine hsm.mono ?_
      rintro e w8 ⟨rfl, b8⟩
      have T8 := T7.low b8
      have hfin := T8.be
      obtain ⟨u0, u1, u2, u3, uf⟩ := T8.c0
      have hcmp := HC.out
      have HF := Lib.hid hfin
      clear hsm T7 T8 T7b p0 p1 p2 p3 q0 q1 q2 q3 uf b8 hfin
      have hDD : (D == D) = true := by simp
      go_wp2_with fail
      go_ret
      exact ⟨rfl, HF.out⟩
    · rw [eS'] at g4
      obtain ⟨rfl, rfl⟩ := Prod.mk.inj g4
      have HB := Lib.hid T7b
      clear T7 T7b g1 g2 g3 g4 eS eS'
      generalize inoB k l s ys = S at *
      go_wp2_with fail
      go_ret
      exact ⟨rfl, HB.out⟩
  · rw [eS] at g2
    obtain ⟨rfl, rfl⟩ := Prod.mk.inj g2
    rcases fBytes_two k' l' s' ys' with ⟨g3, g4⟩ | ⟨g3, g4⟩
    · rw [eS'] at g4
      obtain ⟨rfl, rfl⟩ := Prod.mk.inj g4
      have HB := Lib.hid T7b
      clear T7 T7b g1 g2 g3 g4 eS eS'
      generalize inoB k' l' s' ys' = S at *
      go_wp2_with fail
      go_ret
      exact ⟨rfl, HB.out⟩
    · rw [eS'] at g4
      obtain ⟨rfl, rfl⟩ := Prod.mk.inj g4
      have HB := Lib.hid T7b
      clear T7 T7b g1 g2 g3 g4 eS eS'
      go_wp2_with fail
      go_ret
      exact ⟨rfl, HB.out⟩
set_option maxRecDepth 100000 in
/-- an inode that came in -/
theorem open_inode {H : Type} {enc : TypeId × Value → H} {W : World} {base : Nat} {v : Value} {d : DataW H} {p : List MemPlace} (hv : Value.okWide Try.prog W .any base 37 v) (h : DataW.Trod enc Try.prog W 0 (fun _ => true) true 37 v d p) :
    ∃ (k l s : Int) (A : Option Addr) (n c : Nat) (zs : List Int), v = .agg #[.int .i64 k, .int .i64 l, .int .i64 s, .slice A n c] ∧ (-9223372036854775808 ≤ s ∧ s ≤ 9223372036854775807) ∧ zs.length = n ∧ n ≤ c ∧ Reads W W.heap.size 1 A n (zs.map (Value.int .i64)) := by
  obtain ⟨c0, c1, c2, c3, y0, y1, y2, y3, m, rfl, _, _, h0, h1, h2, h3⟩ := Go.Joins.open_agg4 Try.underlying37 (by kernel_rfl) (by kernel_rfl) hv h
  obtain ⟨k, e0, _, _⟩ := DataW.trod_int Try.underlying3 h0
  obtain ⟨l, e1, _, _⟩ := DataW.trod_int Try.underlying3 h1
  obtain ⟨s, e2, _, w2⟩ := DataW.trod_int Try.underlying3 h2
  obtain rfl : c0 = .int .i64 k := by simpa using e0
  obtain rfl : c1 = .int .i64 l := by simpa using e1
  obtain rfl : c2 = .int .i64 s := by simpa using e2
  rcases Go.ChangeShapes.open_ints Try.underlying35 Try.underlying3 (by kernel_rfl) h3 with ⟨hcs, _⟩ | ⟨a, len, cap, zs, hcs, _, hl, _, hz, _, hcell, hwz⟩
  · obtain rfl : c3 = .slice none 0 0 := by simpa using hcs
    exact ⟨k, l, s, none, 0, 0, [], rfl, wf64 w2, rfl, Nat.le_refl _, by simpa using Reads.none_⟩
  · obtain rfl : c3 = .slice (some a) len cap := by simpa using hcs
    have hlen : zs.length = cap := by simpa using hz
    refine ⟨k, l, s, some a, len, cap, zs.take len, rfl, wf64 w2, by rw [List.length_take]; omega, hl, ?_⟩
    refine ⟨by simp; omega, fun h0 => ⟨a, rfl, ?_, ?_⟩⟩
    · have := hcell 0 (by omega)
      have := World.block_lt_of_cell? _ _ this
      rwa [block_of_add] at this
    · intro i u hi
      rw [List.getElem?_map] at hi
      obtain ⟨x, hx, rfl⟩ := Option.map_eq_some_iff.1 hi
      rw [List.getElem?_take] at hx
      split at hx
      · have hi2 : i < zs.length := by
          rcases Nat.lt_or_ge i zs.length with h | h
          · exact h
          · rw [List.getElem?_eq_none h] at hx; cases hx
        rw [hcell i hi2, List.getD_eq_getElem?_getD, hx]; rfl
      · cases hx
end Go.Proofs.Ytepmgcgpioljiaa
