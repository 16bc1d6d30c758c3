import Derived.Test.YtepmgcgpioljiaaInO
import Derived.Deep.RegionLaw
import Derived.Deep.AppendLies
namespace Go.Proofs.Ytepmgcgpioljiaa
open Go.RowKit
set_option linter.unusedVariables false
attribute [local go_sem] b_max2 b_min2 b_max b_min

/-! ### reading an inode -/
/-- numbers of four bytes, so many at most, as long as something is left -/
def rdTo (r0 : RD) : Nat → List Int × RD
  | 0 => ([], r0)
  | i + 1 => if rdLeft (rdTo r0 i).2 = 0 then rdTo r0 i else ((rdTo r0 i).1 ++ [((rdNum 4 (rdTo r0 i).2).1 : Int)], (rdNum 4 (rdTo r0 i).2).2)
theorem rdTo_stop (r0 : RD) (i : Nat) (h : rdLeft (rdTo r0 i).2 = 0) : ∀ k, i ≤ k → rdTo r0 k = rdTo r0 i := by
  intro k hk
  induction k with
  | zero => rw [show i = 0 by omega]
  | succ k ih =>
    by_cases e : i = k + 1
    · rw [e]
    · have h1 := ih (by omega)
      rw [rdTo, h1, if_pos h]
theorem rdTo_step (r0 : RD) (i : Nat) (h : rdLeft (rdTo r0 i).2 ≠ 0) : rdTo r0 (i + 1) = ((rdTo r0 i).1 ++ [((rdNum 4 (rdTo r0 i).2).1 : Int)], (rdNum 4 (rdTo r0 i).2).2) := by rw [rdTo, if_neg h]
theorem rdTo_len (r0 : RD) (i : Nat) : (rdTo r0 i).1.length ≤ i := by
  induction i with
  | zero => exact Nat.le_refl _
  | succ i ih =>
    rw [rdTo]
    split
    · omega
    · simp; omega
def rdIno (r0 : RD) : (Int × Int × Int × List Int) × Int :=
  let a := rdNum 2 r0; let b := rdNum 2 a.2; let c := rdNum 4 b.2; let d := rdTo c.2 13
  if rdEnd d.2 ≠ 0 ∨ fCheck a.1 b.1 c.1 d.1 ≠ 0 then ((0, 0, 0, []), 10) else ((a.1, b.1, c.1, d.1), 0)
/-- the inode that bytes are -/
def fRead (s : ByteArray) : (Int × Int × Int × List Int) × Int :=
  if s.size < 4 ∨ s.extract 0 4 ≠ markB then ((0, 0, 0, []), 10) else rdIno (s.extract 4 s.size, false)
theorem rdNum_lt (k : Nat) (r : RD) : (rdNum k r).1 < 256 ^ k := by unfold rdNum; split; exact Nat.pow_pos (by omega); exact valB_lt _ k
theorem rdNum2_lt (r : RD) : (rdNum 2 r).1 < 65536 := rdNum_lt 2 r
theorem rdNum4_lt (r : RD) : (rdNum 4 r).1 < 4294967296 := rdNum_lt 4 r
theorem int_info : (Try.prog.info? 3).map (fun i => (i.zero, i.size, i.bytes)) = some (some (.int .i64 0), 1, 8) := by kernel_rfl
/-- an inode as a value -/
def InoV (w : World) (v : Value) (x : Int × Int × Int × List Int) : Prop := ∃ A n c, v = .agg #[.int .i64 x.1, .int .i64 x.2.1, .int .i64 x.2.2.1, .slice A n c] ∧ x.2.2.2.length = n ∧ n ≤ c ∧ Reads w w.heap.size 1 A n (x.2.2.2.map (Value.int .i64))
theorem InoV.zero (w : World) : InoV w (.agg #[.int .i64 0, .int .i64 0, .int .i64 0, .slice none 0 0]) (0, 0, 0, []) := ⟨none, 0, 0, rfl, rfl, Nat.le_refl _, by simpa using Reads.none_⟩
/-- what the loop that reads numbers keeps: the result's cell, the reader at q, the inode at b -/
structure RdL (q b : Nat) (k l z : Int) (w0 w : World) (v : Value) (zs : List Int) : Prop where
  b0 : Blk w w0.heap.size 37 #[.int .i64 0, .int .i64 0, .int .i64 0, .slice none 0 0]
  b2 : Blk w b 37 #[.int .i64 k, .int .i64 l, .int .i64 z, v]
  ow : w.ownsRow (b + 1) 3 1 v zs.length (zs.map (Value.int .i64))
  be : Below w0.heap.size w0 w
  h1 : w0.heap.size < q
  h2 : q < b
section
variable {q b : Nat} {k l z : Int} {w0 w w1 : World} {v : Value} {zs : List Int}
theorem RdL.fr (h : RdL q b k l z w0 w v zs) (hf : Fr (FG q) w w1) : RdL q b k l z w0 w1 v zs := by
  have h1 := h.h1; have h2 := h.h2
  exact ⟨hf.blk h.b0 (by simp [FG]; omega), hf.blk h.b2 (by simp [FG]; omega), hf.own h.ow (fun j hj e => by have := (h.ow.lt j hj).1; simp [FG] at e; omega), hf.below h.be (fun k e => by simp [FG] at e; omega), h1, h2⟩
theorem RdL.drewN (h : RdL q b k l z w0 w v zs) (m : Nat) : RdL q b k l z w0 (w.drewN m) v zs := h.fr (Fr.drewN _ _ m)
theorem RdL.alloc (h : RdL q b k l z w0 w v zs) (o : Obj) : RdL q b k l z w0 (w.alloc o) v zs := h.fr (Fr.alloc _ _ o)
theorem RdL.st (h : RdL q b k l z w0 w v zs) (i : Nat) (u : Value) {k' l' z' : Int} (he : (#[.int .i64 k, .int .i64 l, .int .i64 z, v] : Array Value).setIfInBounds i u = #[.int .i64 k', .int .i64 l', .int .i64 z', v]) : RdL q b k' l' z' w0 (w.setCell ⟨b, i, none⟩ u) v zs := by
  have h1 := h.h1; have h2 := h.h2
  have hf : Fr (FG b) w (w.setCell ⟨b, i, none⟩ u) := Fr.setCell _ _ _ _ rfl
  exact ⟨hf.blk h.b0 (by simp [FG]; omega), by rw [← he]; exact h.b2.set_ i u, hf.own h.ow (fun j hj e => by have := (h.ow.lt j hj).1; simp [FG] at e; omega), hf.below h.be (fun k e => by simp [FG] at e; omega), h1, h2⟩
/-- behind the append and the store -/
theorem RdL.push (h : RdL q b k l z w0 w v zs) {x : Int} {v' : Value} (hown : w1.ownsRow (b + 1) 3 1 v' (zs.length + 1) (zs.map (Value.int .i64) ++ [.int .i64 x])) (hg : w.grownBy w1 v.ownBlock) :
    w1.frozen? ⟨b, 3, none⟩ = false ∧ w1.cell? ⟨b, 3, none⟩ = some v ∧ RdL q b k l z w0 (w1.setCell ⟨b, 3, none⟩ v') v' (zs ++ [x]) ∧ ∃ F, Fr F w (w1.setCell ⟨b, 3, none⟩ v') ∧ ¬ F q := by
  have h1 := h.h1; have h2 := h.h2
  have hne : ∀ j, v.ownBlock = some j → b + 1 ≤ j := fun j hj => (h.ow.lt j hj).1
  have b2 := h.b2.grown hg (fun e => by have := hne _ e.symm; omega)
  have b0 := h.b0.grown hg (fun e => by have := hne _ e.symm; omega)
  refine ⟨b2.frozen 3, b2.cell 3, ⟨?_, ?_, ?_, ?_, h1, h2⟩, ?_⟩
  · exact b0.far (by simp; omega) _
  · exact b2.set_ 3 v'
  · rw [List.length_append, List.map_append]
    exact (Fr.setCell (F := FG b) w1 _ 3 v' rfl).own hown (fun j hj e => by have := (hown.lt j hj).1; simp [FG] at e; omega)
  · exact (Fr.setCell (F := FG b) w1 _ 3 v' rfl).below (h.be.grown hg h.be.size (fun j hj => by have := hne j hj; omega)) (fun j e => by simp [FG] at e; omega)
  · refine ⟨fun j => v.ownBlock = some j ∨ j = b, ((Fr.of_grown hg).mono (fun k e _ => .inl e)).trans (Fr.setCell w1 b 3 v' (.inr rfl)), ?_⟩
    rintro (e | e)
    · have := hne _ e; omega
    · omega
theorem IsQ.fr {r : RD} {F : Nat → Prop} (h : IsQ w q r) (hf : Fr F w w1) (hq : ¬ F q) : IsQ w1 q r := by
  obtain ⟨S, At, h1, h2⟩ := h.x
  exact ⟨⟨S, At, hf.blk h1 hq, h2⟩⟩
theorem IsP.fr {r : RD} {F : Nat → Prop} (h : IsP w q r) (hf : Fr F w w1) (hq : ¬ F q) : IsP w1 q r := hf.blk h hq
end
theorem st4 {w : World} {g : Nat} {t : TypeId} {a b c d : Value} (h : Blk w g t #[a, b, c, d]) (x y z u : Value) :
    Blk ((((w.setCell ⟨g, 0, none⟩ x).setCell ⟨g, 1, none⟩ y).setCell ⟨g, 2, none⟩ z).setCell ⟨g, 3, none⟩ u) g t #[x, y, z, u] ∧ Fr (FG g) w ((((w.setCell ⟨g, 0, none⟩ x).setCell ⟨g, 1, none⟩ y).setCell ⟨g, 2, none⟩ z).setCell ⟨g, 3, none⟩ u) :=
  ⟨(((h.set_ 0 x).set_ 1 y).set_ 2 z).set_ 3 u, (((Fr.setCell (F := FG g) w g 0 x rfl).trans (Fr.setCell (F := FG g) _ g 1 y rfl)).trans (Fr.setCell (F := FG g) _ g 2 z rfl)).trans (Fr.setCell (F := FG g) _ g 3 u rfl)⟩
theorem pair_of {α β : Type} (x : α × β) : ∃ a b, x = (a, b) := ⟨x.1, x.2, rfl⟩
theorem mark_list : markB.toList = [76, 71, 73, 49] := by rw [ByteArray.toList_eq]; rfl
theorem rdInv (r : RD) (h : rdLeft r ≠ 0) : 0 < rdLeft r := Nat.pos_of_ne_zero h
set_option maxRecDepth 100000 in
set_option maxHeartbeats 1000000 in
theorem rread_any (s : ByteArray) (w : World) (hs : s.size ≤ 100000) :
    Calls Try.prog 20 #[.string s] w fun e w' => ∃ v, e = .returned (.tuple #[v, .int .i64 (fRead s).2]) ∧ InoV w' v (fRead s).1 ∧ Below w.heap.size w w' := by
  have hbe : Below w.heap.size w (w.alloc (.cells #[.int .i64 0, .int .i64 0, .int .i64 0, .slice none 0 0] 37)) := (Below.refl _ w).alloc (Nat.le_refl _) _
  by_cases h4 : s.size < 4
  · have hf : fRead s = ((0, 0, 0, []), 10) := if_pos (.inl h4)
    rw [hf]
    clear hf
    go_enter Try.func20, Try.ntmps20
    go_wp2_with fail
    go_returns
    exact ⟨_, rfl, InoV.zero _, hbe⟩
  · have h4i : (4 : Int) ≤ (s.size : Int) := by omega
    by_cases hm : s.extract 0 4 = markB
    · have hf : fRead s = rdIno (s.extract 4 s.size, false) := if_neg (by rintro (h | h); exact h4 h; exact h hm)
      rw [hf]
      have hne : ((s.extract 0 4).toList == [76, 71, 73, 49]) = true := by rw [hm, mark_list]; rfl
      have hsz : (s.extract 4 s.size).size ≤ 100000 := by rw [ByteArray.size_extract]; omega
      clear hf hm
      have hsx : s.size ≤ 100000 := hs
      generalize hex : s.extract 4 s.size = x
      rw [hex] at hsz
      have HEX := Lib.hid hex; clear hex
      have hQ : IsQ ((w.alloc (.cells #[.int .i64 0, .int .i64 0, .int .i64 0, .slice none 0 0] 37)).alloc (.cells #[.string x, .int .i64 0, .bool false] 60)) (w.heap.size + 1) (x, false) := by
        refine ⟨⟨x, 0, ?_, by omega, (ext_all x (Nat.le_refl _)).symm, hsz⟩⟩
        have := Blk.new (w.alloc (.cells #[.int .i64 0, .int .i64 0, .int .i64 0, .slice none 0 0] 37)) 60 #[.string x, .int .i64 0, .bool false]
        simpa using this
      have hb0 : Blk ((w.alloc (.cells #[.int .i64 0, .int .i64 0, .int .i64 0, .slice none 0 0] 37)).alloc (.cells #[.string x, .int .i64 0, .bool false] 60)) w.heap.size 37 #[.int .i64 0, .int .i64 0, .int .i64 0, .slice none 0 0] := (Blk.new _ _ _).alloc _
      have hb2 : Below w.heap.size w ((w.alloc (.cells #[.int .i64 0, .int .i64 0, .int .i64 0, .slice none 0 0] 37)).alloc (.cells #[.string x, .int .i64 0, .bool false] 60)) := hbe.alloc (by simp) _
      clear hbe
      generalize hr0 : ((x, false) : RD) = r0 at *
      have hq1 := qTwo_any hQ
      have x1 := rdNum2_lt r0
      obtain ⟨a1, r1, e1⟩  := pair_of (rdNum 2 r0)
      obtain ⟨a2, r2, e2⟩  := pair_of (rdNum 2 r1)
      obtain ⟨a3, r3, e3⟩  := pair_of (rdNum 4 r2)
      obtain ⟨zs, r4, e4⟩  := pair_of (rdTo r3 13)
      have hres : rdIno r0 = if rdEnd r4 ≠ 0 ∨ fCheck a1 a2 a3 zs ≠ 0 then ((0, 0, 0, []), 10) else (((a1 : Int), (a2 : Int), (a3 : Int), zs), 0) := by
        unfold rdIno; rw [e1]; dsimp only; rw [e2]; dsimp only; rw [e3]; dsimp only; rw [e4]
      have x2 := rdNum2_lt r1
      have x3 := rdNum4_lt r2
      rw [e1] at x1 hq1; rw [e2] at x2; rw [e3] at x3
      dsimp only at x1 x2 x3 hq1
      generalize hX : rdIno r0 = X
      have HX := Lib.hid (hX.symm.trans hres); clear hX
      obtain ⟨N, hN⟩ : ∃ N, N = 13 := ⟨_, rfl⟩
      rw [← hN] at e4
      have HN := Lib.hid hN; clear hN
      have E2 := Lib.hid e2; have E3 := Lib.hid e3; have E4 := Lib.hid e4; clear e1 e2 e3 e4 hres hQ hr0
      go_enter Try.func20, Try.ntmps20
      go_wp2_with fail
      rw [HEX.out]
      refine hq1.mono ?_
      rintro e w1 ⟨rfl, hQ1, hF1, hS1⟩
      have hs1 : w1.heap.size = w.heap.size + 2 := by rw [hS1]; simp
      have L1 : RdL (w.heap.size + 1) (w.heap.size + 2) a1 0 0 w (w1.alloc (.cells #[.int .i64 a1, .int .i64 0, .int .i64 0, .slice none 0 0] 37)) (.slice none 0 0) [] :=
        ⟨(hF1.blk hb0 (by simp [FG])).alloc _, by rw [← hs1]; exact Blk.new _ _ _, World.ownsRow_nil _ _ _ _, (hF1.below hb2 (fun k e => by simp [FG] at e; omega)).alloc (by omega) _, by omega, by omega⟩
      have hQ2 := hQ1.fr (Fr.alloc (fun _ => False) w1 (.cells #[.int .i64 a1, .int .i64 0, .int .i64 0, .slice none 0 0] 37)) (by simp)
      clear hb0 hb2 hq1 hF1 hS1 hQ1
      have hq2 := qTwo_any hQ2
      rw [E2.out] at hq2
      dsimp only at hq2
      go_wp2_with fail
      refine hq2.mono ?_
      rintro e w3 ⟨rfl, hQ3, hF3, hS3⟩
      have L3 := L1.fr hF3
      clear hq2 hQ2 L1
      have L4 := L3.st 1 (.int .i64 a2) rfl
      have c1 : w3.cell? ⟨(w.heap.size + 2), 1, none⟩ = some _ := L3.b2.cell 1
      have f1 := L3.b2.frozen 1
      have hQ4 := hQ3.fr (Fr.setCell (F := FG (w.heap.size + 2)) w3 (w.heap.size + 2) 1 (.int .i64 a2) rfl) (by simp [FG])
      have hq4 := qFour_any hQ4
      rw [E3.out] at hq4
      dsimp only at hq4
      have HL4 := Lib.hid L4; clear L4 hQ4 hQ3 hF3 hS3 L3
      go_wp2_with fail
      refine hq4.mono ?_
      rintro e w5 ⟨rfl, hQ5, hF5, hS5⟩
      have L5 := HL4.out.fr hF5
      have L6 := L5.st 2 (.int .i64 a3) rfl
      have c2 : w5.cell? ⟨(w.heap.size + 2), 2, none⟩ = some _ := L5.b2.cell 2
      have f2 := L5.b2.frozen 2
      have hQ6 := hQ5.fr (Fr.setCell (F := FG (w.heap.size + 2)) w5 (w.heap.size + 2) 2 (.int .i64 a3) rfl) (by simp [FG])
      clear hq4 HL4 hQ5 hF5 hS5 L5 c1 f1
      go_upto_block 0 with (fail)
      clear c2 f2 hs1
      generalize w5.setCell ⟨w.heap.size + 2, 2, none⟩ (.int .i64 a3) = w6 at *
      obtain ⟨i0, hinf, hz0, hz1, hz2⟩ := info_parts int_info
      clear hsz hs hsx h4 h4i hne HEX E2 E3
      go_cut [6] (fun _ w' => ∃ v, RdL (w.heap.size + 1) (w.heap.size + 2) a1 a2 a3 w w' v zs ∧ IsQ w' (w.heap.size + 1) r4)
      case first =>
        go_wp2_with fail
        go_loopw [6] (fun p wr => ∃ (i : Nat) (v : Value), p = .int .i64 i ∧ i ≤ 13 ∧ (rdTo r3 i).1.length = i ∧ RdL (w.heap.size + 1) (w.heap.size + 2) a1 a2 a3 w wr v (rdTo r3 i).1 ∧ IsQ wr (w.heap.size + 1) (rdTo r3 i).2) (fun p _ => 13 - (intOf p).toNat)
        case atStart => exact ⟨0, _, rfl, by omega, rfl, L6, hQ6⟩
        case round =>
          clear L6 hQ6
          obtain ⟨i, v, rfl, hi, hln, hL, hQ⟩ := hrel
          by_cases hlt : i < 13
          · have hd13 : decide ((i : Int) < 13) = true := by rw [decide_eq_true_eq]; omega
            have hcl := qLeft_any hQ
            by_cases h0 : rdLeft (rdTo r3 i).2 = 0
            · have hfz : (rdTo r3 i).1 = zs ∧ (rdTo r3 i).2 = r4 := by
                have := rdTo_stop r3 i h0 N (by have := HN.out; omega)
                rw [E4.out] at this
                rw [← this]; exact ⟨rfl, rfl⟩
              rw [h0] at hcl
              rw [hfz.1] at hL; rw [hfz.2] at hQ hcl
              clear hln
              have HZ := Lib.hid hfz; clear hfz h0
              go_wp2_with fail
              refine hcl.mono ?_
              rintro e w7 ⟨rfl, hQ7, hb7⟩
              have L7 := hL.fr (Fr.of_below hb7 _)
              clear hcl hL hQ
              go_wp2_with fail
              go_meet
              exact ⟨v, L7, hQ7⟩
            · have hst := rdTo_step r3 i h0
              obtain ⟨A, cc, e0, _, _⟩ := Reads.of_own hL.ow
              rw [hln] at e0
              have hp := Nat.pos_of_ne_zero h0
              have x4 := rdNum4_lt (rdTo r3 i).2
              generalize hR : rdTo r3 i = R at *
              obtain ⟨zs1, r5⟩ := R
              obtain ⟨a5, r6, e6⟩ := pair_of (rdNum 4 r5)
              dsimp only at *
              rw [e6] at hst x4
              dsimp only at hst x4
              subst e0
              generalize rdLeft r5 = lft at *
              have HST := Lib.hid hst
              have E6 := Lib.hid e6; clear e6 h0 hR hst
              go_wp2_with fail
              refine hcl.mono ?_
              rintro e w7 ⟨rfl, hQ7, hb7⟩
              have L7 := (hL.fr (Fr.of_below hb7 _)).drewN 1
              have hf := qFour_any (hQ7.fr (Fr.drewN (fun _ => False) w7 1) (by simp))
              rw [E6.out] at hf
              dsimp only at hf
              have c7 : w7.cell? ⟨w.heap.size + 2, 3, none⟩ = some (.slice A i cc) := L7.b2.cell 3
              clear hcl hL hQ hb7 hQ7
              go_wp2_with fail
              go_region_law (first
                | (refine step_append_any _ rfl (.tmp 39) (.tmp 42) 35 rfl (w.heap.size + 2 + 1) 3 i0 _ 1 8 Try.underlying35 hinf hz0 hz1 hz2 rfl (by decide) (.slice A i cc) _ _ (by simp [Act.eval]) (by exact HO.out) (w8.heap.size + 1) (some ⟨w8.heap.size, 0, none⟩) 1 1 [.int .i64 a5] (by simp [Act.eval]) (Reads.new w8 #[.int .i64 a5] 3 1 rfl rfl) (by simp [Value.oneCell']) (by simp only [maxLen]; omega) (by omega) (by have := L9.out.be.size; simp at this; have := L9.out.b2.lt; simp at this ⊢; omega) ?_; intro v' w10 hown' hgrow hob; obtain ⟨f10, c10, L10, F10, hF10, hn10⟩ := L9.out.push (x := a5) (v' := v') (by rw [hln]; exact hown') hgrow; have HL10 := Lib.hid (And.intro L10 ((HQ9.out).fr hF10 hn10)); obtain ⟨A', c', rfl, _, _⟩ := Reads.of_own hown'; clear L10 hF10 hown' hgrow hob)
                | (go_simp; go_at_call 34; refine hf.mono ?_; rintro e w8 ⟨rfl, hQ8, hF8, hS8⟩; have L8 := L7.fr hF8; have c8 : w8.cell? ⟨w.heap.size + 2, 3, none⟩ = some (.slice A i cc) := L8.b2.cell 3; have L9 := Lib.hid (L8.alloc (.cells #[.int .i64 a5] 3)); have HQ9 := Lib.hid (hQ8.fr (Fr.alloc (fun _ => False) w8 (.cells #[.int .i64 a5] 3)) (by simp)); have HO : Hid ((w8.alloc (.cells #[.int .i64 a5] 3)).ownsRow (w.heap.size + 2 + 1) 3 1 (.slice A i cc) i (zs1.map (Value.int .i64))) := Lib.hid (by have := L9.out.ow; rw [hln] at this; exact this); have l8 := L8.b2.lt; clear L8 hQ8 hF8 hS8))
              all_goals
                go_wp2_with fail
                go_roundw
                case rel => exact ⟨i + 1, _, vint (by omega), by omega, by rw [HST.out]; simp; omega, by rw [HST.out]; exact HL10.out.1, by rw [HST.out]; exact HL10.out.2⟩
                case measure => simp [intOf]; omega
          · obtain rfl : i = 13 := by omega
            have hNN := HN.out
            subst hNN
            have hfz := E4.out
            rw [hfz] at hL hQ
            clear hln hfz E4
            have hd13 : decide ((13 : Int) < 13) = false := rfl
            go_wp2_with fail
            go_meet
            exact ⟨v, hL, hQ⟩
      case rest =>
        obtain ⟨v, L7, hQ7⟩ := hcut
        have hEn := qEnd_any hQ7
        have hzl : zs.length ≤ 13 := by have := rdTo_len r3 N; rw [E4.out, HN.out] at this; exact this
        clear L6 hQ6 E4 hQ7 HN
        obtain ⟨A, cc, e0, hcc, hR7⟩ := Reads.of_own L7.ow
        subst e0
        by_cases hX0 : rdEnd r4 = 0
        · rw [hX0] at hEn
          have hXX : X = if fCheck a1 a2 a3 zs = 0 then (((a1 : Int), (a2 : Int), (a3 : Int), zs), 0) else ((0, 0, 0, []), 10) := by
            rw [HX.out, hX0]
            by_cases h : fCheck a1 a2 a3 zs = 0
            · rw [if_neg (by rintro (e | e); exact e rfl; exact e h), if_pos h]
            · rw [if_pos (.inr h), if_neg h]
          have HXX := Lib.hid hXX; clear HX hX0 hXX
          go_wp2_with fail
          refine hEn.mono ?_
          rintro e w8 ⟨rfl, _, hb8⟩
          have L8 := L7.fr (Fr.of_below hb8 _)
          have cz : w8.cell? ⟨w.heap.size + 2, 0, none⟩ = some (.int .i64 a1) := L8.b2.cell 0
          have cz1 : w8.cell? ⟨w.heap.size + 2, 1, none⟩ = some (.int .i64 a2) := L8.b2.cell 1
          have cz2 : w8.cell? ⟨w.heap.size + 2, 2, none⟩ = some (.int .i64 a3) := L8.b2.cell 2
          have cz3 : w8.cell? ⟨w.heap.size + 2, 3, none⟩ = some (.slice A zs.length cc) := L8.b2.cell 3
          have hR8 := hR7.below hb8
          have hck := rcheck_any a1 a2 a3 A zs.length cc zs w8 (by omega) (by omega) rfl (by omega) (hR8.more hb8.size)
          clear hEn L7 hR7
          go_wp2_with fail
          refine hck.mono ?_
          rintro e w10 ⟨rfl, hb10⟩
          have L10 := L8.fr (Fr.of_below hb10 _)
          have hR10 := hR8.below (hb10.mono hb8.size)
          have q0 : w10.cell? ⟨w.heap.size + 2, 0, none⟩ = some (.int .i64 a1) := L10.b2.cell 0
          have q1 : w10.cell? ⟨w.heap.size + 2, 1, none⟩ = some (.int .i64 a2) := L10.b2.cell 1
          have q2 : w10.cell? ⟨w.heap.size + 2, 2, none⟩ = some (.int .i64 a3) := L10.b2.cell 2
          have q3 : w10.cell? ⟨w.heap.size + 2, 3, none⟩ = some (.slice A zs.length cc) := L10.b2.cell 3
          have f0 := L10.b0.frozen 0
          have f1 := L10.b0.frozen 1
          have f2 := L10.b0.frozen 2
          have f3 := L10.b0.frozen 3
          have p0 : w10.cell? ⟨w.heap.size, 0, none⟩ = some (.int .i64 0) := L10.b0.cell 0
          have p1 : w10.cell? ⟨w.heap.size, 1, none⟩ = some (.int .i64 0) := L10.b0.cell 1
          have p2 : w10.cell? ⟨w.heap.size, 2, none⟩ = some (.int .i64 0) := L10.b0.cell 2
          have p3 : w10.cell? ⟨w.heap.size, 3, none⟩ = some (.slice none 0 0) := L10.b0.cell 3
          clear hck L8 hR8 cz cz1 cz2 cz3 hb8
          rcases fCheck_two a1 a2 a3 zs with h0 | h1
          · have hX1 : Hid (X = (((a1 : Int), (a2 : Int), (a3 : Int), zs), 0)) := Lib.hid (by rw [HXX.out, if_pos h0])
            rw [h0]
            obtain ⟨hB9, hF9⟩ := st4 L10.b0 (.int .i64 a1) (.int .i64 a2) (.int .i64 a3) (.slice A zs.length cc)
            have hbe9 := hF9.below L10.be (fun k e => by simp [FG] at e; omega)
            have ho9 := hF9.own L10.ow (fun j hj e => by have := (L10.ow.lt j hj).1; simp [FG] at e; omega)
            have HO9 := Lib.hid ho9; clear ho9
            clear h0 HXX
            go_wp2_with fail
            generalize (((w10.setCell ⟨w.heap.size, 0, none⟩ (.int .i64 a1)).setCell ⟨w.heap.size, 1, none⟩ (.int .i64 a2)).setCell ⟨w.heap.size, 2, none⟩ (.int .i64 a3)).setCell ⟨w.heap.size, 3, none⟩ (.slice A zs.length cc) = w9 at *
            have d0 : w9.cell? ⟨w.heap.size, 0, none⟩ = some (.int .i64 a1) := hB9.cell 0
            have d1 : w9.cell? ⟨w.heap.size, 1, none⟩ = some (.int .i64 a2) := hB9.cell 1
            have d2 : w9.cell? ⟨w.heap.size, 2, none⟩ = some (.int .i64 a3) := hB9.cell 2
            have d3 : w9.cell? ⟨w.heap.size, 3, none⟩ = some (.slice A zs.length cc) := hB9.cell 3
            (try simp only [Exit.inBlock, Exit.then])
            refine bodyPost_ret (by simp [results, Try.results20, go_sem, d0, d1, d2, d3]; try rfl) rfl ?_
            rw [hX1.out]
            obtain ⟨A', c', e9, hc9, hr9⟩ := Reads.of_own HO9.out
            cases e9
            exact ⟨_, rfl, ⟨A, zs.length, cc, rfl, rfl, hcc, hr9⟩, hbe9⟩
          · have hX1 : Hid (X = ((0, 0, 0, []), 10)) := Lib.hid (by rw [HXX.out, if_neg (by omega)])
            rw [h1]
            obtain ⟨hB9, hF9⟩ := st4 L10.b0 (.int .i64 0) (.int .i64 0) (.int .i64 0) (.slice none 0 0)
            have hbe9 := hF9.below L10.be (fun k e => by simp [FG] at e; omega)
            clear h1 HXX
            go_wp2_with fail
            generalize (((w10.setCell ⟨w.heap.size, 0, none⟩ (.int .i64 0)).setCell ⟨w.heap.size, 1, none⟩ (.int .i64 0)).setCell ⟨w.heap.size, 2, none⟩ (.int .i64 0)).setCell ⟨w.heap.size, 3, none⟩ (.slice none 0 0) = w9 at *
            have d0 : w9.cell? ⟨w.heap.size, 0, none⟩ = some (.int .i64 0) := hB9.cell 0
            have d1 : w9.cell? ⟨w.heap.size, 1, none⟩ = some (.int .i64 0) := hB9.cell 1
            have d2 : w9.cell? ⟨w.heap.size, 2, none⟩ = some (.int .i64 0) := hB9.cell 2
            have d3 : w9.cell? ⟨w.heap.size, 3, none⟩ = some (.slice none 0 0) := hB9.cell 3
            (try simp only [Exit.inBlock, Exit.then])
            refine bodyPost_ret (by simp [results, Try.results20, go_sem, d0, d1, d2, d3]; try rfl) rfl ?_
            rw [hX1.out]
            exact ⟨_, rfl, InoV.zero _, hbe9⟩
        · have hXX : X = ((0, 0, 0, []), 10) := by rw [HX.out]; exact if_pos (.inl hX0)
          have HXX := Lib.hid hXX
          have hne : (rdEnd r4 != 0) = true := by simpa using hX0
          clear HX hXX hX0
          generalize rdEnd r4 = en at *
          go_wp2_with fail
          refine hEn.mono ?_
          rintro e w8 ⟨rfl, _, hb8⟩
          have L8 := L7.fr (Fr.of_below hb8 _)
          have f0 := L8.b0.frozen 0
          have f1 := L8.b0.frozen 1
          have f2 := L8.b0.frozen 2
          have f3 := L8.b0.frozen 3
          have cz : w8.cell? ⟨w.heap.size, 0, none⟩ = some (.int .i64 0) := L8.b0.cell 0
          have cz1 : w8.cell? ⟨w.heap.size, 1, none⟩ = some (.int .i64 0) := L8.b0.cell 1
          have cz2 : w8.cell? ⟨w.heap.size, 2, none⟩ = some (.int .i64 0) := L8.b0.cell 2
          have cz3 : w8.cell? ⟨w.heap.size, 3, none⟩ = some (.slice none 0 0) := L8.b0.cell 3
          obtain ⟨hB9, hF9⟩ := st4 L8.b0 (.int .i64 0) (.int .i64 0) (.int .i64 0) (.slice none 0 0)
          have hbe9 := hF9.below L8.be (fun k e => by simp [FG] at e; omega)
          clear hEn L7 hb8
          go_wp2_with fail
          generalize (((w8.setCell ⟨w.heap.size, 0, none⟩ (.int .i64 0)).setCell ⟨w.heap.size, 1, none⟩ (.int .i64 0)).setCell ⟨w.heap.size, 2, none⟩ (.int .i64 0)).setCell ⟨w.heap.size, 3, none⟩ (.slice none 0 0) = w9 at *
          have d0 : w9.cell? ⟨w.heap.size, 0, none⟩ = some (.int .i64 0) := hB9.cell 0
          have d1 : w9.cell? ⟨w.heap.size, 1, none⟩ = some (.int .i64 0) := hB9.cell 1
          have d2 : w9.cell? ⟨w.heap.size, 2, none⟩ = some (.int .i64 0) := hB9.cell 2
          have d3 : w9.cell? ⟨w.heap.size, 3, none⟩ = some (.slice none 0 0) := hB9.cell 3
          (try simp only [Exit.inBlock, Exit.then])
          refine bodyPost_ret (by simp [results, Try.results20, go_sem, d0, d1, d2, d3]; try rfl) rfl ?_
          rw [HXX.out]
          exact ⟨_, rfl, InoV.zero _, hbe9⟩
    · have hf : fRead s = ((0, 0, 0, []), 10) := if_pos (.inr hm)
      rw [hf]
      have hne := bne_list hm
      rw [mark_list] at hne
      clear hf
      go_enter Try.func20, Try.ntmps20
      go_wp2_with fail
      go_returns
      exact ⟨_, rfl, InoV.zero _, hbe⟩
end Go.Proofs.Ytepmgcgpioljiaa
