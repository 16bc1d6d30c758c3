import Derived.Test.YtepmgcgpioljiaaInT
import Derived.Deep.LoopGhost
namespace Go.Proofs.Ytepmgcgpioljiaa
open Go.RowKit
set_option linter.unusedVariables false
attribute [local go_sem] b_max2 b_min2 b_max b_min

/-! ### the program's Read -/
set_option maxRecDepth 100000 in
set_option maxHeartbeats 1000000 in
theorem read_any (s : ByteArray) (w : World) (hs : s.size ≤ 100000) :
    Calls Try.prog 19 #[.string s] w fun e w' => ∃ v, e = .returned (.tuple #[v, .int .i64 (fRead s).2]) ∧ InoV w' v (fRead s).1 ∧ Below w.heap.size w w' := by
  have hbe : Below w.heap.size w (w.alloc (.cells #[.int .i64 0, .int .i64 0, .int .i64 0, .slice none 0 0] 37)) := (Below.refl _ w).alloc (Nat.le_refl _) _
  by_cases h4 : s.size < 4
  · have hf : fRead s = ((0, 0, 0, []), 10) := if_pos (.inl h4)
    rw [hf]
    clear hf
    go_enter Try.func19, Try.ntmps19
    go_wp2_with fail
    go_returns
    exact ⟨_, rfl, InoV.zero _, hbe⟩
  · have h4i : (4 : Int) ≤ (s.size : Int) := by omega
    by_cases hm : s.extract 0 4 = markB
    · have hf : fRead s = rdIno (s.extract 4 s.size, false) := if_neg (by rintro (h | h); exact h4 h; exact h hm)
      rw [hf]
      have hne : ((s.extract 0 4).toList == [76, 71, 73, 49]) = true := by rw [hm, mark_list]; rfl
      have hsz : (s.extract 4 s.size).size ≤ 100000 := by rw [ByteArray.size_extract]; omega
      clear hf hm
      have hsx : s.size ≤ 100000 := hs
      generalize hex : s.extract 4 s.size = x
      rw [hex] at hsz
      have HEX := Lib.hid hex; clear hex
      have hrd := pRead_any x (w.alloc (.cells #[.int .i64 0, .int .i64 0, .int .i64 0, .slice none 0 0] 37))
      have hb0 : Blk (w.alloc (.cells #[.int .i64 0, .int .i64 0, .int .i64 0, .slice none 0 0] 37)) w.heap.size 37 #[.int .i64 0, .int .i64 0, .int .i64 0, .slice none 0 0] := Blk.new _ _ _
      rw [sz_alloc] at hrd
      generalize hr0 : ((x, false) : RD) = r0 at *
      have x1 := rdNum2_lt r0
      obtain ⟨a1, r1, e1⟩  := pair_of (rdNum 2 r0)
      obtain ⟨a2, r2, e2⟩  := pair_of (rdNum 2 r1)
      obtain ⟨a3, r3, e3⟩  := pair_of (rdNum 4 r2)
      obtain ⟨zs, r4, e4⟩  := pair_of (rdTo r3 13)
      have hres : rdIno r0 = if rdEnd r4 ≠ 0 ∨ fCheck a1 a2 a3 zs ≠ 0 then ((0, 0, 0, []), 10) else (((a1 : Int), (a2 : Int), (a3 : Int), zs), 0) := by
        unfold rdIno; rw [e1]; dsimp only; rw [e2]; dsimp only; rw [e3]; dsimp only; rw [e4]
      have x2 := rdNum2_lt r1
      have x3 := rdNum4_lt r2
      rw [e1] at x1; rw [e2] at x2; rw [e3] at x3
      dsimp only at x1 x2 x3
      generalize hX : rdIno r0 = X
      have HX := Lib.hid (hX.symm.trans hres); clear hX
      obtain ⟨N, hN⟩ : ∃ N, N = 13 := ⟨_, rfl⟩
      rw [← hN] at e4
      have HN := Lib.hid hN; clear hN
      have E2 := Lib.hid e2; have E3 := Lib.hid e3; have E4 := Lib.hid e4; have E1 := Lib.hid e1; clear e1 e2 e3 e4 hres hr0
      go_enter Try.func19, Try.ntmps19
      go_wp2_with fail
      rw [HEX.out]
      refine hrd.mono ?_
      rintro e wp ⟨rfl, hQ0, hbp⟩
      have hbp0 := hb0.below hbp (Nat.lt_succ_self _)
      have hbw := hbe.trans (hbp.mono (Nat.le_succ _))
      have hq1 := pTwo_any hQ0
      rw [E1.out] at hq1
      dsimp only at hq1
      have hps : w.heap.size + 1 < wp.heap.size := Blk.lt hQ0
      clear hrd hb0 hbe hbp hQ0
      go_wp2_with fail
      refine hq1.mono ?_
      rintro e w1 ⟨rfl, hQ1, hF1, hS1⟩
      have L1 : RdL (w.heap.size + 1) w1.heap.size a1 0 0 w (w1.alloc (.cells #[.int .i64 a1, .int .i64 0, .int .i64 0, .slice none 0 0] 37)) (.slice none 0 0) [] :=
        ⟨(hF1.blk hbp0 (by simp [FG])).alloc _, Blk.new _ _ _, World.ownsRow_nil _ _ _ _, (hF1.below hbw (fun k e => by simp [FG] at e; omega)).alloc (by omega) _, by omega, by omega⟩
      have hQ2 := hQ1.fr (Fr.alloc (fun _ => False) w1 (.cells #[.int .i64 a1, .int .i64 0, .int .i64 0, .slice none 0 0] 37)) (by simp)
      have hbq : w.heap.size + 1 < w1.heap.size := by omega
      have hne : w1.heap.size ≠ w.heap.size + 1 := by omega
      clear hq1 hF1 hS1 hQ1 hbp0 hbw hps
      have hq2 := pTwo_any hQ2
      rw [E2.out] at hq2
      dsimp only at hq2
      go_wp2_with fail
      refine hq2.mono ?_
      rintro e w3 ⟨rfl, hQ3, hF3, hS3⟩
      have L3 := L1.fr hF3
      clear hq2 hQ2 L1
      have L4 := L3.st 1 (.int .i64 a2) rfl
      have c1 : w3.cell? ⟨w1.heap.size, 1, none⟩ = some _ := L3.b2.cell 1
      have f1 := L3.b2.frozen 1
      have hQ4 := hQ3.fr (Fr.setCell (F := FG w1.heap.size) w3 w1.heap.size 1 (.int .i64 a2) rfl) (by simp [FG]; omega)
      have hq4 := pFour_any hQ4
      rw [E3.out] at hq4
      dsimp only at hq4
      have HL4 := Lib.hid L4; clear L4 hQ4 hQ3 hF3 hS3 L3
      go_wp2_with fail
      refine hq4.mono ?_
      rintro e w5 ⟨rfl, hQ5, hF5, hS5⟩
      have L5 := HL4.out.fr hF5
      have L6 := L5.st 2 (.int .i64 a3) rfl
      have c2 : w5.cell? ⟨w1.heap.size, 2, none⟩ = some _ := L5.b2.cell 2
      have f2 := L5.b2.frozen 2
      have hQ6 := hQ5.fr (Fr.setCell (F := FG w1.heap.size) w5 w1.heap.size 2 (.int .i64 a3) rfl) (by simp [FG]; omega)
      clear hq4 HL4 hQ5 hF5 hS5 L5 c1 f1
      go_upto_block 0 with (fail)
      clear c2 f2
      generalize w5.setCell ⟨w1.heap.size, 2, none⟩ (.int .i64 a3) = w6 at *
      obtain ⟨i0, hinf, hz0, hz1, hz2⟩ := info_parts int_info
      clear hsz hs hsx h4 h4i hne HEX E2 E3
      generalize hb : w1.heap.size = b at *
      clear hb
      go_cut [30] (fun _ w' => ∃ v, RdL (w.heap.size + 1) b a1 a2 a3 w w' v zs ∧ IsP w' (w.heap.size + 1) r4)
      case first =>
        go_wp2_with fail
        go_loopg [30] 14 (fun gk _ wr => ∃ (i : Nat) (v : Value), 13 - i < gk ∧ i ≤ 13 ∧ (rdTo r3 i).1.length = i ∧ RdL (w.heap.size + 1) b a1 a2 a3 w wr v (rdTo r3 i).1 ∧ IsP wr (w.heap.size + 1) (rdTo r3 i).2)
        case atStart => exact ⟨0, _, by omega, by omega, rfl, L6, hQ6⟩
        case round =>
          clear L6 hQ6
          obtain ⟨i, v, hgk, hi, hln, hL, hQ⟩ := hrel
          have hcl := pLeft_any hQ
          by_cases h0 : rdLeft (rdTo r3 i).2 = 0
          · have hfz : (rdTo r3 i).1 = zs ∧ (rdTo r3 i).2 = r4 := by
              have := rdTo_stop r3 i h0 N (by have := HN.out; omega)
              rw [E4.out] at this
              rw [← this]; exact ⟨rfl, rfl⟩
            rw [h0] at hcl
            rw [hfz.1] at hL; rw [hfz.2] at hQ
            clear hln
            have HZ := Lib.hid hfz; clear hfz h0
            go_wp2_with fail
            refine hcl.mono ?_
            rintro e w7 ⟨rfl, rfl⟩
            clear hcl
            go_wp2_with fail
            go_meet
            exact ⟨v, hL, hQ⟩
          · obtain ⟨A, cc, e0, _, _⟩ := Reads.of_own hL.ow
            rw [hln] at e0
            have hp := Nat.pos_of_ne_zero h0
            by_cases hlt : i < 13
            · have hst := rdTo_step r3 i h0
              have x4 := rdNum4_lt (rdTo r3 i).2
              generalize hR : rdTo r3 i = R at *
              obtain ⟨zs1, r5⟩ := R
              obtain ⟨a5, r6, e6⟩ := pair_of (rdNum 4 r5)
              dsimp only at *
              rw [e6] at hst x4
              dsimp only at hst x4
              subst e0
              generalize rdLeft r5 = lft at *
              have HST := Lib.hid hst
              have E6 := Lib.hid e6; clear e6 h0 hR hst
              have c7 : wr.cell? ⟨b, 3, none⟩ = some (.slice A i cc) := hL.b2.cell 3
              have hi12 : (i : Int) ≤ 12 := by omega
              have L7 := hL.drewN 1
              have hf := pFour_any (hQ.fr (Fr.drewN (fun _ => False) wr 1) (by simp))
              rw [E6.out] at hf
              dsimp only at hf
              have HFF := Lib.hid hf; clear hf
              go_wp2_with fail
              refine hcl.mono ?_
              rintro e w7 ⟨rfl, rfl⟩
              clear hcl hL hQ
              go_wp2_with fail
              have hf := HFF.out
              go_region_law (first
                | (refine step_append_any _ rfl (.tmp 40) (.tmp 43) 35 rfl (b + 1) 3 i0 _ 1 8 Try.underlying35 hinf hz0 hz1 hz2 rfl (by decide) (.slice A i cc) _ _ (by simp [Act.eval]) (by exact HO.out) (w8.heap.size + 1) (some ⟨w8.heap.size, 0, none⟩) 1 1 [.int .i64 a5] (by simp [Act.eval]) (Reads.new w8 #[.int .i64 a5] 3 1 rfl rfl) (by simp [Value.oneCell']) (by simp only [maxLen]; omega) (by omega) (by have := L9.out.be.size; simp at this; have := L9.out.b2.lt; simp at this ⊢; omega) ?_; intro v' w10 hown' hgrow hob; obtain ⟨f10, c10, L10, F10, hF10, hn10⟩ := L9.out.push (x := a5) (v' := v') (by rw [hln]; exact hown') hgrow; have HL10 := Lib.hid (And.intro L10 ((HQ9.out).fr hF10 hn10)); obtain ⟨A', c', rfl, _, _⟩ := Reads.of_own hown'; clear L10 hF10 hown' hgrow hob)
                | (go_simp; go_at_call 29; refine hf.mono ?_; rintro e w8 ⟨rfl, hQ8, hF8, hS8⟩; have L8 := L7.fr hF8; have c8 : w8.cell? ⟨b, 3, none⟩ = some (.slice A i cc) := L8.b2.cell 3; have L9 := Lib.hid (L8.alloc (.cells #[.int .i64 a5] 3)); have HQ9 := Lib.hid (hQ8.fr (Fr.alloc (fun _ => False) w8 (.cells #[.int .i64 a5] 3)) (by simp)); have HO : Hid ((w8.alloc (.cells #[.int .i64 a5] 3)).ownsRow (b + 1) 3 1 (.slice A i cc) i (zs1.map (Value.int .i64))) := Lib.hid (by have := L9.out.ow; rw [hln] at this; exact this); have l8 := L8.b2.lt; clear L8 hQ8 hF8 hS8))
              all_goals
                go_wp2_with fail
                go_roundg (gk - 1)
                case rel => exact ⟨i + 1, _, by omega, by omega, by rw [HST.out]; simp; omega, by rw [HST.out]; exact HL10.out.1, by rw [HST.out]; exact HL10.out.2⟩
                case measure => omega
            · have hi13 : i = N := by have := HN.out; omega
              have hfz := E4.out
              rw [← hi13] at hfz
              rw [hfz] at hL hQ hcl
              have c7 : wr.cell? ⟨b, 3, none⟩ = some (.slice A i cc) := by rw [← e0]; exact hL.b2.cell 3
              have hi12 : ¬ (i : Int) ≤ 12 := by omega
              dsimp only at hcl
              rw [hfz] at hp
              dsimp only at hp
              generalize rdLeft r4 = lft at *
              clear hln hfz h0 hi13
              go_wp2_with fail
              refine hcl.mono ?_
              rintro e w7 ⟨rfl, rfl⟩
              clear hcl
              go_wp2_with fail
              go_meet
              exact ⟨v, hL, hQ⟩
      case rest =>
        obtain ⟨v, L7, hQ7⟩ := hcut
        have hEn := pEnd_any hQ7
        have hzl : zs.length ≤ 13 := by have := rdTo_len r3 N; rw [E4.out, HN.out] at this; exact this
        clear L6 hQ6 E4 hQ7 HN
        obtain ⟨A, cc, e0, hcc, hR7⟩ := Reads.of_own L7.ow
        subst e0
        by_cases hX0 : rdEnd r4 = 0
        · rw [hX0] at hEn
          have hXX : X = if fCheck a1 a2 a3 zs = 0 then (((a1 : Int), (a2 : Int), (a3 : Int), zs), 0) else ((0, 0, 0, []), 10) := by
            rw [HX.out, hX0]
            by_cases h : fCheck a1 a2 a3 zs = 0
            · rw [if_neg (by rintro (e | e); exact e rfl; exact e h), if_pos h]
            · rw [if_pos (.inr h), if_neg h]
          have HXX := Lib.hid hXX; clear HX hX0 hXX
          go_wp2_with fail
          refine hEn.mono ?_
          rintro e w8 ⟨rfl, ew⟩
          have hb8 : Below wc.heap.size wc w8 := by rw [ew]; exact Below.refl _ _
          clear ew
          have L8 := L7.fr (Fr.of_below hb8 _)
          have cz : w8.cell? ⟨b, 0, none⟩ = some (.int .i64 a1) := L8.b2.cell 0
          have cz1 : w8.cell? ⟨b, 1, none⟩ = some (.int .i64 a2) := L8.b2.cell 1
          have cz2 : w8.cell? ⟨b, 2, none⟩ = some (.int .i64 a3) := L8.b2.cell 2
          have cz3 : w8.cell? ⟨b, 3, none⟩ = some (.slice A zs.length cc) := L8.b2.cell 3
          have hR8 := hR7.below hb8
          have hck := check_any a1 a2 a3 A zs.length cc zs w8 (by omega) (by omega) rfl (by omega) (hR8.more hb8.size)
          clear hEn L7 hR7
          go_wp2_with fail
          refine hck.mono ?_
          rintro e w10 ⟨rfl, hb10⟩
          have L10 := L8.fr (Fr.of_below hb10 _)
          have hR10 := hR8.below (hb10.mono hb8.size)
          have q0 : w10.cell? ⟨b, 0, none⟩ = some (.int .i64 a1) := L10.b2.cell 0
          have q1 : w10.cell? ⟨b, 1, none⟩ = some (.int .i64 a2) := L10.b2.cell 1
          have q2 : w10.cell? ⟨b, 2, none⟩ = some (.int .i64 a3) := L10.b2.cell 2
          have q3 : w10.cell? ⟨b, 3, none⟩ = some (.slice A zs.length cc) := L10.b2.cell 3
          have f0 := L10.b0.frozen 0
          have f1 := L10.b0.frozen 1
          have f2 := L10.b0.frozen 2
          have f3 := L10.b0.frozen 3
          have p0 : w10.cell? ⟨w.heap.size, 0, none⟩ = some (.int .i64 0) := L10.b0.cell 0
          have p1 : w10.cell? ⟨w.heap.size, 1, none⟩ = some (.int .i64 0) := L10.b0.cell 1
          have p2 : w10.cell? ⟨w.heap.size, 2, none⟩ = some (.int .i64 0) := L10.b0.cell 2
          have p3 : w10.cell? ⟨w.heap.size, 3, none⟩ = some (.slice none 0 0) := L10.b0.cell 3
          clear hck L8 hR8 cz cz1 cz2 cz3 hb8
          rcases fCheck_two a1 a2 a3 zs with h0 | h1
          · have hX1 : Hid (X = (((a1 : Int), (a2 : Int), (a3 : Int), zs), 0)) := Lib.hid (by rw [HXX.out, if_pos h0])
            rw [h0]
            obtain ⟨hB9, hF9⟩ := st4 L10.b0 (.int .i64 a1) (.int .i64 a2) (.int .i64 a3) (.slice A zs.length cc)
            have hbe9 := hF9.below L10.be (fun k e => by simp [FG] at e; omega)
            have ho9 := hF9.own L10.ow (fun j hj e => by have := (L10.ow.lt j hj).1; simp [FG] at e; omega)
            have HO9 := Lib.hid ho9; clear ho9
            clear h0 HXX
            go_wp2_with fail
            generalize (((w10.setCell ⟨w.heap.size, 0, none⟩ (.int .i64 a1)).setCell ⟨w.heap.size, 1, none⟩ (.int .i64 a2)).setCell ⟨w.heap.size, 2, none⟩ (.int .i64 a3)).setCell ⟨w.heap.size, 3, none⟩ (.slice A zs.length cc) = w9 at *
            have d0 : w9.cell? ⟨w.heap.size, 0, none⟩ = some (.int .i64 a1) := hB9.cell 0
            have d1 : w9.cell? ⟨w.heap.size, 1, none⟩ = some (.int .i64 a2) := hB9.cell 1
            have d2 : w9.cell? ⟨w.heap.size, 2, none⟩ = some (.int .i64 a3) := hB9.cell 2
            have d3 : w9.cell? ⟨w.heap.size, 3, none⟩ = some (.slice A zs.length cc) := hB9.cell 3
            (try simp only [Exit.inBlock, Exit.then])
            refine bodyPost_ret (by simp [results, Try.results19, go_sem, d0, d1, d2, d3]; try rfl) rfl ?_
            rw [hX1.out]
            obtain ⟨A', c', e9, hc9, hr9⟩ := Reads.of_own HO9.out
            cases e9
            exact ⟨_, rfl, ⟨A, zs.length, cc, rfl, rfl, hcc, hr9⟩, hbe9⟩
          · have hX1 : Hid (X = ((0, 0, 0, []), 10)) := Lib.hid (by rw [HXX.out, if_neg (by omega)])
            rw [h1]
            obtain ⟨hB9, hF9⟩ := st4 L10.b0 (.int .i64 0) (.int .i64 0) (.int .i64 0) (.slice none 0 0)
            have hbe9 := hF9.below L10.be (fun k e => by simp [FG] at e; omega)
            clear h1 HXX
            go_wp2_with fail
            generalize (((w10.setCell ⟨w.heap.size, 0, none⟩ (.int .i64 0)).setCell ⟨w.heap.size, 1, none⟩ (.int .i64 0)).setCell ⟨w.heap.size, 2, none⟩ (.int .i64 0)).setCell ⟨w.heap.size, 3, none⟩ (.slice none 0 0) = w9 at *
            have d0 : w9.cell? ⟨w.heap.size, 0, none⟩ = some (.int .i64 0) := hB9.cell 0
            have d1 : w9.cell? ⟨w.heap.size, 1, none⟩ = some (.int .i64 0) := hB9.cell 1
            have d2 : w9.cell? ⟨w.heap.size, 2, none⟩ = some (.int .i64 0) := hB9.cell 2
            have d3 : w9.cell? ⟨w.heap.size, 3, none⟩ = some (.slice none 0 0) := hB9.cell 3
            (try simp only [Exit.inBlock, Exit.then])
            refine bodyPost_ret (by simp [results, Try.results19, go_sem, d0, d1, d2, d3]; try rfl) rfl ?_
            rw [hX1.out]
            exact ⟨_, rfl, InoV.zero _, hbe9⟩
        · have hXX : X = ((0, 0, 0, []), 10) := by rw [HX.out]; exact if_pos (.inl hX0)
          have HXX := Lib.hid hXX
          have hne : (rdEnd r4 != 0) = true := by simpa using hX0
          clear HX hXX hX0
          generalize rdEnd r4 = en at *
          go_wp2_with fail
          refine hEn.mono ?_
          rintro e w8 ⟨rfl, ew⟩
          have hb8 : Below wc.heap.size wc w8 := by rw [ew]; exact Below.refl _ _
          clear ew
          have L8 := L7.fr (Fr.of_below hb8 _)
          have f0 := L8.b0.frozen 0
          have f1 := L8.b0.frozen 1
          have f2 := L8.b0.frozen 2
          have f3 := L8.b0.frozen 3
          have cz : w8.cell? ⟨w.heap.size, 0, none⟩ = some (.int .i64 0) := L8.b0.cell 0
          have cz1 : w8.cell? ⟨w.heap.size, 1, none⟩ = some (.int .i64 0) := L8.b0.cell 1
          have cz2 : w8.cell? ⟨w.heap.size, 2, none⟩ = some (.int .i64 0) := L8.b0.cell 2
          have cz3 : w8.cell? ⟨w.heap.size, 3, none⟩ = some (.slice none 0 0) := L8.b0.cell 3
          obtain ⟨hB9, hF9⟩ := st4 L8.b0 (.int .i64 0) (.int .i64 0) (.int .i64 0) (.slice none 0 0)
          have hbe9 := hF9.below L8.be (fun k e => by simp [FG] at e; omega)
          clear hEn L7 hb8
          go_wp2_with fail
          generalize (((w8.setCell ⟨w.heap.size, 0, none⟩ (.int .i64 0)).setCell ⟨w.heap.size, 1, none⟩ (.int .i64 0)).setCell ⟨w.heap.size, 2, none⟩ (.int .i64 0)).setCell ⟨w.heap.size, 3, none⟩ (.slice none 0 0) = w9 at *
          have d0 : w9.cell? ⟨w.heap.size, 0, none⟩ = some (.int .i64 0) := hB9.cell 0
          have d1 : w9.cell? ⟨w.heap.size, 1, none⟩ = some (.int .i64 0) := hB9.cell 1
          have d2 : w9.cell? ⟨w.heap.size, 2, none⟩ = some (.int .i64 0) := hB9.cell 2
          have d3 : w9.cell? ⟨w.heap.size, 3, none⟩ = some (.slice none 0 0) := hB9.cell 3
          (try simp only [Exit.inBlock, Exit.then])
          refine bodyPost_ret (by simp [results, Try.results19, go_sem, d0, d1, d2, d3]; try rfl) rfl ?_
          rw [HXX.out]
          exact ⟨_, rfl, InoV.zero _, hbe9⟩
    · have hf : fRead s = ((0, 0, 0, []), 10) := if_pos (.inr hm)
      rw [hf]
      have hne := bne_list hm
      rw [mark_list] at hne
      clear hf
      go_enter Try.func19, Try.ntmps19
      go_wp2_with fail
      go_returns
      exact ⟨_, rfl, InoV.zero _, hbe⟩
end Go.Proofs.Ytepmgcgpioljiaa
