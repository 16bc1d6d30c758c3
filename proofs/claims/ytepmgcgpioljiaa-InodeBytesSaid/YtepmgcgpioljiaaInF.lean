import Derived.Test.YtepmgcgpioljiaaInE
namespace Go.Proofs.Ytepmgcgpioljiaa
open Go.RowKit
set_option linter.unusedVariables false
attribute [local go_sem] b_max2 b_min2 b_max b_min

/-- a row of pieces that lie one behind the other, from a to e -/
def Chain : Nat → List (Nat × Nat × Nat) → Nat → Prop
  | a, [], e => a = e
  | a, p :: l, e => 512 * p.1 + p.2.1 = a ∧ p.2.1 < p.2.2 ∧ p.2.2 ≤ 512 ∧ p.1 ≤ 6144 ∧ Chain (512 * p.1 + p.2.2) l e
theorem Chain.append : ∀ (l m : List (Nat × Nat × Nat)) (a b e : Nat), Chain a l b → Chain b m e → Chain a (l ++ m) e := by
  intro l
  induction l with
  | nil => intro m a b e h h'; cases h; exact h'
  | cons p l ih => intro m a b e h h'; exact ⟨h.1, h.2.1, h.2.2.1, h.2.2.2.1, ih _ _ _ _ h.2.2.2.2 h'⟩
theorem pcs_chain (e : Nat) (he : e ≤ 6144) : ∀ (d a : Nat), e - a = d → a ≤ e → Chain a (pcs e a) e := by
  intro d
  induction d using Nat.strongRecOn with
  | ind d ih =>
    intro a hd ha
    by_cases h : a < e
    · rw [pcs_step h]
      refine ⟨by simp only []; omega, by simp only []; omega, by simp only []; omega, by simp only []; omega, ?_⟩
      have := ih _ (by omega) (a + (min (a % 512 + (e - a)) 512 - a % 512)) rfl (by omega)
      rw [show 512 * (a / 512) + min (a % 512 + (e - a)) 512 = a + (min (a % 512 + (e - a)) 512 - a % 512) by omega]
      exact this
    · rw [pcs_end h]; show a = e; omega
theorem pieces_chain (a e : Nat) (h : a ≤ e) (he : e ≤ 6144) : Chain a (pieces a e) e := by
  unfold pieces
  rw [show (min (e : Int) 6144).toNat = e by omega, show (min (max (a : Int) 0) 6144).toNat = a by omega]
  exact pcs_chain e he _ a rfl h

set_option maxRecDepth 100000 in
set_option maxHeartbeats 400000 in
theorem law_joins (q0 q1 q2 : Int) (w : World) (h0 : -9223372036854775808 ≤ q0) (h0' : q0 ≤ 9223372036854775807) (h1 : -9223372036854775808 ≤ q1) (h1' : q1 ≤ 9223372036854775807)
    (h2 : -9223372036854775808 ≤ q2) (h2' : q2 ≤ 9223372036854775807) :
    Calls Try.prog 5 #[.agg #[.int .i64 q0, .int .i64 q1, .int .i64 q2]] w fun e w' => e = .returned (.bool true) ∧ Below w.heap.size w w' := by
  obtain ⟨i0, hi, hz0, hz1, hz2⟩ := info_parts info27
  go_enter Try.func5, Try.ntmps5
  go_wp2_with fail
  refine (awake_any _).mono ?_
  rintro e w1 ⟨rfl, hb1⟩
  have hs1 := hb1.size
  simp only [sz_alloc] at hs1
  have hB1 : Blk w1 w.heap.size 30 #[.int .i64 q0, .int .i64 q1, .int .i64 q2] := (Blk.new w 30 _).below hb1 (by simp)
  have hbw : Below w.heap.size w w1 := ((Below.refl _ _).alloc (Nat.le_refl _) _).trans (hb1.mono (by simp))
  clear hb1
  go_wp2_with fail
  go_loopw [4] (fun p wr => ∃ (i : Int) (a b c : Int), p = .int .i64 i ∧ (0 ≤ i ∧ i ≤ 3) ∧ Blk wr w.heap.size 30 #[.int .i64 a, .int .i64 b, .int .i64 c] ∧
      -9223372036854775808 ≤ a ∧ a ≤ 9223372036854775807 ∧ -9223372036854775808 ≤ b ∧ b ≤ 9223372036854775807 ∧ -9223372036854775808 ≤ c ∧ c ≤ 9223372036854775807 ∧
      (0 < i → 0 ≤ a ∧ a ≤ 6144) ∧ (1 < i → 0 ≤ b ∧ b ≤ 6144) ∧ (2 < i → 0 ≤ c ∧ c ≤ 6144) ∧ Below w.heap.size w wr ∧ w.heap.size < wr.heap.size) (fun p _ => 3 - (intOf p).toNat)
  case atStart => exact ⟨0, q0, q1, q2, rfl, by omega, hB1, h0, h0', h1, h1', h2, h2', by omega, by omega, by omega, hbw, by omega⟩
  case round =>
    obtain ⟨i, a, b, c, rfl, hi3, hB, la, la', lb, lb', lc, lc', ha, hb, hc, hbr, hsz⟩ := hrel
    have c0 : wr.cell? ⟨w.heap.size, 0, none⟩ = some (.int .i64 a) := hB.cell 0
    have c1 : wr.cell? ⟨w.heap.size, 1, none⟩ = some (.int .i64 b) := hB.cell 1
    have c2 : wr.cell? ⟨w.heap.size, 2, none⟩ = some (.int .i64 c) := hB.cell 2
    have f0 := hB.frozen 0
    have f1 := hB.frozen 1
    have f2 := hB.frozen 2
    obtain rfl | rfl | rfl | rfl : i = 0 ∨ i = 1 ∨ i = 2 ∨ i = 3 := by omega
    · have ta1 := Int.tmod_lt_of_pos a (show (0:Int) < 6145 by omega)
      have ta2 := Int.lt_tmod_of_pos a (show (0:Int) < 6145 by omega)
      have e1 := hB.set_ 0 (.int .i64 (a.tmod 6145))
      have e2 := e1.set_ 0 (.int .i64 (-(a.tmod 6145)))
      have b1 := hbr.setCell (p := ⟨w.heap.size, 0, none⟩) (Nat.le_refl _) (.int .i64 (a.tmod 6145))
      have b2 := b1.setCell (p := ⟨w.heap.size, 0, none⟩) (Nat.le_refl _) (.int .i64 (-(a.tmod 6145)))
      have E1 := Lib.hid e1; have E2 := Lib.hid e2; have B1 := Lib.hid b1; have B2 := Lib.hid b2
      clear e1 e2 b1 b2
      go_wp2
      · go_roundw
        case rel => exact ⟨1, -(a.tmod 6145), b, c, rfl, by omega, E2.out, by omega, by omega, by omega, by omega, by omega, by omega, by omega, by omega, by omega, B2.out, by simpa using hsz⟩
        case measure => simp [intOf]
      · go_roundw
        case rel => exact ⟨1, a.tmod 6145, b, c, rfl, by omega, E1.out, by omega, by omega, by omega, by omega, by omega, by omega, by omega, by omega, by omega, B1.out, by simpa using hsz⟩
        case measure => simp [intOf]
    · have ta1 := Int.tmod_lt_of_pos b (show (0:Int) < 6145 by omega)
      have ta2 := Int.lt_tmod_of_pos b (show (0:Int) < 6145 by omega)
      have e1 := hB.set_ 1 (.int .i64 (b.tmod 6145))
      have e2 := e1.set_ 1 (.int .i64 (-(b.tmod 6145)))
      have b1 := hbr.setCell (p := ⟨w.heap.size, 1, none⟩) (Nat.le_refl _) (.int .i64 (b.tmod 6145))
      have b2 := b1.setCell (p := ⟨w.heap.size, 1, none⟩) (Nat.le_refl _) (.int .i64 (-(b.tmod 6145)))
      have E1 := Lib.hid e1; have E2 := Lib.hid e2; have B1 := Lib.hid b1; have B2 := Lib.hid b2
      clear e1 e2 b1 b2
      go_wp2
      · go_roundw
        case rel => exact ⟨2, a, -(b.tmod 6145), c, rfl, by omega, E2.out, by omega, by omega, by omega, by omega, by omega, by omega, by omega, by omega, by omega, B2.out, by simpa using hsz⟩
        case measure => simp [intOf]
      · go_roundw
        case rel => exact ⟨2, a, b.tmod 6145, c, rfl, by omega, E1.out, by omega, by omega, by omega, by omega, by omega, by omega, by omega, by omega, by omega, B1.out, by simpa using hsz⟩
        case measure => simp [intOf]
    · have ta1 := Int.tmod_lt_of_pos c (show (0:Int) < 6145 by omega)
      have ta2 := Int.lt_tmod_of_pos c (show (0:Int) < 6145 by omega)
      have e1 := hB.set_ 2 (.int .i64 (c.tmod 6145))
      have e2 := e1.set_ 2 (.int .i64 (-(c.tmod 6145)))
      have b1 := hbr.setCell (p := ⟨w.heap.size, 2, none⟩) (Nat.le_refl _) (.int .i64 (c.tmod 6145))
      have b2 := b1.setCell (p := ⟨w.heap.size, 2, none⟩) (Nat.le_refl _) (.int .i64 (-(c.tmod 6145)))
      have E1 := Lib.hid e1; have E2 := Lib.hid e2; have B1 := Lib.hid b1; have B2 := Lib.hid b2
      clear e1 e2 b1 b2
      go_wp2
      · go_roundw
        case rel => exact ⟨3, a, b, -(c.tmod 6145), rfl, by omega, E2.out, by omega, by omega, by omega, by omega, by omega, by omega, by omega, by omega, by omega, B2.out, by simpa using hsz⟩
        case measure => simp [intOf]
      · go_roundw
        case rel => exact ⟨3, a, b, c.tmod 6145, rfl, by omega, E1.out, by omega, by omega, by omega, by omega, by omega, by omega, by omega, by omega, by omega, B1.out, by simpa using hsz⟩
        case measure => simp [intOf]
    · have g0 := ha (by omega); have g1 := hb (by omega); have g2 := hc (by omega)
      obtain ⟨a0, a6⟩ := g0; obtain ⟨b0, b6⟩ := g1; obtain ⟨d0, d6⟩ := g2
      clear ha hb hc la la' lb lb' lc lc'
      go_wp2
      clear c0 c1 c2 f0 f1 f2
      obtain ⟨ws, rfl⟩ : ∃ ws : World, ws = wr := ⟨_, rfl⟩
      go_loopw [5, 6, 7] (fun p _ _ wr => ∃ (i : Nat) (a b c : Int), p = .int .i64 i ∧ i ≤ 2 ∧ Blk wr w.heap.size 30 #[.int .i64 a, .int .i64 b, .int .i64 c] ∧
        (0 ≤ a ∧ a ≤ 6144 ∧ 0 ≤ b ∧ b ≤ 6144 ∧ 0 ≤ c ∧ c ≤ 6144) ∧ (i = 0 ∨ (a ≤ c ∧ b ≤ c)) ∧ (i ≤ 1 ∨ a ≤ b) ∧ Below w.heap.size w wr ∧ w.heap.size < wr.heap.size) (fun p _ _ _ => 2 - (intOf p).toNat)
      case atStart => exact ⟨0, a, b, c, rfl, by omega, hB, by omega, by omega, by omega, hbr, hsz⟩
      case round =>
        clear hB hbr hsz a0 a6 b0 b6 d0 d6 a b c
        obtain ⟨i, a, b, c, rfl, hi3, hB, hr, hq1, hq2, hbr, hsz⟩ := hrel
        by_cases hlt : i < 2
        · have hd : decide ((i : Int) < 2) = true := by rw [decide_eq_true_eq]; omega
          go_wp2
          obtain ⟨wo, rfl⟩ : ∃ wo : World, wo = wr := ⟨_, rfl⟩
          go_loopw [6, 7] (fun p _ wr => ∃ (k : Nat) (a b c : Int), p = .int .i64 k ∧ k ≤ 2 ∧ Blk wr w.heap.size 30 #[.int .i64 a, .int .i64 b, .int .i64 c] ∧
            (0 ≤ a ∧ a ≤ 6144 ∧ 0 ≤ b ∧ b ≤ 6144 ∧ 0 ≤ c ∧ c ≤ 6144) ∧ ((i = 0 ∧ k ≤ 1) ∨ (a ≤ c ∧ b ≤ c)) ∧ ((k ≠ 1 ∧ (i = 0 ∨ k = 0)) ∨ a ≤ b) ∧ Below w.heap.size w wr ∧ w.heap.size < wr.heap.size) (fun p _ _ => 2 - (intOf p).toNat)
          case atStart => exact ⟨0, a, b, c, rfl, by omega, hB, hr, by omega, by omega, hbr, hsz⟩
          case round =>
            clear hB hbr hsz hr hq1 hq2 a b c
            obtain ⟨k, a, b, c, rfl, hk3, hB, ⟨a0, a6, b0, b6, d0, d6⟩, hq1, hq2, hbr, hsz⟩ := hrel
            have c0 : wr.cell? ⟨w.heap.size, 0, none⟩ = some (.int .i64 a) := hB.cell 0
            have c1 : wr.cell? ⟨w.heap.size, 1, none⟩ = some (.int .i64 b) := hB.cell 1
            have c2 : wr.cell? ⟨w.heap.size, 2, none⟩ = some (.int .i64 c) := hB.cell 2
            have f0 := hB.frozen 0
            have f1 := hB.frozen 1
            have f2 := hB.frozen 2
            obtain rfl | rfl | rfl : k = 0 ∨ k = 1 ∨ k = 2 := by omega
            · have e2 := (hB.set_ 0 (.int .i64 b)).set_ 1 (.int .i64 a)
              have b2 := (hbr.setCell (p := ⟨w.heap.size, 0, none⟩) (Nat.le_refl _) (.int .i64 b)).setCell (p := ⟨w.heap.size, 1, none⟩) (Nat.le_refl _) (.int .i64 a)
              have E2 := Lib.hid e2; have B2 := Lib.hid b2; clear e2 b2
              go_wp2
              go_quiet (fail)
              go_wp2
              · go_roundw
                case rel => exact ⟨1, b, a, c, rfl, by omega, E2.out.drewN nq, by omega, by omega, by omega, bdrewN B2.out nq, by simpa using hsz⟩
                case measure => simp [intOf]
              · go_roundw
                case rel => exact ⟨1, a, b, c, rfl, by omega, hB.drewN nq, by omega, by omega, by omega, bdrewN hbr nq, hsz⟩
                case measure => simp [intOf]
            · have e2 := (hB.set_ 1 (.int .i64 c)).set_ 2 (.int .i64 b)
              have b2 := (hbr.setCell (p := ⟨w.heap.size, 1, none⟩) (Nat.le_refl _) (.int .i64 c)).setCell (p := ⟨w.heap.size, 2, none⟩) (Nat.le_refl _) (.int .i64 b)
              have E2 := Lib.hid e2; have B2 := Lib.hid b2; clear e2 b2
              go_wp2
              go_quiet (fail)
              go_wp2
              · go_roundw
                case rel => exact ⟨2, a, c, b, rfl, by omega, E2.out.drewN nq, by omega, by omega, by omega, bdrewN B2.out nq, by simpa using hsz⟩
                case measure => simp [intOf]
              · go_roundw
                case rel => exact ⟨2, a, b, c, rfl, by omega, hB.drewN nq, by omega, by omega, by omega, bdrewN hbr nq, hsz⟩
                case measure => simp [intOf]
            · go_wp2
              go_roundw
              case rel => exact ⟨i + 1, a, b, c, vint (by omega), by omega, hB, by omega, by omega, by omega, hbr, hsz⟩
              case measure => simp [intOf]; omega
        · have c0 : wr.cell? ⟨w.heap.size, 0, none⟩ = some (.int .i64 a) := hB.cell 0
          have c1 : wr.cell? ⟨w.heap.size, 1, none⟩ = some (.int .i64 b) := hB.cell 1
          have c2 : wr.cell? ⟨w.heap.size, 2, none⟩ = some (.int .i64 c) := hB.cell 2
          obtain ⟨⟨a0, a6, b0, b6, d0, d6⟩, hac, hab⟩ : (0 ≤ a ∧ a ≤ 6144 ∧ 0 ≤ b ∧ b ≤ 6144 ∧ 0 ≤ c ∧ c ≤ 6144) ∧ b ≤ c ∧ a ≤ b := ⟨hr, by omega, by omega⟩
          clear hr hq1 hq2
          obtain ⟨a, rfl⟩ := Int.eq_ofNat_of_zero_le a0
          obtain ⟨b, rfl⟩ := Int.eq_ofNat_of_zero_le b0
          obtain ⟨c, rfl⟩ := Int.eq_ofNat_of_zero_le d0
          clear hB1 hbw h0 h0' h1 h1' h2 h2' hs1
          go_wp2_with fail
          refine (pieces_any a b _ (by omega) (by omega) (by omega) (by omega)).mono ?_
          rintro e w2 ⟨v2, rfl, hown2, hb2⟩
          have hch1 := pieces_chain a b (by omega) (by omega)
          have hl1 := pieces_len a b
          have hs2 := hb2.size
          generalize pieces a b = L1 at *
          obtain ⟨A2, p2, rfl, hc2, hr2⟩ := Reads.of_own hown2
          have ho1 : ∀ u ∈ cellsP L1, u.oneCell' = true := by intro u hu; simp only [cellsP, List.mem_flatMap, cell3] at hu; obtain ⟨q, _, hq⟩ := hu; simp at hq; rcases hq with rfl | rfl | rfl <;> rfl
          go_wp2_with (at_builtin; refine wpList_append_any _ rfl (.tmp 61) (.tmp 66) 23 rfl wr.heap.size 27 i0 _ 3 24 Try.underlying23 hi hz0 hz1 hz2 rfl (by decide) (.slice none 0 0) 0 [] rfl (World.ownsRow_nil _ _ _ _) w2.heap.size A2 _ _ _ rfl hr2 ho1 (by simp only [maxLen]; omega) (by omega) hs2 ?_)
          intro v3 w3 hown3 hgr3 hv3
          have hb3 : Below wr.heap.size wr w3 := hb2.grown hgr3 hs2 (by simp [Value.ownBlock])
          have hs3 := hb3.size
          have hB3 := hB.below hb3 hsz
          have e1 : w3.cell? ⟨w.heap.size, 1, none⟩ = some (.int .i64 b) := hB3.cell 1
          have e2 : w3.cell? ⟨w.heap.size, 2, none⟩ = some (.int .i64 c) := hB3.cell 2
          clear hr2
          go_wp2_with fail
          refine (pieces_any b c _ (by omega) (by omega) (by omega) (by omega)).mono ?_
          rintro e w4 ⟨v4, rfl, hown4, hb4⟩
          have hch2 := pieces_chain b c (by omega) (by omega)
          have hl2 := pieces_len b c
          have hs4 := hb4.size
          generalize pieces b c = L2 at *
          obtain ⟨A4, p4, rfl, hc4, hr4⟩ := Reads.of_own hown4
          have ho2 : ∀ u ∈ cellsP L2, u.oneCell' = true := by intro u hu; simp only [cellsP, List.mem_flatMap, cell3] at hu; obtain ⟨q, _, hq⟩ := hu; simp at hq; rcases hq with rfl | rfl | rfl <;> rfl
          have hown3' : w4.ownsRow wr.heap.size 27 3 v3 L1.length (cellsP L1) := by
            refine hown3.kept (row := none) ⟨hb4.os, hb4.tape, hb4.output, hs4, fun k hk _ => hb4.block k hk⟩ ?_
            cases v3.ownBlock <;> simp
          go_wp2_with (at_builtin; refine wpList_append_any _ rfl (.tmp 68) (.tmp 73) 23 rfl wr.heap.size 27 i0 _ 3 24 Try.underlying23 hi hz0 hz1 hz2 rfl (by decide) v3 _ _ rfl hown3' w4.heap.size A4 _ _ _ rfl hr4 ho2 (by simp only [maxLen]; omega) (by omega) (by omega) ?_)
          intro v5 w5 hown5 hgr5 hv5
          have hb5 : Below wr.heap.size wr w5 := (hb3.trans (hb4.mono (by omega))).grown hgr5 (by omega) (fun k hk => (hown3'.lt k hk).1)
          have hB5 := hB.below hb5 hsz
          have k0 : w5.cell? ⟨w.heap.size, 0, none⟩ = some (.int .i64 a) := hB5.cell 0
          have k2 : w5.cell? ⟨w.heap.size, 2, none⟩ = some (.int .i64 c) := hB5.cell 2
          have hch := Chain.append _ _ _ _ _ hch1 hch2
          clear hch1 hch2
          rw [show cellsP L1 ++ cellsP L2 = cellsP (L1 ++ L2) by simp [cellsP], ← List.length_append] at hown5
          have hl : (L1 ++ L2).length ≤ 12288 := by rw [List.length_append]; omega
          generalize L1 ++ L2 = L at *
          have hbE : Below w.heap.size w w5 := hbr.trans (hb5.mono (by omega))
          obtain ⟨A5, p5, rfl, hc5, hr5⟩ := Reads.of_own hown5
          clear hr4 hr5 hown3 hown3' hown4 hown2 e1 e2 c0 c1 c2 hB hB3 hbr hb2 hb3 hb4 hgr3 hgr5 ho1 ho2
          go_wp2
          have hLL := Lib.hid hl
          obtain ⟨wz, rfl⟩ : ∃ wz : World, wz = wr := ⟨_, rfl⟩
          go_loopw [9, 10] (fun p q wr => ∃ (at_ : Nat) (done rest : List (Nat × Nat × Nat)), p = .int .i64 at_ ∧ q = .int .i64 (done.length : Nat) ∧ L = done ++ rest ∧ Chain at_ rest c ∧ at_ ≤ 4000000 ∧ ∃ m, wr = w5.drewN m) (fun _ q _ => L.length - (intOf q).toNat)
          case atStart => exact ⟨a, [], L, rfl, rfl, rfl, hch, by omega, 0, rfl⟩
          case round =>
            clear hch
            obtain ⟨at_, done, rest, rfl, rfl, hL, hch, hat, m, rfl⟩ := hrel
            cases rest with
            | nil =>
              have hd : done.length = L.length := by rw [hL]; simp
              obtain rfl : at_ = c := hch
              rw [hd]
              go_wp2
              go_ret
              exact ⟨rfl, bdrewN hbE m⟩
            | cons x rest =>
              have hlt : done.length < L.length := by rw [hL]; simp
              obtain ⟨g, p, e, _, _⟩ := hown5.form (by omega)
              obtain ⟨rfl, rfl⟩ : A5 = some ⟨g, 0, none⟩ ∧ p5 = p := by simpa using e
              clear e
              obtain ⟨x0, x1, x2⟩ := row_cells hown5 done.length hlt
              have hx : L[done.length] = x := by simp [hL]
              rw [hx] at x0 x1 x2
              obtain ⟨h1, h2, h3, h3', h4⟩ := hch
              have HL := Lib.hid hL; have HX := Lib.hid hx; clear hL hx
              have t1 : (512 * (x.1 : Int) + (x.2.1 : Int) != (at_ : Int)) = false := by simp; omega
              have t2 : decide (x.2.2 ≤ x.2.1) = false := by simp; omega
              have b1 : (x.2.1 : Int) ≤ 512 := by omega
              have b2 : (x.2.2 : Int) ≤ 512 := by omega
              have b3 : (x.1 : Int) ≤ 6144 := by omega
              have H1 := Lib.hid h1; have H4 := Lib.hid h4
              clear h1 h4 h2
              generalize hD : done.length = D at *
              have HD := Lib.hid hD; clear hD
              have v1 : IntKind.i64.wrap (512 * (x.1 : Int)) = 512 * (x.1 : Int) := IntWalk.i64_in _ (by omega)
              have v2 : IntKind.i64.wrap (512 * (x.1 : Int) + (x.2.1 : Int)) = 512 * (x.1 : Int) + (x.2.1 : Int) := IntWalk.i64_in _ (by omega)
              have v3 : IntKind.i64.wrap (512 * (x.1 : Int) + (x.2.2 : Int)) = 512 * (x.1 : Int) + (x.2.2 : Int) := IntWalk.i64_in _ (by omega)
              go_wp2
              go_quiet (fail)
              go_wp2
              go_quiet (fail)
              clear v1 v2 v3
              go_wp2
              go_roundw
              case rel =>
                refine ⟨512 * x.1 + x.2.2, done ++ [x], rest, vint (by omega), vint (by rw [List.length_append, HD.out]; simp), by rw [HL.out]; simp, H4.out, by omega, _, rfl⟩
              case measure => simp [intOf]; omega
end Go.Proofs.Ytepmgcgpioljiaa
