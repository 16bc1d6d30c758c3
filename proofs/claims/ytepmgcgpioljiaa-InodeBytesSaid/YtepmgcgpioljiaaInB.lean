import Derived.Test.YtepmgcgpioljiaaInA
namespace Go.Proofs.Ytepmgcgpioljiaa
open Go.RowKit
attribute [local go_sem] b_max2 b_min2 b_max b_min

theorem pcs_new (e : Nat) : ∀ (d a : Nat), e - a = d → a ≤ e → (e % 512 = 0 ∨ a = e) → pcs (e + 1) a = pcs e a ++ [(e / 512, e % 512, e % 512 + 1)] := by
  intro d
  induction d using Nat.strongRecOn with
  | ind d ih =>
    intro a hd ha hor
    by_cases h : a < e
    · rw [pcs_step (e := e + 1) (by omega), pcs_step (e := e) h]
      have h0 : e % 512 = 0 := by omega
      have : min (a % 512 + (e + 1 - a)) 512 = min (a % 512 + (e - a)) 512 := by omega
      rw [this, ih _ (by omega) _ rfl (by omega) (.inl h0)]
      rfl
    · have : a = e := by omega
      subst this
      rw [pcs_end (e := a) (by omega), pcs_step (by omega), pcs_end (by omega)]
      simp; omega
theorem pcs_more (e : Nat) (hne : e % 512 ≠ 0) : ∀ (d a : Nat), e - a = d → a < e → ∃ m s, pcs e a = m ++ [(e / 512, s, e % 512)] ∧ pcs (e + 1) a = m ++ [(e / 512, s, e % 512 + 1)] := by
  intro d
  induction d using Nat.strongRecOn with
  | ind d ih =>
    intro a hd ha
    rw [pcs_step (e := e + 1) (by omega), pcs_step (e := e) ha]
    by_cases h : a / 512 = e / 512
    · refine ⟨[], a % 512, ?_, ?_⟩
      · rw [pcs_end (by omega)]; simp; omega
      · rw [pcs_end (by omega)]; simp; omega
    · have e1 : min (a % 512 + (e + 1 - a)) 512 = min (a % 512 + (e - a)) 512 := by omega
      obtain ⟨m, s, h1, h2⟩ := ih _ (by omega) (a + (min (a % 512 + (e - a)) 512 - a % 512)) rfl (by omega)
      rw [e1, h1, h2]
      exact ⟨_ :: m, s, rfl, rfl⟩
theorem pcs_full (e : Nat) (h0 : e % 512 = 0) : ∀ (d a : Nat), e - a = d → a < e → ∃ m s, pcs e a = m ++ [(e / 512 - 1, s, 512)] := by
  intro d
  induction d using Nat.strongRecOn with
  | ind d ih =>
    intro a hd ha
    rw [pcs_step (e := e) ha]
    by_cases h : a / 512 = e / 512 - 1
    · refine ⟨[], a % 512, ?_⟩
      rw [pcs_end (by omega)]; simp; omega
    · obtain ⟨m, s, h1⟩ := ih _ (by omega) (a + (min (a % 512 + (e - a)) 512 - a % 512)) rfl (by omega)
      rw [h1]
      exact ⟨_ :: m, s, rfl⟩
theorem pcs_len (e : Nat) : ∀ (d a : Nat), e - a = d → (pcs e a).length ≤ d := by
  intro d
  induction d using Nat.strongRecOn with
  | ind d ih =>
    intro a hd
    by_cases h : a < e
    · rw [pcs_step h]; have := ih (e - (a + (min (a % 512 + (e - a)) 512 - a % 512))) (by omega) _ rfl; simp; omega
    · rw [pcs_end h]; simp

set_option maxRecDepth 100000 in
set_option maxHeartbeats 400000 in
theorem rpieces_any (f t : Int) (w : World) (h0 : -9223372036854775808 ≤ f) (h1 : f ≤ 9223372036854775807) (h2 : -9223372036854775808 ≤ t) (h3 : t ≤ 9223372036854775807) :
    Calls Try.prog 12 #[.int .i64 f, .int .i64 t] w fun e w' => ∃ v, e = .returned v ∧ w'.ownsRow w.heap.size 27 3 v (pieces f t).length (cellsP (pieces f t)) ∧ Below w.heap.size w w' := by
  obtain ⟨i0, hi, hz0, hz1, hz2⟩ := info_parts info27
  go_enter Try.func12, Try.ntmps12
  go_upto_if 9 with (fail)
  go_cut [0] (fun s w' => s = .int .i64 (max f 0) ∧ w = w')
  case first =>
    go_wp2
    all_goals go_meet
    all_goals exact ⟨vint (by omega), rfl⟩
  case rest =>
  obtain ⟨rfl, rfl⟩ := hcut
  go_upto_if 11 with (fail)
  go_cut [0] (fun s w' => s = .int .i64 (min (max f 0) 6144) ∧ w = w')
  case first =>
    go_wp2
    all_goals go_meet
    all_goals exact ⟨vint (by omega), rfl⟩
  case rest =>
  obtain ⟨rfl, rfl⟩ := hcut
  go_upto_if 13 with (fail)
  go_cut [1] (fun s w' => s = .int .i64 (min t 6144) ∧ w = w')
  case first =>
    go_wp2
    all_goals go_meet
    all_goals exact ⟨vint (by omega), rfl⟩
  case rest =>
  obtain ⟨rfl, rfl⟩ := hcut
  go_wp2
  go_loopw [5, 6] (fun v p wr => ∃ (a : Nat), p = .int .i64 a ∧ min (max f 0) 6144 ≤ a ∧ (a : Int) ≤ max (min t 6144) (min (max f 0) 6144) ∧ a ≤ 6144 ∧ wr.ownsRow w.heap.size 27 3 v (pcs a (min (max f 0) 6144).toNat).length (cellsP (pcs a (min (max f 0) 6144).toNat)) ∧ Below w.heap.size w wr) (fun _ p _ => 6144 - (intOf p).toNat)
  case atStart =>
    refine ⟨(min (max f 0) 6144).toNat, vint (by omega), by omega, by omega, by omega, ?_, Below.refl _ _⟩
    rw [pcs_end (by omega)]
    exact World.ownsRow_nil _ _ _ _
  case round =>
    obtain ⟨a, rfl, ha0, ha1, ha, hown, hb⟩ := hrel
    have hbs := hb.size
    by_cases hlt : (a : Int) < min t 6144
    · by_cases hC : a % 512 ≠ 0 ∧ min (max f 0) 6144 < a
      · obtain ⟨m, s, e1, e2⟩ := pcs_more a hC.1 _ (min (max f 0) 6144).toNat rfl (by omega)
        rw [e1] at hown
        have HE := Lib.hid e1; have HE2 := Lib.hid e2; clear e1 e2
        have HC := Lib.hid hC; clear hC
        rw [List.length_append, show [(a / 512, s, a % 512)].length = 1 from rfl] at hown
        have hmK : m.length ≤ 6144 := by have := pcs_len a _ (min (max f 0) 6144).toNat rfl; rw [HE.out] at this; simp at this; omega
        rw [cellsP_snoc, cell3] at hown
        have hml := cellsP_length m
        have hml' := Lib.hid hml
        generalize hK : m.length = K at *
        have HK := Lib.hid hK; clear hK
        obtain ⟨g, cap, rfl, hg, hgs⟩ := hown.form (by simp)
        have hc0 := hown.cellAt (K * 3) (by omega)
        rw [List.getElem?_append_right (by omega), hml, Nat.sub_self, List.getElem?_cons_zero] at hc0
        have hc2 := hown.cellAt (K * 3 + 2) (by omega)
        rw [List.getElem?_append_right (by omega), hml, Nat.add_sub_cancel_left, List.getElem?_cons_succ, List.getElem?_cons_succ, List.getElem?_cons_zero] at hc2
        have hf2 := hown.frozenAt (K * 3 + 2)
        clear hml
        go_wp2
        go_roundw
        case rel =>
          have hst := hown.stored (K * 3 + 2) (.int .i64 (↑a % 512 + 1))
          refine ⟨a + 1, vint (by omega), by omega, by omega, by omega, ?_, hb.setCell hg _⟩
          rw [HE2.out, List.length_append, HK.out, cellsP_snoc, cell3]
          have e : (cellsP m ++ [Value.int IntKind.i64 ↑(a / 512), Value.int IntKind.i64 ↑s, Value.int IntKind.i64 ↑(a % 512)]).set (K * 3 + 2) (.int .i64 (↑a % 512 + 1)) = cellsP m ++ [.int .i64 ↑(a / 512), .int .i64 ↑s, .int .i64 ↑(a % 512 + 1)] := by
            rw [List.set_append, if_neg (by have := hml'.out; omega), hml'.out, Nat.add_sub_cancel_left]; rfl
          rw [← e]
          exact hst.1
        case measure => simp [intOf]; omega
      · obtain ⟨l, hl⟩ : ∃ l, l = pcs a (min (max f 0) 6144).toNat := ⟨_, rfl⟩
        have hn := pcs_new a _ (min (max f 0) 6144).toNat rfl (by omega) (by omega)
        rw [← hl] at hown hn
        have hlK : l.length ≤ 6144 := by have := pcs_len a _ (min (max f 0) 6144).toNat rfl; rw [← hl] at this; omega
        have hout : (a = min (max f 0) 6144 ∧ l = []) ∨ ∃ m s, min (max f 0) 6144 < a ∧ l = m ++ [(a / 512 - 1, s, 512)] := by
          by_cases h : min (max f 0) 6144 < a
          · have h5 : a % 512 = 0 := by omega
            obtain ⟨m, s, h6⟩ := pcs_full a h5 _ (min (max f 0) 6144).toNat rfl (by omega)
            exact .inr ⟨m, s, by omega, by rw [hl, h6]⟩
          · refine .inl ⟨by omega, ?_⟩
            rw [hl, pcs_end (by omega)]
        have HN := Lib.hid hn; clear hn hl
        have hC' := Lib.hid hC; clear hC
        rcases hout with ⟨h, rfl⟩ | ⟨m, s, hpos, rfl⟩
        · have HH := Lib.hid h; clear h hlK
          rw [show cellsP [] = [] from rfl, List.length_nil] at hown
          obtain ⟨A, cp, rfl, hcp, _⟩ := Reads.of_own hown
          go_wp2_with (at_builtin; refine wpList_append_own _ rfl (.tmp 35) (.tmp 41) 23 rfl w.heap.size 27 i0 _ 3 24 Try.underlying23 hi hz0 hz1 hz2 rfl (by decide) _ _ _ rfl (hown.alloc _) ⟨wr.heap.size, 0, none⟩ 1 1 [.int .i64 (↑a / 512), .int .i64 (↑a % 512), .int .i64 0] rfl rfl ?c1 ?c2 ?c3 ?c4 ?c5 ?_)
          case c1 => exact new_cells _ _ _ _ rfl
          case c2 => simp [Value.oneCell']
          case c3 => simp only [maxLen]; omega
          case c4 => omega
          case c5 => simp only [sz_alloc]; omega
          intro v' w1 hown2 hgrow _
          obtain ⟨g, cap, rfl, hg, hgs⟩ := hown2.form (by simp)
          have hc2 := hown2.cellAt 2 (by omega)
          simp only [List.getElem?_cons_succ, List.getElem?_cons_zero] at hc2
          have hf2 := hown2.frozenAt 2
          have hb1 : Below w.heap.size w w1 := (hb.alloc hb.size _).grown hgrow (by simp only [sz_alloc]; omega) (fun k hk => (hown.lt k hk).1)
          go_wp2
          go_roundw
          case rel =>
            have hst := hown2.stored 2 (.int .i64 (↑a % 512 + 1))
            refine ⟨a + 1, vint (by omega), by omega, by omega, by omega, ?_, hb1.setCell hg _⟩
            rw [HN.out]
            exact hst.1
          case measure => simp [intOf]; omega
        · have hml := cellsP_length m
          rw [List.length_append, show [(a / 512 - 1, s, 512)].length = 1 from rfl, cellsP_snoc, cell3] at hown
          rw [List.length_append, show [(a / 512 - 1, s, 512)].length = 1 from rfl] at hlK
          generalize hK : m.length = K at *
          have HK := Lib.hid hK; clear hK
          obtain ⟨g, cap, rfl, hg, hgs⟩ := hown.form (by simp)
          have hc0 := hown.cellAt (K * 3) (by omega)
          rw [List.getElem?_append_right (by omega), hml, Nat.sub_self, List.getElem?_cons_zero] at hc0
          have hne : ((↑(a / 512 - 1) : Int) != (a : Int) / 512) = true := by
            have h := hC'.out
            simp only [bne_iff_ne]
            omega
          have hml' := Lib.hid hml; clear hml
          go_wp2_with (at_builtin; refine wpList_append_own _ rfl (.tmp 35) (.tmp 41) 23 rfl w.heap.size 27 i0 _ 3 24 Try.underlying23 hi hz0 hz1 hz2 rfl (by decide) _ _ _ rfl (hown.alloc _) ⟨wr.heap.size, 0, none⟩ 1 1 [.int .i64 (↑a / 512), .int .i64 (↑a % 512), .int .i64 0] rfl rfl (new_cells _ _ _ _ rfl) ?d2 ?d3 ?d4 ?d5 ?_)
          case d2 => simp [Value.oneCell']
          case d3 => simp only [maxLen]; omega
          case d4 => omega
          case d5 => first | omega | (simp only [sz_alloc]; omega)
          intro v' w1 hown2 hgrow _
          obtain ⟨g', cap', rfl, hg', hgs'⟩ := hown2.form (by simp)
          have hc2 := hown2.cellAt ((K + 1) * 3 + 2) (by omega)
          rw [List.getElem?_append_right (by have := hml'.out; omega), hml'.out, show (K + 1) * 3 + 2 - K * 3 = 5 by omega] at hc2
          simp only [List.getElem?_cons_succ, List.getElem?_cons_zero] at hc2
          have hf2 := hown2.frozenAt ((K + 1) * 3 + 2)
          have hb1 : Below w.heap.size w w1 := (hb.alloc hb.size _).grown hgrow (by simp only [sz_alloc]; omega) (fun k hk => (hown.lt k hk).1)
          go_wp2
          go_roundw
          case rel =>
            have hst := hown2.stored ((K + 1) * 3 + 2) (.int .i64 (↑a % 512 + 1))
            refine ⟨a + 1, vint (by omega), by omega, by omega, by omega, ?_, hb1.setCell hg' _⟩
            rw [HN.out, List.append_assoc, List.length_append, HK.out]
            rw [List.set_append, if_neg (by have := hml'.out; omega), hml'.out, show (K + 1) * 3 + 2 - K * 3 = 5 by omega] at hst
            rw [show cellsP (m ++ ([(a / 512 - 1, s, 512)] ++ [(a / 512, a % 512, a % 512 + 1)])) = cellsP m ++ (cell3 (a / 512 - 1, s, 512) ++ cell3 (a / 512, a % 512, a % 512 + 1)) by simp [cellsP]]
            exact hst.1
          case measure => simp [intOf]; omega
    · go_wp2
      go_ret
      have e1 : pcs a (min (max f 0) 6144).toNat = pieces f t := by
        unfold pieces
        by_cases h : min t 6144 ≤ min (max f 0) 6144
        · rw [pcs_end (by omega), pcs_end (by omega)]
        · rw [show (min t 6144).toNat = a by omega]
      rw [← e1]
      exact ⟨_, rfl, hown, hb⟩
end Go.Proofs.Ytepmgcgpioljiaa
