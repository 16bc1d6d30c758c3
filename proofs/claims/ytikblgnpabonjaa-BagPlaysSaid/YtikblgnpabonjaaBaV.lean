import Derived.Test.YtikblgnpabonjaaBaU
namespace Go.Proofs.Ytikblgnpabonjaa
open Go.RowKit
set_option linter.unusedVariables false
attribute [local go_sem] b_max2 b_min2 b_max b_min

set_option maxRecDepth 100000 in
set_option maxHeartbeats 1000000 in
theorem rdouble_none {w : World} {g : Nat} {F : Nat → Prop} {l : List Pc} (h : RNet w g F l) (f t x : Int) (h0 : (l.filter (isP f t)).length = 0) :
    Calls Try.prog 24 #[.pointer (some ⟨g, 0, none⟩), .int .i64 f, .int .i64 t, .int .i64 x] w fun e w' => e = .returned (.bool false) ∧ w = w' := by
  have c := rplace_none h f t x h0
  clear h
  go_enter Try.func24, Try.ntmps24
  go_wp2_with fail
  refine c.mono ?_
  rintro e w1 ⟨rfl, rfl⟩
  go_wp2_with fail
  go_ret
  exact ⟨rfl, rfl⟩
set_option maxRecDepth 100000 in
set_option maxHeartbeats 1000000 in
theorem rdouble_full {w : World} {g : Nat} {F : Nat → Prop} {l : List Pc} (h : RNet w g F l) (f t x : Int) (x0 : -9223372036854775808 ≤ x) (x1 : x ≤ 9223372036854775807) (h0 : 200 ≤ (l.filter (isP f t)).length) :
    Calls Try.prog 24 #[.pointer (some ⟨g, 0, none⟩), .int .i64 f, .int .i64 t, .int .i64 x] w fun e w' => e = .returned (.bool false) ∧ w = w' := by
  have c := rplace_some h f t x x0 x1 _ rfl (by omega)
  have cw := rwaits_any h f t
  clear h
  generalize (l.filter (isP f t)).length = n at *
  have d2 : decide ((200 : Int) ≤ (n : Int)) = true := by rw [decide_eq_true_eq]; omega
  go_enter Try.func24, Try.ntmps24
  go_wp2_with fail
  refine c.mono ?_
  rintro e w1 ⟨I, ⟨rfl, rfl⟩, hI, _, _⟩
  have hd : decide ((I : Int) < 0) = false := by rw [decide_eq_false_iff_not]; omega
  go_wp2_with fail
  refine cw.mono ?_
  rintro e w1 ⟨rfl, rfl⟩
  go_wp2_with fail
  go_ret
  exact ⟨rfl, rfl⟩
set_option maxRecDepth 100000 in
set_option maxHeartbeats 1000000 in
theorem rdouble_ok {w : World} {g : Nat} {F : Nat → Prop} {l : List Pc} (h : RNet w g F l) (f t x : Int) (x0 : -9223372036854775808 ≤ x) (x1 : x ≤ 9223372036854775807) (hpos : 0 < (l.filter (isP f t)).length) (h200 : (l.filter (isP f t)).length < 200) (hl : l.length < 20000) :
    Calls Try.prog 24 #[.pointer (some ⟨g, 0, none⟩), .int .i64 f, .int .i64 t, .int .i64 x] w fun e w' => ∃ I, isAt l f t x I ∧ e = .returned (.bool true) ∧ RNet w' g (Fup F w w') (l ++ [l.getD I (0, 0, ⟨#[]⟩)]) ∧ Fr F w w' := by
  obtain ⟨i0, hi, hz0, hz1, hz2⟩ := info_parts pc_info
  have c := rplace_some h f t x x0 x1 _ rfl hpos
  have cw := rwaits_any h f t
  obtain ⟨A, c', h⟩ := h
  have hg : w.cell? ⟨g, 0, none⟩ = some (.slice A l.length c') := h.blk.cell 0
  obtain ⟨A', c'', hAA, _, hR⟩ := Reads.of_own h.own
  obtain ⟨rfl, rfl⟩ : A = A' ∧ c' = c'' := by simpa using hAA
  have ho := h.own
  have hgl := h.blk.lt
  have hgne : (Value.slice A l.length c').ownBlock ≠ some g := own_blk_ne ho h.blk (by decide)
  have HG := Lib.hid hgne
  have H := Lib.hid h; clear h hAA hgne
  have d2 : decide ((200 : Int) ≤ ((l.filter (isP f t)).length : Int)) = false := by rw [decide_eq_false_iff_not]; omega
  go_enter Try.func24, Try.ntmps24
  go_wp2_with fail
  refine c.mono ?_
  rintro e w1 ⟨I, ⟨rfl, rfl⟩, hI, hp, hc⟩
  have hd : decide ((I : Int) < 0) = false := by rw [decide_eq_false_iff_not]; omega
  have hat : isAt l f t x I := ⟨hI, hp, hc⟩
  have HA := Lib.hid hat; clear hat hp hc
  go_wp2_with fail
  refine cw.mono ?_
  rintro e w1 ⟨rfl, rfl⟩
  clear c cw
  go_upto_region 4 with (fail)
  obtain ⟨ad, rfl, hadb, k0, k1, k2⟩ := pcs_at hR hI
  have hgd : l.getD I (0, 0, ⟨#[]⟩) = l[I] := by rw [List.getD_eq_getElem?_getD, List.getElem?_eq_getElem hI]; rfl
  generalize l[I] = p at *
  have HGD := Lib.hid hgd; clear hgd hR
  have ho1 := (ho.alloc (.cells #[.int .i64 (p.1 : Nat), .int .i64 (p.2.1 : Nat), .string p.2.2] 32)).drew
  have hr1 : Reads (w.alloc (.cells #[.int .i64 (p.1 : Nat), .int .i64 (p.2.1 : Nat), .string p.2.2] 32)).drew (w.heap.size + 1) 3 (some ⟨w.heap.size, 0, none⟩) 1 (pcv p) := (Reads.new w #[.int .i64 (p.1 : Nat), .int .i64 (p.2.1 : Nat), .string p.2.2] 32 1 rfl rfl).drew
  have HO1 := Lib.hid ho1; have HR1 := Lib.hid hr1; clear ho1 hr1
  have hkeep : ∀ w1, (w.alloc (.cells #[.int .i64 (p.1 : Nat), .int .i64 (p.2.1 : Nat), .string p.2.2] 32)).drew.grownBy w1 (Value.slice (some ad) l.length c').ownBlock → w1.cell? ⟨g, 0, none⟩ = some (.slice (some ad) l.length c') ∧ w1.frozen? ⟨g, 0, none⟩ = false := by
    intro w1 hgr
    have hb1 := ((Fr.alloc _ w (.cells #[.int .i64 (p.1 : Nat), .int .i64 (p.2.1 : Nat), .string p.2.2] 32)).trans ((Fr.drewN _ _ 1).trans (Fr.of_grown hgr))).blk H.out.blk HG.out
    exact ⟨hb1.cell 0, hb1.frozen _⟩
  have HK := Lib.hid hkeep; clear hkeep
  have hal : (w.alloc (.cells #[.int .i64 (p.1 : Nat), .int .i64 (p.2.1 : Nat), .string p.2.2] 32)).cell? ⟨g, 0, none⟩ = some (.slice (some ad) l.length c') := by rw [World.cell?_alloc_lt _ _ _ hgl]; exact hg
  go_region_law (refine step_append_any _ rfl (.tmp 28) (.tmp 36) 27 rfl 0 32 i0 _ 3 32 Try.underlying27 hi hz0 hz1 hz2 rfl (by decide) (.slice (some ad) l.length c') _ _ (by simp [Act.eval]) (by exact HO1.out) (w.heap.size + 1) (some ⟨w.heap.size, 0, none⟩) 1 1 (pcv p) (by simp [Act.eval]) (by exact HR1.out) (by simp [pcv, Value.oneCell']) (by simp only [maxLen]; omega) (by omega) (Nat.zero_le _) ?_; intro v' w1 hown' hgrow hown''; obtain ⟨A', c'', rfl, _, _⟩ := Reads.of_own hown'; obtain ⟨k1', k2'⟩ := HK.out _ hgrow)
  all_goals
    have hfr : Fr (fun k => (Value.slice (some ad) l.length c').ownBlock = some k) w w1 := (Fr.alloc _ w (.cells #[.int .i64 (p.1 : Nat), .int .i64 (p.2.1 : Nat), .string p.2.2] 32)).trans ((Fr.drewN _ _ 1).trans (Fr.of_grown hgrow))
    have hu := H.out.upd (l' := l ++ [p]) hfr (by rw [List.length_append, cellsQ_snoc]; exact hown') (by rcases hown'' with e | e; exact .inl e; exact .inr (.inr ⟨_, e, by show _ ≤ (w.alloc _).heap.size; simp⟩)) (by simp; omega)
    have HU := Lib.hid hu; clear hu hown''
    go_wp2_with fail
    go_ret
    exact ⟨I, HA.out, by rfl, by rw [HGD.out]; exact HU.out.1, HU.out.2⟩

/-- all that waits in the document's network, link by link -/
def rTo (l : List Pc) (a k : Nat) : List Pc := (List.range k).flatMap fun b : Nat => l.filter (isP (a : Nat) (b : Nat))
def rUp (l : List Pc) (k : Nat) : List Pc := (List.range k).flatMap fun a : Nat => rTo l a 8
theorem rTo_succ (l : List Pc) (a k : Nat) : rTo l a (k + 1) = rTo l a k ++ l.filter (isP a k) := by simp [rTo, List.range_succ, List.flatMap_append]
theorem rUp_succ (l : List Pc) (k : Nat) : rUp l (k + 1) = rUp l k ++ rTo l k 8 := by simp [rUp, List.range_succ, List.flatMap_append]
theorem rTo_le (l : List Pc) (a k : Nat) : (rTo l a k).length ≤ l.length * k := by
  induction k with
  | zero => simp [rTo]
  | succ k ih => rw [rTo_succ, List.length_append]; have := List.length_filter_le (isP a k) l; rw [Nat.mul_succ]; omega
theorem rUp_le (l : List Pc) (k : Nat) : (rUp l k).length ≤ l.length * 8 * k := by
  induction k with
  | zero => simp [rUp]
  | succ k ih => rw [rUp_succ, List.length_append]; have := rTo_le l k 8; rw [Nat.mul_succ]; omega

set_option maxRecDepth 100000 in
set_option maxHeartbeats 1000000 in
theorem rall_any {w : World} {g : Nat} {F : Nat → Prop} {l : List Pc} (h : RNet w g F l) :
    Calls Try.prog 27 #[.pointer (some ⟨g, 0, none⟩)] w fun e w' => ∃ v, e = .returned v ∧ w'.ownsRow w.heap.size 32 3 v (rUp l 8).length (cellsQ (rUp l 8)) ∧ Below w.heap.size w w' := by
  obtain ⟨i0, hi0, hz0, hz1, hz2⟩ := info_parts pc_info
  obtain ⟨A, c, h⟩ := h
  have hcap := h.cap
  obtain ⟨A', c', hAA, _, hR⟩ := Reads.of_own h.own
  obtain ⟨rfl, rfl⟩ : A = A' ∧ c = c' := by simpa using hAA
  have hb0 := h.blk
  have hgl := hb0.lt
  clear h hAA
  go_enter Try.func27, Try.ntmps27
  go_wp2_with fail
  go_loopw [3, 4, 5, 6] (fun v p _ _ wr => ∃ i : Nat, p = .int .i64 i ∧ i ≤ 8 ∧ wr.ownsRow w.heap.size 32 3 v (rUp l i).length (cellsQ (rUp l i)) ∧ Below w.heap.size w wr) (fun _ p _ _ _ => 8 - (intOf p).toNat)
  case atStart => exact ⟨0, rfl, by omega, World.ownsRow_nil _ _ _ _, Below.refl _ _⟩
  case round =>
    obtain ⟨i, rfl, hi, ho, hb⟩ := hrel
    by_cases hlt : i < 8
    · have hd : decide ((i : Int) < 8) = true := by rw [decide_eq_true_eq]; omega
      go_wp2_with fail
      go_loopw [3, 5, 6] (fun v p _ wr => ∃ j : Nat, p = .int .i64 j ∧ j ≤ 8 ∧ wr.ownsRow w.heap.size 32 3 v (rUp l i ++ rTo l i j).length (cellsQ (rUp l i ++ rTo l i j)) ∧ Below w.heap.size w wr) (fun _ p _ _ => 8 - (intOf p).toNat)
      case atStart => exact ⟨0, rfl, by omega, by simpa [rTo] using ho, hb⟩
      case round =>
        clear ho hb
        obtain ⟨j, rfl, hj, ho, hb⟩ := hrel
        by_cases hltj : j < 8
        · have hdj : decide ((j : Int) < 8) = true := by rw [decide_eq_true_eq]; omega
          go_wp2_with fail
          go_loopw [3, 6] (fun v p wr => ∃ k : Nat, p = .int .i64 k ∧ k ≤ l.length ∧ wr.ownsRow w.heap.size 32 3 v (rUp l i ++ rTo l i j ++ (l.take k).filter (isP i j)).length (cellsQ (rUp l i ++ rTo l i j ++ (l.take k).filter (isP i j))) ∧ Below w.heap.size w wr) (fun _ p _ => l.length - (intOf p).toNat)
          case atStart => exact ⟨0, rfl, by omega, by simpa using ho, hb⟩
          case round =>
            clear ho hb
            obtain ⟨k, rfl, hk, ho, hb⟩ := hrel
            have hgr : wr.cell? ⟨g, 0, none⟩ = some (.slice A l.length c) := (hb0.below hb hgl).cell 0
            have hBs := hb.size
            by_cases hltk : k < l.length
            · obtain ⟨ad, rfl, _, k0, k1, k2⟩ := pcs_at (hR.below hb) hltk
              have hs := filter_take_succ (isP i j) l hltk
              have hle : (rUp l i ++ rTo l i j ++ (l.take k).filter (isP i j)).length ≤ 2000000 := by
                have h1 := rUp_le l i
                have h2 := rTo_le l i j
                have h3 := List.length_filter_le (isP i j) (l.take k)
                rw [List.length_take] at h3
                have h4 : l.length * 8 * i ≤ 20000 * 8 * 8 := Nat.mul_le_mul (by omega) (by omega)
                have h5 : l.length * j ≤ 20000 * 8 := Nat.mul_le_mul (by omega) (by omega)
                simp only [List.length_append]; omega
              generalize l[k] = p at *
              have hs2 : rUp l i ++ rTo l i j ++ (l.take (k + 1)).filter (isP i j) = (rUp l i ++ rTo l i j ++ (l.take k).filter (isP i j)) ++ if isP i j p then [p] else [] := by rw [hs]; simp
              generalize hX : rUp l i ++ rTo l i j ++ (l.take k).filter (isP i j) = X at *
              have HX := Lib.hid hX; have HS := Lib.hid hs2; clear hs hX hs2
              rcases isP_cases i j p with ⟨h1, h2, h3⟩ | ⟨h1, h3⟩ | ⟨h1, h2, h3⟩
              · have H3 := Lib.hid h3; clear h3
                have n1 : (((p.1 : Nat) : Int) == (i : Int)) = true := by rw [beq_iff_eq]; exact h1
                have n2 : (((p.2.1 : Nat) : Int) == (j : Int)) = true := by rw [beq_iff_eq]; exact h2
                clear h1 h2
                go_wp2_with (at_builtin; refine wpList_append_any _ rfl (.tmp 46) (.tmp 54) 27 rfl w.heap.size 32 i0 _ 3 32 Try.underlying27 hi0 hz0 hz1 hz2 rfl (by decide) _ _ _ rfl (ho.alloc _) (wr.heap.size + 1) (some ⟨wr.heap.size, 0, none⟩) 1 1 (pcv p) rfl (Reads.new wr #[.int .i64 (p.1 : Nat), .int .i64 (p.2.1 : Nat), .string p.2.2] 32 1 rfl rfl) (by simp [pcv, Value.oneCell']) (by simp only [maxLen]; omega) (by omega) (by simp only [sz_alloc]; omega) ?_)
                intro v' w5 hown' hgrow hown''
                have hb5 : Below w.heap.size w w5 := (Fr.of_grown hgrow).below (hb.alloc (by omega) _) (fun k hk => (World.ownsRow.lt ho k hk).1)
                go_wp2_with fail
                go_roundw
                case rel => exact ⟨k + 1, vint (by omega), by omega, by rw [HS.out, H3.out, if_pos rfl, cellsQ_snoc, List.length_append]; exact hown', hb5⟩
                case measure => simp [intOf]; omega
              · have H3 := Lib.hid h3; clear h3
                have n1 : (((p.1 : Nat) : Int) == (i : Int)) = false := by rw [beq_eq_false_iff_ne]; exact h1
                have n0 : (p.1 == i) = false := by rw [beq_eq_false_iff_ne]; omega
                clear h1
                go_wp2_with fail
                go_roundw
                case rel => exact ⟨k + 1, vint (by omega), by omega, by rw [HS.out, H3.out, if_neg (by simp), List.append_nil]; exact ho, hb⟩
                case measure => simp [intOf]; omega
              · have H3 := Lib.hid h3; clear h3
                have n1 : (((p.1 : Nat) : Int) == (i : Int)) = true := by rw [beq_iff_eq]; exact h1
                have n2 : (((p.2.1 : Nat) : Int) == (j : Int)) = false := by rw [beq_eq_false_iff_ne]; exact h2
                clear h1 h2
                go_wp2_with fail
                go_roundw
                case rel => exact ⟨k + 1, vint (by omega), by omega, by rw [HS.out, H3.out, if_neg (by simp), List.append_nil]; exact ho, hb⟩
                case measure => simp [intOf]; omega
            · have hke : k = l.length := by omega
              rw [hke, List.take_length, List.append_assoc, ← rTo_succ] at ho
              have hdk : decide (k < l.length) = false := by rw [decide_eq_false_iff_not]; omega
              clear hke
              go_wp2_with fail
              go_roundw
              case rel => exact ⟨j + 1, vint (by omega), by omega, ho, hb⟩
              case measure => simp [intOf]; omega
        · have hje : j = 8 := by omega
          rw [hje, ← rUp_succ] at ho
          have hdj : decide ((j : Int) < 8) = false := by rw [decide_eq_false_iff_not]; omega
          clear hje
          go_wp2_with fail
          go_roundw
          case rel => exact ⟨i + 1, vint (by omega), by omega, ho, hb⟩
          case measure => simp [intOf]; omega
    · have hie : i = 8 := by omega
      rw [hie] at ho
      have hdi : decide ((i : Int) < 8) = false := by rw [decide_eq_false_iff_not]; omega
      clear hie
      go_wp2_with fail
      go_ret
      exact ⟨_, rfl, ho, hb⟩
end Go.Proofs.Ytikblgnpabonjaa
