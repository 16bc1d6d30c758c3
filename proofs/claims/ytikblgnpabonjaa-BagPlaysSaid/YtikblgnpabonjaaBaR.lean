import Derived.Test.YtikblgnpabonjaaBaQ
namespace Go.Proofs.Ytikblgnpabonjaa
open Go.RowKit
set_option linter.unusedVariables false
attribute [local go_sem] b_max2 b_min2 b_max b_min

theorem once_parts {w : World} {A : Option Addr} {l : List Pc} {a0 : Nat} (h : Reads w w.heap.size 3 A l.length (cellsQ l)) (ha : a0 < l.length) :
    Reads w w.heap.size 3 A a0 (cellsQ (l.take a0)) ∧ ∃ ad, A = some ad ∧ ∀ w', w.grownBy w' (Value.slice none 0 0).ownBlock → ∀ A', A' = some ad ∨ A' = some (ad.add ((a0 + 1) * 3)) → (A' = some ad → a0 + 1 = l.length) →
      Reads w' w.heap.size 3 A' (l.length - (a0 + 1)) (cellsQ (l.drop (a0 + 1))) := by
  obtain ⟨ad, e, hb, hc⟩ := h.2 (by omega)
  have e1 : cellsQ l = cellsQ (l.take a0) ++ cellsQ (l.drop a0) := by unfold cellsQ; rw [← List.flatMap_append, List.take_append_drop]
  have e2 : cellsQ l = cellsQ (l.take (a0 + 1)) ++ cellsQ (l.drop (a0 + 1)) := by unfold cellsQ; rw [← List.flatMap_append, List.take_append_drop]
  refine ⟨⟨by rw [cellsQ_length, List.length_take]; congr 1; omega, fun hn => ⟨ad, e, hb, fun j u hu => hc j u ?_⟩⟩, ad, e, fun w' hg A' hA hne => ⟨by rw [cellsQ_length, List.length_drop], fun hn => ?_⟩⟩
  · rw [e1, List.getElem?_append_left (List.getElem?_eq_some_iff.1 hu).1]; exact hu
  · rcases hA with rfl | rfl
    · have := hne rfl; omega
    · refine ⟨_, rfl, by rw [block_of_add]; exact hb, fun j u hu => ?_⟩
      rw [Addr.add_add, World.cell?_of_block (hg.block _ (by rw [block_of_add]; exact hb) (by simp [Value.ownBlock]))]
      refine hc _ u ?_
      rw [e2, List.getElem?_append_right (by rw [cellsQ_length, List.length_take]; omega), cellsQ_length, List.length_take, show (a0 + 1) * 3 + j - min (a0 + 1) l.length * 3 = j by rw [Nat.min_eq_left (by omega)]; omega]
      exact hu
theorem bne_ba {x y : ByteArray} (h : x ≠ y) : (x == y) = false := by
  obtain ⟨a⟩ := x
  obtain ⟨b⟩ := y
  rw [Bool.eq_false_iff]
  intro e
  have e' : (a == b) = true := e
  exact h (congrArg ByteArray.mk (eq_of_beq e'))
theorem bne_ba2 {x y : ByteArray} (h : x ≠ y) : ¬ x.data = y.data := by
  obtain ⟨a⟩ := x
  obtain ⟨b⟩ := y
  exact fun e => h (congrArg ByteArray.mk e)
set_option maxRecDepth 100000 in
set_option maxHeartbeats 4000000 in
theorem law_once (A : Option Addr) (len cap : Nat) (K : Nat → Nat → Int) (S : Nat → ByteArray) (A' : Option Addr) (len' cap' : Nat) (zs : List Int) (w : World)
    (zb : ∀ i j, -9223372036854775808 ≤ K i j ∧ K i j ≤ 9223372036854775807) (zr : Reads w w.heap.size 5 A len (opsC K S len)) (ol : zs.length = len') (ob : ∀ z ∈ zs, -9223372036854775808 ≤ z ∧ z ≤ 9223372036854775807) (or_ : Reads w w.heap.size 1 A' len' (zs.map (Value.int .i64))) :
    Calls Try.prog 3 #[.slice A len cap, .slice A' len' cap'] w fun e w' => e = .returned (.bool true) ∧ Below w.heap.size w w' := by
  obtain ⟨i0, hi, hz0, hz1, hz2⟩ := info_parts pc_info
  have ZC := Lib.hid zb; have OB := Lib.hid ob; clear zb ob
  go_enter Try.func3, Try.ntmps3
  go_wp2_with fail
  refine (awake_any _).mono ?_
  rintro e w1 ⟨rfl, hb1⟩
  go_wp2_with fail
  refine (new_ls w _ hb1).mono ?_
  rintro e w2 ⟨g, rfl, s2, _, _, _⟩
  clear hb1
  have r2 := LR.nil s2 32 3
  clear s2
  go_upto_block 0 with (fail)
  go_cut [7] (fun v w' => ∃ (A2 : Option Addr) (c2 : Nat) (F : Nat → Prop) (Ls : List (List ByteArray)) (sent : List Pc), v = .slice A2 sent.length c2 ∧ sent.length ≤ 60 ∧ sent.Perm (fAll Ls) ∧ LR w w' g F Ls 32 3 (.slice A2 sent.length c2) sent.length (cellsQ sent))
  case first =>
    clear or_
    go_wp2_with fail
    go_loopw [7, 8, 9, 10] (fun v p _ _ wr => ∃ (i : Nat) (F : Nat → Prop) (Ls : List (List ByteArray)) (sent : List Pc), p = .int .i64 i ∧ i ≤ len ∧ i ≤ 30 ∧ sent.length ≤ 2 * i ∧ sent.Perm (fAll Ls) ∧ LR w wr g F Ls 32 3 v sent.length (cellsQ sent)) (fun _ p _ _ _ => 30 - (intOf p).toNat)
    case atStart => exact ⟨0, _, _, [], rfl, by omega, by omega, by simp, by rw [fAll_zero], r2⟩
    case round =>
      clear r2
      obtain ⟨i, F, Ls, sent, rfl, hil, hi20, hsl, hpm, hs⟩ := hrel
      have HPM := Lib.hid hpm
      obtain ⟨A1, c1, rfl, hlc, hr⟩ := Reads.of_own hs.own
      clear hlc hr
      by_cases hlt : i < len ∧ i < 30
      · obtain ⟨hlt, hlt2⟩ := hlt
        obtain ⟨ad, rfl, _, hc1, hc2, _, hc4⟩ := ops_at zr hs.ls.b hlt
        have hd20 : decide ((i : Int) < 30) = true := by rw [decide_eq_true_eq]; omega
        have hf3 := i64_and7 (K i 1)
        have hf4 : (K i 1 % 8).toNat < 8 := by omega
        have ht3 := i64_and7 (K i 2)
        have ht4 : (K i 2 % 8).toNat < 8 := by omega
        have k0 := (ZC.out i 0).1
        have k1 := (ZC.out i 0).2
        generalize (K i 1 % 8).toNat = f at *
        generalize (K i 2 % 8).toNat = t at *
        obtain ⟨s, hsz, HS⟩ := short_one (S i) 60 (by omega)
        replace HS : ∀ w, Calls Try.prog 12 #[.string (S i), .int .i64 60] w fun e w' => e = .returned (.string s) ∧ w = w' := HS
        generalize hK0 : K i 0 = K0 at *
        have HK0 := Lib.hid hK0; clear hK0
        generalize S i = si at *
        generalize K i 1 = K1 at *
        generalize K i 2 = K2 at *
        have tb1 := Int.tmod_lt_of_pos K0 (show (0:Int) < 2 by omega)
        have tb2 := Int.lt_tmod_of_pos K0 (show (0:Int) < 2 by omega)
        clear hpm
        go_wp2_with fail
        go_region_held3 (fun w' => w'.cell? ⟨(ad.add (i * 5)).block, (ad.add (i * 5)).off + 1, none⟩ = some (.int .i64 K1) ∧ w'.cell? ⟨(ad.add (i * 5)).block, (ad.add (i * 5)).off + 2, none⟩ = some (.int .i64 K2) ∧ w'.cell? ⟨(ad.add (i * 5)).block, (ad.add (i * 5)).off + 4, none⟩ = some (.string si)) (go_keep) (first | (go_at_call 12; refine (HS _).mono ?_; rintro e wa ⟨rfl, rfl⟩))
        all_goals
          have hal := hs.low ((Below.refl _ wr).alloc (Nat.le_refl _) (.cells #[.int .i64 f, .int .i64 t, .string s] 32))
          have hB : Blk (wr.alloc (.cells #[.int .i64 f, .int .i64 t, .string s] 32)) wr.heap.size 32 #[.int .i64 f, .int .i64 t, .string s] := Blk.new _ _ _
          have hdr := hal.low (bdrewN (Below.refl _ _) 1)
          have hBd : Blk ((wr.alloc (.cells #[.int .i64 f, .int .i64 t, .string s] 32)).drewN 1) wr.heap.size 32 #[.int .i64 f, .int .i64 t, .string s] := hB
          have hzF : ¬ F wr.heap.size := fun h => by have := hs.ls.net.fb _ h; omega
          have hzo : some wr.heap.size ≠ (Value.slice A1 sent.length c1).ownBlock := fun h => by have := (World.ownsRow.lt hs.own _ h.symm).2; omega
          clear hal hB
          replace hdr : LR w (wr.alloc (.cells #[.int .i64 f, .int .i64 t, .string s] 32)).drew g F Ls 32 3 (.slice A1 sent.length c1) sent.length (cellsQ sent) := hdr
          replace hBd : Blk (wr.alloc (.cells #[.int .i64 f, .int .i64 t, .string s] 32)).drew wr.heap.size 32 #[.int .i64 f, .int .i64 t, .string s] := hBd
          generalize hz : wr.heap.size = z at *
          clear hz
          generalize (wr.alloc (.cells #[.int .i64 f, .int .i64 t, .string s] 32)).drew = wd at *
          have p0 : wd.cell? ⟨z, 0, none⟩ = some (.int .i64 f) := hBd.cell 0
          have p1 : wd.cell? ⟨z, 1, none⟩ = some (.int .i64 t) := hBd.cell 1
          have p2 : wd.cell? ⟨z, 2, none⟩ = some (.string s) := hBd.cell 2
          have hzd := hBd.lt
          have h64 := hdr.ls.net.len
          go_wp2_with fail
          by_cases hft : f = t
          · subst hft
            obtain ⟨e1, e2⟩ := send_self (Ls := Ls) f s
            have E1 := Lib.hid e1; have E2 := Lib.hid e2; clear e1 e2
            refine (send_ls hdr.ls f f s (by omega) false E1.out E2.out).mono ?_
            rintro e w4 ⟨rfl, s4, f4⟩
            have r4 := hdr.net s4 f4
            have hb4 := f4.blk hBd hzF
            have y0 : w4.cell? ⟨z, 0, none⟩ = some (.int .i64 f) := hb4.cell 0
            have y1 : w4.cell? ⟨z, 1, none⟩ = some (.int .i64 f) := hb4.cell 1
            go_wp2_with fail
            go_roundw
            case rel => exact ⟨i + 1, _, _, sent, vint (by omega), by omega, by omega, by omega, HPM.out, r4⟩
            case measure => simp [intOf]; omega
          · have hlk := lk_le_all h64 hf4 ht4 hft
            rw [← HPM.out.length_eq] at hlk
            obtain ⟨e1, e2⟩ := send_room hf4 ht4 hft (show s.size ≤ 2000 by omega) (show (lk Ls f t).length < 200 by omega)
            have hp1 := add_perm h64 hf4 ht4 hft s
            obtain ⟨d1, d2, d3⟩ := double_last h64 hf4 ht4 hft s (by omega)
            have h641 : (Ls.set (f * 8 + t) (lk Ls f t ++ [s])).length = 64 := by simpa using h64
            have hp2 := add_perm h641 hf4 ht4 hft s
            have E1 := Lib.hid e1; have E2 := Lib.hid e2; have D1 := Lib.hid d1; have D2 := Lib.hid d2; have D3 := Lib.hid d3; have P1 := Lib.hid hp1; have P2 := Lib.hid hp2
            clear e1 e2 d1 d2 d3 hp1 hp2
            refine (send_ls hdr.ls f t s (by omega) true E1.out E2.out).mono ?_
            rintro e w4 ⟨rfl, s4, f4⟩
            have r4 := hdr.net s4 f4
            have hb4 := f4.blk hBd hzF
            have hzF4 : ¬ Fup F wd w4 z := by
              rintro (h | ⟨h, _⟩)
              · exact hzF h
              · omega
            have y0 : w4.cell? ⟨z, 0, none⟩ = some (.int .i64 f) := hb4.cell 0
            have y1 : w4.cell? ⟨z, 1, none⟩ = some (.int .i64 t) := hb4.cell 1
            have y2 : w4.cell? ⟨z, 2, none⟩ = some (.string s) := hb4.cell 2
            have n1 : ((f : Int) != (t : Int)) = true := by simp; omega
            have hBs := s4.b.size
            have hz4 := hb4.lt
            generalize Fup F wd w4 = F4 at *
            clear hs hdr hBd p0 p1 p2 s4
            go_wp2_with (at_builtin; refine wpList_append_any _ rfl (.tmp 70) (.tmp 72) 27 rfl w.heap.size 32 i0 _ 3 32 Try.underlying27 hi hz0 hz1 hz2 rfl (by decide) _ _ _ rfl (r4.alloc _).own (w4.heap.size + 1) (some ⟨w4.heap.size, 0, none⟩) 1 1 (pcv (f, t, s)) rfl (Reads.new w4 #[.int .i64 f, .int .i64 t, .string s] 32 1 rfl rfl) (by simp [pcv, Value.oneCell']) (by simp only [maxLen]; omega) (by omega) (by simp only [sz_alloc]; omega) ?_)
            intro v' w5 hown' hgrow hown''
            have r5 := (r4.alloc _).push hown' hgrow (by rw [sz_alloc]; exact hown'')
            have hb5 := (hb4.alloc (.cells #[.int .i64 f, .int .i64 t, .string s] 32)).grown hgrow hzo
            have hzo5 : some z ≠ v'.ownBlock := by
              rcases hown'' with e | e
              · rw [e]; exact hzo
              · rw [e]; intro h; obtain rfl := Option.some.inj h; omega
            rw [← cellsQ_snoc, show sent.length + 1 = (sent ++ [(f, t, s)]).length by simp] at r5
            clear hown' hgrow hown''
            obtain ⟨ad', e', hc0, _, _, _, _⟩ := ops_at zr r5.ls.b hlt
            obtain rfl : ad = ad' := by simpa using e'
            rw [HK0.out] at hc0
            have pm5 : (sent ++ [(f, t, s)]).Perm (fAll (Ls.set (f * 8 + t) (lk Ls f t ++ [s]))) := (List.Perm.append_right _ HPM.out).trans P1.out.symm
            have hsl5 : (sent ++ [(f, t, s)]).length ≤ sent.length + 1 := by simp
            have PM5 := Lib.hid pm5; clear pm5 e'
            generalize hsn : sent ++ [(f, t, s)] = sn at *
            clear hsn
            obtain ⟨A5, c5, rfl, _, _⟩ := Reads.of_own r5.own
            by_cases hk : K0.tmod 2 = 0
            · have hk2 : (K0.tmod 2 == 0) = true := by rw [beq_iff_eq]; exact hk
              clear hk
              clear tb1 tb2 k0 k1
              generalize hn0 : (lk Ls f t).length = n0 at *
              have b0 : -9223372036854775808 ≤ ((n0 : Nat) : Int) := by omega
              have b1 : ((n0 : Nat) : Int) ≤ 9223372036854775807 := by omega
              have q0 : w5.cell? ⟨z, 0, none⟩ = some (.int .i64 f) := hb5.cell 0
              have q1 : w5.cell? ⟨z, 1, none⟩ = some (.int .i64 t) := hb5.cell 1
              have HN0 := Lib.hid hn0; clear hn0
              generalize hL1 : Ls.set (f * 8 + t) (lk Ls f t ++ [s]) = L1 at *
              have HL1 := Lib.hid hL1; clear hL1
              obtain ⟨n1', hn1⟩ : ∃ n1' : Nat, n1' = n0 + 1 := ⟨_, rfl⟩
              rw [← hn1] at D1
              have v1 : IntKind.i64.wrap ((n1' : Int) - 1) = (n0 : Int) := by rw [hn1, show ((n0 + 1 : Nat) : Int) - 1 = n0 by omega]; exact IntWalk.i64_in _ (by omega)
              clear hn1
              have r5d := r5.low (bdrewN (Below.refl _ _) 1)
              have hb5d : Blk (w5.drewN 1) z 32 #[.int .i64 f, .int .i64 t, .string s] := hb5
              go_wp2_with fail
              go_region_held3 (fun w' => w'.cell? ⟨z, 0, none⟩ = some (.int .i64 f) ∧ w'.cell? ⟨z, 1, none⟩ = some (.int .i64 t)) (go_keep)
                (first
                  | (go_at_call 15; refine (waits_ls r5d.ls f t n1' D1.out).mono ?_; rintro e wa ⟨rfl, rfl⟩)
                  | (go_at_call 14; refine (double_ls r5d.ls f t n0 b0 b1 true D2.out D3.out).mono ?_; rintro e w7 ⟨rfl, s7, f7⟩; have r7 := r5d.net s7 f7; have hb7 := f7.blk hb5d hzF4; have t0 : w7.cell? ⟨z, 0, none⟩ = some (.int .i64 f) := hb7.cell 0; have t1 : w7.cell? ⟨z, 1, none⟩ = some (.int .i64 t) := hb7.cell 1; have t2 : w7.cell? ⟨z, 2, none⟩ = some (.string s) := hb7.cell 2))
              all_goals
                have hBs7 := s7.b.size
                clear hb7 f7 s7 hb5 hb5d r5 r5d q0 q1
                go_wp2_with (at_builtin; refine wpList_append_any _ rfl (.tmp 95) (.tmp 97) 27 rfl w.heap.size 32 i0 _ 3 32 Try.underlying27 hi hz0 hz1 hz2 rfl (by decide) _ _ _ rfl (r7.alloc _).own (w7.heap.size + 1) (some ⟨w7.heap.size, 0, none⟩) 1 1 (pcv (f, t, s)) rfl (Reads.new w7 #[.int .i64 f, .int .i64 t, .string s] 32 1 rfl rfl) (by simp [pcv, Value.oneCell']) (by simp only [maxLen]; omega) (by omega) (by simp only [sz_alloc]; omega) ?_)
                intro v' w8 hown' hgrow hown''
                have r8 := (r7.alloc _).push hown' hgrow (by rw [sz_alloc]; exact hown'')
                rw [← cellsQ_snoc, show sn.length + 1 = (sn ++ [(f, t, s)]).length by simp] at r8
                go_wp2_with fail
                go_roundw
                case rel => exact ⟨i + 1, _, _, sn ++ [(f, t, s)], vint (by omega), by omega, by omega, by simp; omega, (List.Perm.append_right _ PM5.out).trans P2.out.symm, r8⟩
                case measure => simp [intOf]; omega
            · have hk2 : (K0.tmod 2 == 0) = false := by rw [beq_eq_false_iff_ne]; exact hk
              clear hk
              go_wp2_with fail
              go_roundw
              case rel => exact ⟨i + 1, _, _, sn, vint (by omega), by omega, by omega, by omega, PM5.out, r5⟩
              case measure => simp [intOf]; omega
      · rcases (show (i < len ∧ 30 ≤ i) ∨ len ≤ i by omega) with ⟨h1, h2⟩ | h1
        · have hd20 : decide ((i : Int) < 30) = false := by rw [decide_eq_false_iff_not]; omega
          go_wp2_with fail
          go_meet
          exact ⟨_, _, _, _, _, rfl, by omega, HPM.out, hs⟩
        · go_wp2_with fail
          go_meet
          exact ⟨_, _, _, _, _, rfl, by omega, HPM.out, hs⟩
  case rest =>
  clear r2 zr ZC
  obtain ⟨A2, c2, F, Ls, sent, rfl, hsl, hpm, r3⟩ := hcut
  have HPM := Lib.hid hpm; clear hpm
  go_wp2_with fail
  go_loopw [7, 11, 12, 13, 14, 15, 16, 17] (fun v p _ _ _ _ _ _ wr => ∃ (i : Nat) (F : Nat → Prop) (Ls : List (List ByteArray)) (sent : List Pc), p = .int .i64 i ∧ i + sent.length ≤ 60 ∧ sent.Perm (fAll Ls) ∧ LR w wr g F Ls 32 3 v sent.length (cellsQ sent)) (fun _ p _ _ _ _ _ _ _ => 60 - (intOf p).toNat)
  case atStart => exact ⟨0, _, _, _, rfl, by omega, HPM.out, r3⟩
  case round =>
    clear r3 HPM hsl
    obtain ⟨i, F, Ls, sent, rfl, hil, hpm, hs⟩ := hrel
    obtain ⟨A1, c1, rfl, hlc, hr⟩ := Reads.of_own hs.own
    by_cases hlt : 0 < sent.length
    · have hd0 : decide ((0 : Int) < (sent.length : Int)) = true := by rw [decide_eq_true_eq]; omega
      have h64 := hs.ls.net.len
      have HPM := Lib.hid hpm
      have hfl := hpm.length_eq
      clear hpm
      go_upto_if 107 with (fail)
      go_cut [12] (fun s w' => ∃ x : Int, s = .int .i64 x ∧ -9223372036854775808 ≤ x ∧ x ≤ 9223372036854775807 ∧ wr = w')
      case first =>
        by_cases hio : i < len'
        · obtain ⟨ad, rfl, _, hcs⟩ := (or_.below hs.ls.b).2 (by omega)
          have hx := hcs i (.int .i64 (zs[i]'(by omega))) (by first | (simp; done) | (simp; omega))
          obtain ⟨x0, x1⟩ := OB.out (zs[i]'(by omega)) (List.getElem_mem _)
          generalize zs[i]'(by omega) = x at *
          clear hcs
          go_wp2_with fail
          all_goals go_meet
          all_goals exact ⟨x, rfl, x0, x1, rfl⟩
        · go_wp2_with fail
          all_goals go_meet
          all_goals exact ⟨0, rfl, by omega, by omega, rfl⟩
      case rest =>
      obtain ⟨x, rfl, x0, x1, rfl⟩ := hcut
      obtain ⟨a, b, q, pre, post, ha, hb, hab, e1, e2, e3, e4, e5, e6⟩ := fAll_split Ls h64 (place x (fAll Ls).length) (place_lt x (by omega))
      obtain ⟨s, hsq⟩ : ∃ s, (lk Ls a b)[q]? = some s := ⟨_, List.getElem?_eq_getElem e3⟩
      have hpm2 := HPM.out.trans (take_perm e1 e3 hsq e6)
      have CALL := any_some hs.ls.net x x0 x1 a b q s pre post ha hb hab e1 e3 hsq e2 e4
      generalize Ls.set (a * 8 + b) ((lk Ls a b).eraseIdx q) = L' at *
      clear e1 e2 e3 e4 e5 e6 hsq hfl HPM hr
      have hmem : (a, b, s) ∈ sent := hpm2.mem_iff.2 (by simp)
      obtain ⟨jm, hjm⟩ := List.mem_iff_getElem?.1 hmem
      have HPM := Lib.hid hpm2; have HJM := Lib.hid hjm; clear hpm2 hmem hjm
      go_wp2_with fail
      refine CALL.mono ?_
      rintro e w4 ⟨rfl, n4, f4⟩
      have r4 := hs.net (hs.ls.step n4 f4) f4
      clear CALL hs
      have r5 := r4.alloc (.cells #[.int .i64 a, .int .i64 b, .string s] 32)
      have hB : Blk (w4.alloc (.cells #[.int .i64 a, .int .i64 b, .string s] 32)) w4.heap.size 32 #[.int .i64 a, .int .i64 b, .string s] := Blk.new _ _ _
      generalize Fup F wr w4 = F4 at *
      clear r4 n4 f4
      go_wp2_with fail
      generalize w4.alloc (.cells #[.int .i64 a, .int .i64 b, .string s] 32) = w5 at *
      generalize w4.heap.size = z at *
      have p0 : w5.cell? ⟨z, 0, none⟩ = some (.int .i64 a) := hB.cell 0
      have p1 : w5.cell? ⟨z, 1, none⟩ = some (.int .i64 b) := hB.cell 1
      have p2 : w5.cell? ⟨z, 2, none⟩ = some (.string s) := hB.cell 2
      obtain ⟨A1', c1', hAA, _, hR⟩ := Reads.of_own r5.own
      obtain ⟨rfl, rfl⟩ : A1 = A1' ∧ c1 = c1' := by simpa using hAA
      go_loopw [15, 16] (fun at_ k w' => ∃ κ : Nat, k = .int .i64 κ ∧ κ ≤ sent.length ∧ (∃ m, w' = w5.drewN m) ∧ ((at_ = .int .i64 (-1) ∧ ∀ j, j < κ → sent[j]? ≠ some (a, b, s)) ∨ ∃ a0 : Nat, at_ = .int .i64 a0 ∧ a0 < κ ∧ sent[a0]? = some (a, b, s))) (fun _ k _ => sent.length - (intOf k).toNat)
      case atStart => exact ⟨0, rfl, by omega, ⟨0, rfl⟩, .inl ⟨rfl, fun j hj => by omega⟩⟩
      case round =>
        obtain ⟨κ, rfl, hκ, ⟨m, rfl⟩, hat⟩ := hrel
        by_cases hk : κ < sent.length
        · obtain ⟨ad, rfl, _, k0, k1, k2⟩ := pcs_at hR hk
          rcases hat with ⟨rfl, hno⟩ | ⟨a0, rfl, ha0, hsa⟩
          · have HNO := Lib.hid hno; clear hno
            by_cases heq : sent[κ] = (a, b, s)
            · rw [heq] at k0 k1 k2
              have HEQ := Lib.hid heq; clear heq
              simp only at k0 k1 k2
              go_wp2_with fail
              go_quiet (fail)
              go_wp2_with fail
              go_roundw
              case rel => exact ⟨κ + 1, vint (by omega), by omega, ⟨_, rfl⟩, .inr ⟨κ, rfl, by omega, by rw [List.getElem?_eq_getElem hk, HEQ.out]⟩⟩
              case measure => simp [intOf]; omega
            · have hno2 : ∀ j, j < κ + 1 → sent[j]? ≠ some (a, b, s) := by
                intro j hj
                by_cases hjk : j = κ
                · subst hjk; rw [List.getElem?_eq_getElem hk]; intro h; exact heq (Option.some.inj h)
                · exact HNO.out j (by omega)
              have HN2 := Lib.hid hno2; clear hno2
              have hpar : sent[κ].1 ≠ a ∨ (sent[κ].1 = a ∧ sent[κ].2.1 ≠ b) ∨ (sent[κ].1 = a ∧ sent[κ].2.1 = b ∧ sent[κ].2.2 ≠ s) := by
                by_cases g1 : sent[κ].1 = a
                · by_cases g2 : sent[κ].2.1 = b
                  · exact .inr (.inr ⟨g1, g2, fun g3 => heq (Prod.ext g1 (Prod.ext g2 g3))⟩)
                  · exact .inr (.inl ⟨g1, g2⟩)
                · exact .inl g1
              generalize sent[κ] = y at *
              clear heq HNO
              obtain ⟨y1, y2, y3⟩ := y
              simp only at k0 k1 k2 hpar
              rcases hpar with g1 | ⟨rfl, g1⟩ | ⟨rfl, rfl, g1⟩
              · have g2 : ((y1 : Int) == (a : Int)) = false := by simp; omega
                have g3 : (y1 == a) = false := by simp; omega
                go_wp2_with fail
                go_quiet (fail)
                go_wp2_with fail
                go_roundw
                case rel => exact ⟨κ + 1, vint (by omega), by omega, ⟨_, rfl⟩, .inl ⟨rfl, HN2.out⟩⟩
                case measure => simp [intOf]; omega
              · have g2 : ((y2 : Int) == (b : Int)) = false := by simp; omega
                have g3 : (y2 == b) = false := by simp; omega
                go_wp2_with fail
                go_quiet (fail)
                go_wp2_with fail
                go_roundw
                case rel => exact ⟨κ + 1, vint (by omega), by omega, ⟨_, rfl⟩, .inl ⟨rfl, HN2.out⟩⟩
                case measure => simp [intOf]; omega
              · have g2 := bne_ba g1
                have g3 := bne_ba2 g1
                have g4 : decide (y3 = s) = false := by rw [decide_eq_false_iff_not]; exact g1
                have g5 : ¬ y3.data.toList = s.data.toList := fun e => g3 (Array.toList_inj.1 e)
                have g6 : (y3.data.toList == s.data.toList) = false := by rw [beq_eq_false_iff_ne]; exact g5
                have g8 : (y3.toList == s.toList) = false := by rw [← beq_toListBytes]; exact g2
                have g9 : ¬ y3.toList = s.toList := fun e => by rw [e] at g8; simp at g8
                go_wp2_with fail
                go_quiet (fail)
                go_wp2_with fail
                go_roundw
                case rel => exact ⟨κ + 1, vint (by omega), by omega, ⟨_, rfl⟩, .inl ⟨rfl, HN2.out⟩⟩
                case measure => simp [intOf]; omega
          · clear k0 k1 k2
            have hd5 : decide ((a0 : Int) < 0) = false := by rw [decide_eq_false_iff_not]; omega
            have HSA := Lib.hid hsa; clear hsa
            go_wp2_with fail
            go_quiet (fail)
            go_wp2_with fail
            go_roundw
            case rel => exact ⟨κ + 1, vint (by omega), by omega, ⟨_, rfl⟩, .inr ⟨a0, rfl, by omega, HSA.out⟩⟩
            case measure => simp [intOf]; omega
        · obtain rfl : κ = sent.length := by omega
          rcases hat with ⟨_, hno⟩ | ⟨a0, rfl, ha0, hsa⟩
          · exact absurd HJM.out (hno jm (List.getElem?_eq_some_iff.1 HJM.out).1)
          clear HJM
          replace hlc : sent.length ≤ c1 := hlc
          have hd5 : decide ((a0 : Int) < 0) = false := by rw [decide_eq_false_iff_not]; omega
          have HSA := Lib.hid hsa; clear hsa
          have r6 := r5.low (bdrewN (Below.refl _ _) m)
          have hR6 : Reads (w5.drewN m) (w5.drewN m).heap.size 3 A1 sent.length (cellsQ sent) := hR.drewN m
          clear r5 hR
          generalize w5.drewN m = w6 at *
          have hBs := r6.ls.b.size
          obtain ⟨hRt, ad, rfl, hRd⟩ := once_parts hR6 ha0
          have hsn := hil
          go_wp2_with (at_builtin; refine wpList_append_any _ rfl (.tmp 139) (.tmp 142) 27 rfl w.heap.size 32 i0 _ 3 32 Try.underlying27 hi hz0 hz1 hz2 rfl (by decide) (.slice none 0 0) 0 [] rfl (World.ownsRow_nil _ _ _ _) w6.heap.size (some ad) a0 _ (cellsQ (sent.take a0)) rfl hRt (one_cellsQ _) (by simp only [maxLen]; omega) (by omega) hBs ?_)
          intro v7 w7 hown7 hgrow7 hob7
          have r7 := (LR.nil r6.ls 32 3).push hown7 hgrow7 hob7
          have hRd7 := hRd w7 hgrow7
          clear hown7 hgrow7 hob7 hRt hRd r6 hR6
          replace r7 : LR w w7 g F4 L' 32 3 v7 a0 (cellsQ (sent.take a0)) := by simpa using r7
          obtain ⟨A7, c7, rfl, _, _⟩ := Reads.of_own r7.own
          have hBs7 := r7.ls.b.size
          have hE1 : cellsQ (sent.eraseIdx a0) = cellsQ (sent.take a0) ++ cellsQ (sent.drop (a0 + 1)) := by rw [List.eraseIdx_eq_take_drop_succ]; simp [cellsQ]
          have hE2 : (sent.eraseIdx a0).length = a0 + (sent.length - (a0 + 1)) := by rw [List.length_eraseIdx, if_pos ha0]; omega
          have HE1 := Lib.hid hE1; have HE2 := Lib.hid hE2; clear hE1 hE2
          by_cases hcap : c1 = a0 + 1
          · have hlen1 : a0 + 1 = sent.length := by omega
            have HLEN := Lib.hid hlen1; clear hlen1
            have hRx := hRd7 (some ad) (.inl rfl) (fun _ => HLEN.out)
            go_wp2_with (at_builtin; refine wpList_append_any _ rfl (.tmp 144) (.tmp 148) 27 rfl w.heap.size 32 i0 _ 3 32 Try.underlying27 hi hz0 hz1 hz2 rfl (by decide) _ _ _ rfl r7.own w6.heap.size (some ad) (sent.length - (a0 + 1)) _ (cellsQ (sent.drop (a0 + 1))) rfl hRx (one_cellsQ _) (by simp only [maxLen]; omega) (by omega) hBs7 ?_)
            intro v8 w8 hown8 hgrow8 hob8
            have r8 := r7.push hown8 hgrow8 hob8
            rw [← HE1.out, ← HE2.out] at r8
            clear hown8 hgrow8 hob8 r7 hRx hRd7
            go_wp2_with fail
            go_roundw
            case rel => exact ⟨i + 1, _, _, sent.eraseIdx a0, vint (by omega), by rw [HE2.out]; omega, (List.Perm.cons_inv ((erase_perm _ _ HSA.out).symm.trans HPM.out)), r8⟩
            case measure => simp [intOf]; omega
          · have hcap2 : ¬ a0 + 1 = c1 := fun e => hcap e.symm
            have hRx := hRd7 (some (ad.add ((a0 + 1) * 3))) (.inr rfl) (fun e => by exfalso; have := congrArg (fun x => x.map Addr.off) e; simp [Addr.add] at this)
            go_wp2_with (at_builtin; refine wpList_append_any _ rfl (.tmp 144) (.tmp 148) 27 rfl w.heap.size 32 i0 _ 3 32 Try.underlying27 hi hz0 hz1 hz2 rfl (by decide) _ _ _ rfl r7.own w6.heap.size (some (ad.add ((a0 + 1) * 3))) (sent.length - (a0 + 1)) _ (cellsQ (sent.drop (a0 + 1))) rfl hRx (one_cellsQ _) (by simp only [maxLen]; omega) (by omega) hBs7 ?_)
            intro v8 w8 hown8 hgrow8 hob8
            have r8 := r7.push hown8 hgrow8 hob8
            rw [← HE1.out, ← HE2.out] at r8
            clear hown8 hgrow8 hob8 r7 hRx hRd7
            go_wp2_with fail
            go_roundw
            case rel => exact ⟨i + 1, _, _, sent.eraseIdx a0, vint (by omega), by rw [HE2.out]; omega, (List.Perm.cons_inv ((erase_perm _ _ HSA.out).symm.trans HPM.out)), r8⟩
            case measure => simp [intOf]; omega
    · have hs0 : sent = [] := List.eq_nil_of_length_eq_zero (by omega)
      subst hs0
      have hf0 : fAll Ls = [] := List.eq_nil_of_length_eq_zero (by have := hpm.length_eq; simp at this; omega)
      have HF0 := Lib.hid hf0; clear hf0 hpm hr
      go_wp2_with fail
      refine (any_none hs.ls.net 0 (by omega) (by omega) HF0.out).mono ?_
      rintro e w4 ⟨rfl, hb4⟩
      have s4 := hs.ls.low hb4
      have s5 := s4.low ((Below.refl _ w4).alloc (Nat.le_refl _) (.cells #[.int .i64 0, .int .i64 0, .string ⟨#[]⟩] 32))
      clear hs s4 hb4
      go_wp2_with fail
      refine (all_any s5.net).mono ?_
      rintro e w8 ⟨v, rfl, ho8, hb8⟩
      rw [HF0.out] at ho8
      obtain ⟨A8, c8, rfl, _, _⟩ := Reads.of_own ho8
      have s8 := s5.low hb8
      clear ho8
      go_wp2_with fail
      go_ret
      exact ⟨rfl, s8.b⟩
end Go.Proofs.Ytikblgnpabonjaa
