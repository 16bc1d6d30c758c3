import Derived.Test.YtekgoliakgknjaaDiR
namespace Go.Proofs.Ytekgoliakgknjaa
open Go.RowKit
set_option linter.unusedVariables false
attribute [local go_sem] b_max2 b_min2 b_max b_min

set_option maxRecDepth 100000 in
set_option maxHeartbeats 2000000 in
theorem law_apart (A : Option Addr) (len cap : Nat) (o : OpR) (A' : Option Addr) (len' cap' : Nat) (o' : OpR) (w : World) (zo : OpsAt w A len o) (zo' : OpsAt w A' len' o') :
    Calls Try.prog 3 #[.slice A len cap, .slice A' len' cap'] w fun e w' => e = .returned (.bool true) ∧ Below w.heap.size w w' := by
  go_enter Try.func3, Try.ntmps3
  go_wp2_with fail
  refine (awake_any _).mono ?_
  rintro e w1 ⟨rfl, hb1⟩
  go_wp2_with fail
  refine (new_dl w w1 hb1 4 (by omega) (by omega)).mono ?_
  rintro e w2 ⟨g, rfl, h2⟩
  clear hb1
  go_wp2_with fail
  refine (h2.reg 1 0 (d' := ⟨Z4, K1, C0, []⟩) rfl).mono ?_
  rintro e w3 ⟨rfl, h3⟩
  clear h2
  go_wp2_with fail
  refine (h3.reg 2 0 (d' := HL Z4 [] []) (by
    show (_, _) = _
    congr 1
    unfold HL
    congr 1
    funext j
    split
    · rfl
    · split <;> rfl)).mono ?_
  rintro e w3 ⟨rfl, h3⟩
  obtain ⟨w4, hm, hc, b4⟩ := zero_text w3 512 (by omega)
  have h4 := h3.low b4
  have hm' : (Instr.makeSlice 28 (.int .i64 512) (.int .i64 512)).run Try.prog w3 = .ok (.slice (some ⟨w3.heap.size, 0, none⟩) 512 512) w4 := hm
  clear h3 b4 hm
  generalize hZ : zeros 512 = z at *
  replace hZ := Lib.hid hZ
  go_upto_region 7 with (fail)
  have z8 : Blk (w4.alloc (.cells #[.string z, .string z, .string z, .string z, .string z, .string z, .string z, .string z] 30)) w4.heap.size 30 (strs ([z, z, z, z] ++ [z, z, z, z])) := Blk.new w4 30 _
  have h5 : DZ w (w4.alloc (.cells #[.string z, .string z, .string z, .string z, .string z, .string z, .string z, .string z] 30)) g (HL Z4 [] []) (fun k => k = w4.heap.size) :=
    h4.dz ((Below.refl _ _).alloc (Nat.le_refl _) _) (fun k hk => by simp; omega)
  have hZ4 : Z4 = [z, z, z, z] := by rw [← hZ.out]; rfl
  rw [hZ4] at h5
  have hwz : w.heap.size ≤ w4.heap.size := h4.b.size
  clear h4 hm' hc hZ4
  generalize hzz : w4.heap.size = za at *
  generalize w4.alloc (.cells #[.string z, .string z, .string z, .string z, .string z, .string z, .string z, .string z] 30) = w5 at *
  clear hzz
  have hz4 : ([z, z, z, z] : List ByteArray).length = 4 := rfl
  generalize hZL : [z, z, z, z] = ZL at *
  replace hZL := Lib.hid hZL
  go_upto_block 0 with (fail)
  go_cut [9] (fun _ w' => ∃ C1 : List Put, C1.length ≤ 12 ∧ DZ w w' g (HL ZL C1 []) (fun k => k = za) ∧ Blk w' za 30 (strs (LA C1 ZL ++ ZL)))
  case first =>
    clear zo'
    go_wp2_with fail
    go_loopw [9, 10] (fun p _ wr => ∃ (i : Nat) (C1 : List Put), p = .int .i64 i ∧ i ≤ len ∧ i ≤ 12 ∧ C1.length ≤ i ∧ DZ w wr g (HL ZL C1 []) (fun k => k = za) ∧ Blk wr za 30 (strs (LA C1 ZL ++ ZL))) (fun p _ _ => 12 - (intOf p).toNat)
    case atStart => exact ⟨0, [], rfl, by omega, by omega, by simp, h5, z8⟩
    case round =>
      clear h5 z8
      obtain ⟨i, C1, rfl, hil, hi20, hC, hs, b8⟩ := hrel
      by_cases hlt : i < len ∧ i < 12
      · obtain ⟨hlt, hlt2⟩ := hlt
        obtain ⟨ad, rfl, hc0, hc1, hc2, hc3, hc4, _, _⟩ := ops_at zo hs.b hlt
        have hd20 : decide ((i : Int) < 12) = true := by rw [decide_eq_true_eq]; omega
        have hy := zo.yb i
        have hf3 := i64_and3 (o.K i 2)
        have hf4 : (o.K i 2 % 4).toNat < 4 := by omega
        generalize (o.K i 2 % 4).toNat = s at *
        generalize o.K i 2 = K2 at *
        generalize o.Y i = y at *
        have hT : (LA C1 ZL).length = 4 := by rw [LA_len]; exact hz4
        go_wp2_with fail
        refine (sector_any y _ hy).mono ?_
        rintro e w6 ⟨rfl, b6⟩
        obtain ⟨h6, k6⟩ := hs.low b6
        have c8 := k6 _ _ _ rfl b8
        clear hs b8 k6 hc0 hc1 hc2 hc3 hc4
        have q8 : w6.cell? ⟨za, s, none⟩ = some (.string ((LA C1 ZL).getD s ⟨#[]⟩)) := (c8.cell s).trans (uv_l hT hf4)
        have f8 : w6.frozen? ⟨za, s, none⟩ = false := c8.frozen s
        have h7 := h6.set_ (z := za) rfl hwz s (.string (sec y))
        have d8 : Blk (w6.setCell ⟨za, s, none⟩ (.string (sec y))) za 30 (strs (LA (C1 ++ [(s, sec y)]) ZL ++ ZL)) := by
          rw [LA_snoc, ← uv_setl hT hf4]; exact c8.set_ s _
        have hs4 : (s : Int) < 4 := by omega
        go_upto_region 12 with (fail)
        clear q8 f8 h6 c8
        generalize w6.setCell ⟨za, s, none⟩ (.string (sec y)) = w7 at *
        have q8 : w7.cell? ⟨za, s, none⟩ = some (.string (sec y)) := by
          rw [d8.cell s, LA_snoc]
          refine (uv_l (by rw [List.length_set]; exact hT) hf4).trans ?_
          rw [List.getD_eq_getElem?_getD, List.getElem?_set_self (by omega)]; rfl
        go_wp2_with fail
        refine (h7.write 1 s (sec y) 0 (by rw [hl_c1]; omega) (hl_write1 hz4 hf4 y)).mono ?_
        rintro e w8 ⟨rfl, h8, k8⟩
        have e8 := k8 _ _ _ rfl d8
        clear d8 q8 h7 k8
        go_wp2_with fail
        go_roundw
        case rel => exact ⟨i + 1, _, vint (by omega), by omega, by omega, by simp; omega, h8, e8⟩
        case measure => simp [intOf]; omega
      · have hd : (decide (i < len) && decide ((i : Int) < 12)) = false := by simp; omega
        have hend : ∃ C1 : List Put, C1.length ≤ 12 ∧ DZ w wr g (HL ZL C1 []) (fun k => k = za) ∧ Blk wr za 30 (strs (LA C1 ZL ++ ZL)) := ⟨C1, by omega, hs, b8⟩
        clear hs b8 zo
        go_wp2_with fail
        all_goals go_meet
        all_goals exact hend
  case rest =>
  clear h5 z8 zo
  obtain ⟨C1, hC1, h5, z8⟩ := hcut
  have hU : (LA C1 ZL).length = 4 := by rw [LA_len]; exact hz4
  go_upto_block 2 with (fail)
  go_cut [11] (fun _ w' => ∃ C2 : List Put, C2.length ≤ 12 ∧ (∃ i : Nat, i ≤ len' ∧ i ≤ 12 ∧ (len' ≤ i ∨ 12 ≤ i) ∧ Hid (C2.map Prod.fst = secsOf o' i)) ∧ DZ w w' g (HL ZL C1 C2) (fun k => k = za) ∧ Blk w' za 30 (strs (LA C1 ZL ++ LA C2 ZL)))
  case first =>
    go_wp2_with fail
    go_loopw [11, 12] (fun p _ wr => ∃ (i : Nat) (C2 : List Put), p = .int .i64 i ∧ i ≤ len' ∧ i ≤ 12 ∧ C2.length ≤ i ∧ Hid (C2.map Prod.fst = secsOf o' i) ∧ DZ w wr g (HL ZL C1 C2) (fun k => k = za) ∧ Blk wr za 30 (strs (LA C1 ZL ++ LA C2 ZL))) (fun p _ _ => 12 - (intOf p).toNat)
    case atStart => exact ⟨0, [], rfl, by omega, by omega, by simp, Lib.hid rfl, h5, z8⟩
    case round =>
      clear h5 z8
      obtain ⟨i, C2, rfl, hil, hi20, hC, hsec, hs, b8⟩ := hrel
      by_cases hlt : i < len' ∧ i < 12
      · obtain ⟨hlt, hlt2⟩ := hlt
        obtain ⟨ad, rfl, hc0, hc1, hc2, hc3, hc4, _, _⟩ := ops_at zo' hs.b hlt
        have hd20 : decide ((i : Int) < 12) = true := by rw [decide_eq_true_eq]; omega
        have hy := zo'.yb i
        have hf3 := i64_and3 (o'.K i 2)
        have hf4 : (o'.K i 2 % 4).toNat < 4 := by omega
        have hsn := secsOf_succ o' i
        rw [← hsec.out] at hsn
        generalize (o'.K i 2 % 4).toNat = s at *
        generalize o'.K i 2 = K2 at *
        generalize o'.Y i = y at *
        have HSN := Lib.hid hsn; clear hsn hsec
        have hT : (LA C2 ZL).length = 4 := by rw [LA_len]; exact hz4
        go_wp2_with fail
        refine (sector_any y _ hy).mono ?_
        rintro e w6 ⟨rfl, b6⟩
        obtain ⟨h6, k6⟩ := hs.low b6
        have c8 := k6 _ _ _ rfl b8
        clear hs b8 k6 hc0 hc1 hc2 hc3 hc4
        have q8 : w6.cell? ⟨za, 4 + s, none⟩ = some (.string ((LA C2 ZL).getD s ⟨#[]⟩)) := (c8.cell (4 + s)).trans (uv_r hU hT hf4)
        have f8 : w6.frozen? ⟨za, 4 + s, none⟩ = false := c8.frozen (4 + s)
        have h7 := h6.set_ (z := za) rfl hwz (4 + s) (.string (sec y))
        have d8 : Blk (w6.setCell ⟨za, 4 + s, none⟩ (.string (sec y))) za 30 (strs (LA C1 ZL ++ LA (C2 ++ [(s, sec y)]) ZL)) := by
          rw [LA_snoc, ← uv_setr hU hf4]; exact c8.set_ (4 + s) _
        have hs4 : (s : Int) < 4 := by omega
        go_upto_region 18 with (fail)
        clear q8 f8 h6 c8
        generalize w6.setCell ⟨za, 4 + s, none⟩ (.string (sec y)) = w7 at *
        have q8 : w7.cell? ⟨za, 4 + s, none⟩ = some (.string (sec y)) := by
          rw [d8.cell (4 + s), LA_snoc]
          refine (uv_r hU (by rw [List.length_set]; exact hT) hf4).trans ?_
          rw [List.getD_eq_getElem?_getD, List.getElem?_set_self (by omega)]; rfl
        go_wp2_with fail
        refine (h7.write 2 s (sec y) 0 (by rw [hl_c2]; omega) (hl_write2 hz4 hf4 y)).mono ?_
        rintro e w8 ⟨rfl, h8, k8⟩
        have e8 := k8 _ _ _ rfl d8
        clear d8 q8 h7 k8
        go_wp2_with fail
        go_roundw
        case rel => exact ⟨i + 1, _, vint (by omega), by omega, by omega, by simp; omega, Lib.hid (by rw [HSN.out, List.map_append]; rfl), h8, e8⟩
        case measure => simp [intOf]; omega
      · have hd : (decide (i < len') && decide ((i : Int) < 12)) = false := by simp; omega
        have hend : ∃ C2 : List Put, C2.length ≤ 12 ∧ (∃ i : Nat, i ≤ len' ∧ i ≤ 12 ∧ (len' ≤ i ∨ 12 ≤ i) ∧ Hid (C2.map Prod.fst = secsOf o' i)) ∧ DZ w wr g (HL ZL C1 C2) (fun k => k = za) ∧ Blk wr za 30 (strs (LA C1 ZL ++ LA C2 ZL)) := ⟨C2, by omega, ⟨i, hil, hi20, by omega, hsec⟩, hs, b8⟩
        clear hs b8 hsec zo'
        go_wp2_with fail
        all_goals go_meet
        all_goals exact hend
  case rest =>
  clear h5 z8
  obtain ⟨C2, hC2, ⟨n2, hn2, hn12, hnl, hsec⟩, h5, z8⟩ := hcut
  have hV : (LA C2 ZL).length = 4 := by rw [LA_len]; exact hz4
  go_upto_block 4 with (fail)
  go_cut [13] (fun _ w' => DZ w w' g (HL ZL C1 C2) (fun k => k = za) ∧ Blk w' za 30 (strs (LA C1 ZL ++ LA C2 ZL)))
  case first =>
    clear zo' hsec
    go_wp2_with fail
    go_loopw [13, 14, 15, 16, 17] (fun p _ _ _ _ wr => ∃ s : Nat, p = .int .i64 s ∧ s ≤ 4 ∧ DZ w wr g (HL ZL C1 C2) (fun k => k = za) ∧ Blk wr za 30 (strs (LA C1 ZL ++ LA C2 ZL))) (fun p _ _ _ _ _ => 4 - (intOf p).toNat)
    case atStart => exact ⟨0, rfl, by omega, h5, z8⟩
    case round =>
      clear h5 z8
      obtain ⟨s, rfl, hs4, hs, b8⟩ := hrel
      by_cases hlt3 : s < 4
      · have hpk := hl_peek (C1 := C1) (C2 := C2) hz4 hlt3
        have hr1 := hl_read1 (C1 := C1) (C2 := C2) hz4 hlt3
        have hr2 := hl_read2 (C1 := C1) (C2 := C2) hz4 hlt3
        have hzs : ZL.getD s ⟨#[]⟩ = z := by
          rw [← hZL.out]
          match s, hlt3 with
          | 0, _ => rfl
          | 1, _ => rfl
          | 2, _ => rfl
          | 3, _ => rfl
        have hq1 := uv_l (V := LA C2 ZL) hU hlt3
        have hq2 := uv_r hU hV hlt3
        rw [LA_last C1 ZL s (by omega)] at hq1
        rw [LA_last C2 ZL s (by omega)] at hq2
        rw [hzs] at hpk hq1 hq2 hr1 hr2
        generalize (fLast C1 s).getD z = x1 at *
        generalize (fLast C2 s).getD z = x2 at *
        have l1 := beq_list x1
        have l2 := beq_list x2
        have l3 := beq_list z
        have HP := Lib.hid hpk; have HR1 := Lib.hid hr1; have HR2 := Lib.hid hr2; have HQ1 := Lib.hid hq1; have HQ2 := Lib.hid hq2; clear hpk hr1 hr2 hq1 hq2 hzs
        go_wp2_with fail
        refine (hs.read 1 s x1 0 (by rw [hl_c1]; omega) HR1.out).mono ?_
        rintro e w6 ⟨rfl, h6, k6⟩
        have c8 := k6 _ _ _ rfl b8
        clear b8 hs k6
        go_wp2_with fail
        refine (h6.read 2 s x2 0 (by rw [hl_c2]; omega) HR2.out).mono ?_
        rintro e w7 ⟨rfl, h7, k7⟩
        have d8 := k7 _ _ _ rfl c8
        clear c8 h6 k7
        have q1 : w7.cell? ⟨za, s, none⟩ = some (.string x1) := (d8.cell s).trans HQ1.out
        have q2 : w7.cell? ⟨za, 4 + s, none⟩ = some (.string x2) := (d8.cell (4 + s)).trans HQ2.out
        go_wp2_with fail
        refine (h7.peek s z HP.out).mono ?_
        rintro e w8 ⟨rfl, rfl⟩
        go_wp2_with fail
        go_roundw
        case rel => exact ⟨s + 1, vint (by omega), by omega, h7, d8⟩
        case measure => simp [intOf]; omega
      · obtain rfl : s = 4 := by omega
        go_wp2_with fail
        go_meet
        exact ⟨hs, b8⟩
  case rest =>
  clear h5 z8
  obtain ⟨h5, z8⟩ := hcut
  go_wp2_with fail
  refine (h5.flush 1 0 (by rw [hl_c1]; omega) (hl_flush hz4)).mono ?_
  rintro e w6 ⟨rfl, h6, k6⟩
  have z6 := k6 _ _ _ rfl z8
  clear h5 z8 k6
  go_wp2_with fail
  have hzl := hz4
  clear hz4
  go_loopw [18, 19, 20, 21, 22] (fun p _ _ _ _ wr => ∃ s : Nat, p = .int .i64 s ∧ s ≤ 4 ∧ DZ w wr g (HL (LA C1 ZL) [] C2) (fun k => k = za) ∧ Blk wr za 30 (strs (LA C1 ZL ++ LA C2 ZL))) (fun p _ _ _ _ _ => 4 - (intOf p).toNat)
  case atStart => exact ⟨0, rfl, by omega, h6, z6⟩
  case round =>
    clear h6 z6
    obtain ⟨s, rfl, hs4, hs, b8⟩ := hrel
    by_cases hlt3 : s < 4
    · have hpk := hl_peek (C1 := []) (C2 := C2) hU hlt3
      have hr2 := hl_read2 (C1 := []) (C2 := C2) hU hlt3
      have hq1 := uv_l (V := LA C2 ZL) hU hlt3
      have hq2 := uv_r hU hV hlt3
      have hsome := fLast_isSome C2 s
      rw [hsec.out] at hsome
      rw [LA_last C2 ZL s (by omega)] at hq2
      have hwr : (s ∈ secsOf o' n2 ∧ (fLast C2 s).getD ((LA C1 ZL).getD s ⟨#[]⟩) = (fLast C2 s).getD (ZL.getD s ⟨#[]⟩)) ∨ (s ∉ secsOf o' n2 ∧ (fLast C2 s).getD ((LA C1 ZL).getD s ⟨#[]⟩) = (LA C1 ZL).getD s ⟨#[]⟩) := by
        cases hf : fLast C2 s with
        | some y => rw [hf] at hsome; exact .inl ⟨by simpa using hsome.symm, rfl⟩
        | none => rw [hf] at hsome; exact .inr ⟨by simpa using hsome.symm, rfl⟩
      generalize (fLast C2 s).getD ((LA C1 ZL).getD s ⟨#[]⟩) = y at *
      generalize (LA C1 ZL).getD s ⟨#[]⟩ = x1 at *
      generalize (fLast C2 s).getD (ZL.getD s ⟨#[]⟩) = x2 at *
      have l1 := beq_list x1
      have l3 := beq_list y
      have q1 : wr.cell? ⟨za, s, none⟩ = some (.string x1) := (b8.cell s).trans hq1
      have cp : ∀ k, Calls Try.prog 16 #[.pointer (some ⟨g, 0, none⟩), .int .i64 s] (wr.drewN k) fun e w' => e = .returned (.string x1) ∧ ∃ m, w' = wr.drewN m :=
        fun k => ((hs.drewN k).peek s _ hpk).mono fun e w' ⟨e1, e2⟩ => ⟨e1, k, e2.symm⟩
      have CP := Lib.hid cp; have HR2 := Lib.hid hr2; have HQ1 := Lib.hid hq1; have HQ2 := Lib.hid hq2; have HW := Lib.hid hwr; clear cp hr2 hq1 hq2 hwr hsome hpk
      go_wp2_with fail
      go_quiet ((first | (go_at_call 16; exact CP.out _)))
      go_wp2_with fail
      refine ((hs.drewN _).read 2 s y 0 (by rw [hl_c2]; omega) HR2.out).mono ?_
      rintro e w7 ⟨rfl, h7, k7⟩
      have d8 := k7 _ _ _ rfl (b8.drewN _)
      clear b8 hs k7 q1
      go_wp2_with fail
      go_loopw [21, 22] (fun v p wr => ∃ i : Nat, p = .int .i64 i ∧ i ≤ len' ∧ i ≤ 12 ∧ v = .bool (decide (s ∈ secsOf o' i)) ∧ w7 = wr) (fun _ p _ => 12 - (intOf p).toNat)
      case atStart => exact ⟨0, rfl, by omega, by omega, by simp [secsOf], rfl⟩
      case round =>
        obtain ⟨i, rfl, hil, hi12, rfl, rfl⟩ := hrel
        have hss := secsOf_succ o' i
        by_cases hlt : i < len' ∧ i < 12
        · obtain ⟨hlt, hlt2⟩ := hlt
          obtain ⟨ad, rfl, hc0, hc1, hc2, hc3, hc4, _, _⟩ := ops_at zo' h7.b hlt
          have hd20 : decide ((i : Int) < 12) = true := by rw [decide_eq_true_eq]; omega
          have hf3 := i64_and3 (o'.K i 2)
          have hmem : decide (s ∈ secsOf o' (i + 1)) = (decide (s ∈ secsOf o' i) || decide (((o'.K i 2 % 4).toNat : Int) = (s : Int))) := by
            rw [hss, Bool.eq_iff_iff, Bool.or_eq_true, decide_eq_true_eq, decide_eq_true_eq, decide_eq_true_eq, List.mem_append, List.mem_singleton]
            constructor
            · rintro (h | h)
              · exact .inl h
              · exact .inr (by omega)
            · rintro (h | h)
              · exact .inl h
              · exact .inr (by omega)
          have HM := Lib.hid hmem; clear hmem hss
          generalize (o'.K i 2 % 4).toNat = si at *
          generalize o'.K i 2 = K2 at *
          cases hb : decide (s ∈ secsOf o' i) with
          | true =>
            rw [hb] at HM
            go_wp2_with fail
            go_roundw
            case rel => exact ⟨i + 1, vint (by omega), by omega, by omega, by rw [HM.out]; rfl, trivial⟩
            case measure => simp [intOf]; omega
          | false =>
            rw [hb] at HM
            by_cases hsi : (si : Int) = (s : Int)
            · have e1 : ((si : Int) == (s : Int)) = true := by rw [beq_iff_eq]; exact hsi
              have HS := Lib.hid hsi; clear hsi
              go_wp2_with fail
              go_roundw
              case rel => exact ⟨i + 1, vint (by omega), by omega, by omega, by rw [HM.out, decide_eq_true HS.out]; rfl, trivial⟩
              case measure => simp [intOf]; omega
            · have e1 : ((si : Int) == (s : Int)) = false := by rw [beq_eq_false_iff_ne]; exact hsi
              have HS := Lib.hid hsi; clear hsi
              go_wp2_with fail
              go_roundw
              case rel => exact ⟨i + 1, vint (by omega), by omega, by omega, by rw [HM.out, decide_eq_false HS.out]; rfl, trivial⟩
              case measure => simp [intOf]; omega
        · obtain rfl : i = n2 := by omega
          have hd : (decide (i < len') && decide ((i : Int) < 12)) = false := by simp; omega
          have q1 : w7.cell? ⟨za, s, none⟩ = some (.string x1) := (d8.cell s).trans HQ1.out
          have q2 : w7.cell? ⟨za, 4 + s, none⟩ = some (.string x2) := (d8.cell (4 + s)).trans HQ2.out
          rcases HW.out with ⟨hm, hy⟩ | ⟨hm, hy⟩
          · have e1 : decide (s ∈ secsOf o' i) = true := decide_eq_true hm
            rw [e1]
            subst hy
            clear HW hm e1 hss
            go_wp2_with fail
            all_goals go_roundw
            all_goals first | exact ⟨s + 1, vint (by omega), by omega, h7, d8⟩ | (simp [intOf]; omega)
          · have e1 : decide (s ∈ secsOf o' i) = false := decide_eq_false hm
            rw [e1]
            subst hy
            clear HW hm e1 hss
            go_wp2_with fail
            all_goals go_roundw
            all_goals first | exact ⟨s + 1, vint (by omega), by omega, h7, d8⟩ | (simp [intOf]; omega)
    · obtain rfl : s = 4 := by omega
      go_wp2_with fail
      go_ret
      exact ⟨rfl, hs.b⟩
end Go.Proofs.Ytekgoliakgknjaa
