import Derived.Test.YtekgoliakgknjaaDj
namespace Go.Proofs.Ytekgoliakgknjaa
open Go.RowKit
set_option linter.unusedVariables false
attribute [local go_sem] b_max2 b_min2 b_max b_min

set_option maxRecDepth 100000 in
set_option maxHeartbeats 4000000 in
theorem law_fences (A : Option Addr) (len cap : Nat) (o : OpR) (A' : Option Addr) (n c : Nat) (zs : List Int) (A2 : Option Addr) (len2 cap2 : Nat) (o2 : OpR) (w : World) (zo : OpsAt w A len o) (zl : zs.length = n ∧ n ≤ c) (zb : ∀ z ∈ zs, -9223372036854775808 ≤ z ∧ z ≤ 9223372036854775807) (zr : Reads w w.heap.size 1 A' n (zs.map (Value.int .i64))) (zo2 : OpsAt w A2 len2 o2) :
    Calls Try.prog 7 #[.slice A len cap, .slice A' n c, .slice A2 len2 cap2] w fun e w' => e = .returned (.bool true) ∧ Below w.heap.size w w' := by
  go_enter Try.func7, Try.ntmps7
  go_wp2_with fail
  refine (awake_any _).mono ?_
  rintro e w1 ⟨rfl, hb1⟩
  go_wp2_with fail
  refine (new_dl w w1 hb1 4 (by omega) (by omega)).mono ?_
  rintro e w2 ⟨g, rfl, h2⟩
  clear hb1
  go_wp2_with fail
  refine (h2.reg 1 0 (d' := ⟨Z4, K1, C0, []⟩) rfl).mono ?_
  rintro e w3 ⟨rfl, h3⟩
  clear h2
  go_wp2_with fail
  refine (h3.reg 2 0 (d' := HL Z4 [] []) (by
    show (_, _) = _
    congr 1
    unfold HL
    congr 1
    funext j
    split
    · rfl
    · split <;> rfl)).mono ?_
  rintro e w3 ⟨rfl, h3⟩
  obtain ⟨zl, znc⟩ := zl
  go_upto_if 41 with (fail)
  go_cut [1, 42, 43] (fun s _ _ w' => w3 = w' ∧ ∃ (n' c' : Nat) (zs' : List Int), s = .slice A' n' c' ∧ n' ≤ 12 ∧ n' ≤ c' ∧ zs'.length = n' ∧ (∀ z ∈ zs', -9223372036854775808 ≤ z ∧ z ≤ 9223372036854775807) ∧ Reads w w.heap.size 1 A' n' (zs'.map (Value.int .i64)))
  case first =>
    by_cases hn : 12 < n
    · go_wp2_with fail
      all_goals go_meet
      refine ⟨rfl, 12, c, zs.take 12, rfl, by omega, by omega, by rw [List.length_take]; omega, fun z hz => zb z (List.mem_of_mem_take hz), by rw [List.length_map, List.length_take]; omega, fun _ => ?_⟩
      obtain ⟨ad, e, k1, k2⟩ := zr.2 (by omega)
      refine ⟨ad, e, k1, fun j u hj => k2 j u ?_⟩
      rw [List.map_take, List.getElem?_take] at hj
      split at hj
      · exact hj
      · cases hj
    · go_wp2_with fail
      all_goals go_meet
      exact ⟨rfl, n, c, zs, rfl, by omega, znc, zl, zb, zr⟩
  case rest =>
  clear zr zb zl znc
  obtain ⟨rfl, n', c', zs', rfl, hn12, hnc, zl, zb, zr⟩ := hcut
  clear n c zs
  have hz4 : Z4.length = 4 := rfl
  have hpk0 : ∀ s : Nat, s < 4 → fPeek (HL Z4 [] []) s = zeros 512 := fun s hs => by
    rw [hl_peek hz4 hs]
    match s, hs with
    | 0, _ => rfl
    | 1, _ => rfl
    | 2, _ => rfl
    | 3, _ => rfl
  have hZ4 : Z4.map Value.string = fillV (zeros 512) 4 4 := rfl
  have hw4 : Whole Z4 := by
    intro x hx
    rw [List.eq_of_mem_replicate hx]
    exact odd_z
  generalize zeros 512 = z at *
  generalize Z4 = ZL at *
  go_upto_region 8 with (fail)
  have z8 : Blk (w3.alloc (.cells #[.string ⟨#[]⟩, .string ⟨#[]⟩, .string ⟨#[]⟩, .string ⟨#[]⟩] 29)) w3.heap.size 29 (fillV z 0 4).toArray := Blk.new w3 29 _
  have h5 : DZ w (w3.alloc (.cells #[.string ⟨#[]⟩, .string ⟨#[]⟩, .string ⟨#[]⟩, .string ⟨#[]⟩] 29)) g (HL ZL [] []) (fun k => k = w3.heap.size) :=
    h3.dz ((Below.refl _ _).alloc (Nat.le_refl _) _) (fun k hk => by simp; omega)
  have hwz : w.heap.size ≤ w3.heap.size := h3.b.size
  clear h3
  generalize hzz : w3.heap.size = za at *
  generalize w3.alloc (.cells #[.string ⟨#[]⟩, .string ⟨#[]⟩, .string ⟨#[]⟩, .string ⟨#[]⟩] 29) = w5 at *
  clear hzz
  go_upto_block 0 with (fail)
  go_cut [10] (fun _ w' => DZ w w' g (HL ZL [] []) (fun k => k = za) ∧ Blk w' za 29 (strs ZL))
  case first =>
    clear zr zo zo2
    go_wp2_with fail
    go_loopw [10] (fun p wr => ∃ s : Nat, p = .int .i64 s ∧ s ≤ 4 ∧ DZ w wr g (HL ZL [] []) (fun k => k = za) ∧ Blk wr za 29 (fillV z s 4).toArray) (fun p _ => 4 - (intOf p).toNat)
    case atStart => exact ⟨0, rfl, by omega, h5, z8⟩
    case round =>
      clear h5 z8
      obtain ⟨s, rfl, hs4, hs, b8⟩ := hrel
      by_cases hlt : s < 4
      · have hs5 : (s : Int) < 4 := by omega
        have hfz : wr.frozen? ⟨za, s, none⟩ = false := b8.frozen s
        have hq : wr.cell? ⟨za, s, none⟩ = some (.string ⟨#[]⟩) := by
          rw [b8.cell s, List.getElem?_toArray, fillV, List.getElem?_append_right (by simp), List.length_replicate, Nat.sub_self, List.getElem?_replicate, if_pos (by omega)]
        have h8 := hs.set_ (z := za) rfl hwz s (.string z)
        have e8 := b8.set_ s (.string z)
        rw [show (fillV z s 4).toArray.setIfInBounds s (.string z) = (fillV z (s + 1) 4).toArray by rw [← fillV_set z s 4 hlt]; simp] at e8
        have HF := Lib.hid (And.intro h8 e8)
        clear h8 e8
        go_wp2_with (go_at_call 16; refine (hs.peek s z (hpk0 s hlt)).mono ?_; rintro e wg ⟨rfl, rfl⟩)
        go_roundw
        case rel => exact ⟨s + 1, vint (by omega), by omega, HF.out.1, HF.out.2⟩
        case measure => simp [intOf]; omega
      · obtain rfl : s = 4 := by omega
        go_wp2_with fail
        all_goals go_meet
        exact ⟨hs, by unfold strs; rw [hZ4]; exact b8⟩
  case rest =>
  clear h5 z8 hpk0 hZ4
  obtain ⟨h5, z8⟩ := hcut
  go_upto_block 2 with (fail)
  go_cut [11, 12] (fun _ _ w' => ∃ C : List Put, C.length ≤ 12 ∧ DZ w w' g (HL ZL C []) (fun k => k = za) ∧ Blk w' za 29 (strs (LP (pickF zs') C ZL)) ∧ Whole (LP (pickF zs') C ZL))
  case first =>
    clear zo2
    go_wp2_with fail
    go_loopw [11, 12] (fun nv p wr => ∃ (i : Nat) (C : List Put), nv = .int .i64 i ∧ p = .int .i64 i ∧ i ≤ len ∧ i ≤ 12 ∧ C.length = i ∧ DZ w wr g (HL ZL C []) (fun k => k = za) ∧ Blk wr za 29 (strs (LP (pickF zs') C ZL)) ∧ Whole (LP (pickF zs') C ZL)) (fun _ p _ => 12 - (intOf p).toNat)
    case atStart => exact ⟨0, [], rfl, rfl, by omega, by omega, rfl, h5, z8, hw4⟩
    case round =>
      clear h5 z8
      obtain ⟨i, C, rfl, rfl, hil, hi12, hC, hs, b8, hw⟩ := hrel
      by_cases hlt : i < len ∧ i < 12
      · obtain ⟨hlt, hlt2⟩ := hlt
        obtain ⟨ad, rfl, hc0, hc1, hc2, hc3, hc4, _, _⟩ := ops_at zo hs.b hlt
        have hd12 : decide ((i : Int) < 12) = true := by rw [decide_eq_true_eq]; omega
        have hy := zo.yb i
        have hf3 := i64_and3 (o.K i 2)
        have hf4 : (o.K i 2 % 4).toNat < 4 := by omega
        generalize (o.K i 2 % 4).toNat = s at *
        generalize o.K i 2 = K2 at *
        generalize o.Y i = y at *
        have hT : (LP (pickF zs') C ZL).length = 4 := by rw [LP_len]; exact hz4
        go_wp2_with fail
        refine (sector_any y _ hy).mono ?_
        rintro e w6 ⟨rfl, b6⟩
        obtain ⟨h6, k6⟩ := hs.low b6
        have c8 := k6 _ _ _ rfl b8
        clear hs b8 k6 hc0 hc1 hc2 hc3 hc4
        go_wp2_with fail
        refine (h6.write 1 s (sec y) 0 (by show C.length ≤ 1000; omega) (hl_write1 hz4 hf4 y)).mono ?_
        rintro e w7 ⟨rfl, h7, k7⟩
        have d8 := k7 _ _ _ rfl c8
        clear c8 h6 k7 b6
        have hsnoc := LP_snoc (pickF zs') C (s, sec y) ZL
        rw [hC] at hsnoc
        by_cases hin : i < n'
        · obtain ⟨ad', rfl, hab, hcs⟩ := (zr.below h7.b).2 (by omega)
          have hcell := hcs i _ (by rw [List.getElem?_map, List.getElem?_eq_getElem (by omega)]; rfl)
          have e1 : pickF zs' i = ((zs'[i]'(by omega)).tmod 2 != 0) := by
            rw [pickF, decide_eq_true (by omega), Bool.true_and, List.getD_eq_getElem?_getD, List.getElem?_eq_getElem (by omega)]; rfl
          have hb' := zb (zs'[i]'(by omega)) (List.getElem_mem _)
          rw [e1] at hsnoc
          clear hcs e1
          generalize zs'[i]'(by omega) = q at *
          have tb1 := Int.tmod_lt_of_pos q (show (0:Int) < 2 by omega)
          have tb2 := Int.lt_tmod_of_pos q (show (0:Int) < 2 by omega)
          have hs4 : (s : Int) < 4 := by omega
          have f8 : w7.frozen? ⟨za, s, none⟩ = false := d8.frozen s
          have q8 : w7.cell? ⟨za, s, none⟩ = some (.string ((LP (pickF zs') C ZL).getD s ⟨#[]⟩)) := (d8.cell s).trans (strs_get _ (by omega))
          have h8 := h7.set_ (z := za) rfl hwz s (.string (sec y))
          have e8 := d8.set_ s (.string (sec y))
          rw [strs_set] at e8
          have HF := Lib.hid (And.intro h8 (And.intro e8 (hw.set s y)))
          clear h8 e8
          cases hq : (q.tmod 2 != 0) with
          | true =>
            rw [hq, if_pos rfl] at hsnoc
            go_wp2_with fail
            go_roundw
            case rel => exact ⟨i + 1, _, vint (by omega), vint (by omega), by omega, by omega, by simp; omega, HF.out.1, by rw [hsnoc]; exact HF.out.2.1, by rw [hsnoc]; exact HF.out.2.2⟩
            case measure => simp [intOf]; omega
          | false =>
            rw [hq, if_neg (by simp)] at hsnoc
            go_wp2_with fail
            go_roundw
            case rel => exact ⟨i + 1, _, vint (by omega), vint (by omega), by omega, by omega, by simp; omega, h7, by rw [hsnoc]; exact d8, by rw [hsnoc]; exact hw⟩
            case measure => simp [intOf]; omega
        · have e1 : pickF zs' i = false := by rw [pickF, decide_eq_false (by omega), Bool.false_and]
          rw [e1, if_neg (by simp)] at hsnoc
          go_wp2_with fail
          go_roundw
          case rel => exact ⟨i + 1, _, vint (by omega), vint (by omega), by omega, by omega, by simp; omega, h7, by rw [hsnoc]; exact d8, by rw [hsnoc]; exact hw⟩
          case measure => simp [intOf]; omega
      · have hend : ∃ C : List Put, C.length ≤ 12 ∧ DZ w wr g (HL ZL C []) (fun k => k = za) ∧ Blk wr za 29 (strs (LP (pickF zs') C ZL)) ∧ Whole (LP (pickF zs') C ZL) := ⟨C, by omega, hs, b8, hw⟩
        have hd : (decide (i < len) && decide ((i : Int) < 12)) = false := by simp; omega
        clear hs b8 zo hw
        go_wp2_with fail
        all_goals go_meet
        all_goals exact hend
  case rest =>
  clear h5 z8 zo hw4
  obtain ⟨C, hC, hs, b8, hw⟩ := hcut
  go_wp2_with fail
  refine (hs.fence 2 1 0 (by show 0 ≤ 100000; omega) (pl_fence hz4)).mono ?_
  rintro e w6 ⟨rfl, h6, k6⟩
  have c8 := k6 _ _ _ rfl b8
  clear hs b8 k6
  go_wp2_with fail
  refine (h6.registered 1 true rfl).mono ?_
  rintro e w6' ⟨rfl, rfl⟩
  go_wp2_with fail
  refine (h6.takes A' n' c' zs' 1 (PK.arg zl zb zr h6.b) (fun k => by rw [pl_cache]; split; omega; simp) (by show 1 ≤ 100000; omega) (pl_takes zs')).mono ?_
  rintro e w7 ⟨rfl, h7, k7⟩
  have d8 := k7 _ _ _ rfl c8
  have hT : (LP (pickF zs') C ZL).length = 4 := by rw [LP_len]; exact hz4
  clear c8 h6 k7 zr zb zl
  generalize LP (pickF zs') C ZL = T at *
  go_wp2_with fail
  refine (h7.registered 1 false rfl).mono ?_
  rintro e w7' ⟨rfl, rfl⟩
  go_upto_block 4 with (fail)
  go_cut [15] (fun _ w' => DZ w w' g (QL T) (fun k => k = za) ∧ Blk w' za 29 (strs T))
  case first =>
    go_wp2_with fail
    go_loopw [15] (fun p wr => ∃ i : Nat, p = .int .i64 i ∧ i ≤ len2 ∧ i ≤ 20 ∧ DZ w wr g (QL T) (fun k => k = za) ∧ Blk wr za 29 (strs T)) (fun p _ => 20 - (intOf p).toNat)
    case atStart => exact ⟨0, rfl, by omega, by omega, h7, d8⟩
    case round =>
      clear h7 d8
      obtain ⟨i, rfl, hil, hi20, hs, b8⟩ := hrel
      by_cases hlt : i < len2 ∧ i < 20
      · obtain ⟨hlt, hlt2⟩ := hlt
        obtain ⟨ad, rfl, hc0, hc1, hc2, hc3, hc4, hc5, hc6⟩ := ops_at zo2 hs.b hlt
        have hd20 : decide ((i : Int) < 20) = true := by rw [decide_eq_true_eq]; omega
        have hy := zo2.yb i
        have hf3 := i64_and3 (o2.K i 2)
        have hf4 : (o2.K i 2 % 4).toNat < 4 := by omega
        obtain ⟨B6, n6, c6, zs6, e6, _⟩ := zo2.pk i hlt
        rw [e6] at hc6
        clear e6
        generalize (o2.K i 2 % 4).toNat = s at *
        generalize o2.K i 0 = q0 at *
        generalize o2.K i 1 = q1 at *
        generalize o2.K i 2 = q2 at *
        generalize o2.K i 3 = q3 at *
        generalize o2.Y i = y at *
        generalize o2.T i = q5 at *
        go_upto_region 29 with (fail)
        have h6 : DZ w (wr.alloc (.cells #[.int .i64 q0, .int .i64 q1, .int .i64 q2, .int .i64 q3, .int .u8 y, .bool q5, .slice B6 n6 c6] 33)) g (QL T) (fun k => k = za ∨ k = wr.heap.size) := hs.grow _
        have o6 : Blk (wr.alloc (.cells #[.int .i64 q0, .int .i64 q1, .int .i64 q2, .int .i64 q3, .int .u8 y, .bool q5, .slice B6 n6 c6] 33)) wr.heap.size 33 _ := Blk.new _ _ _
        have c8 : Blk (wr.alloc (.cells #[.int .i64 q0, .int .i64 q1, .int .i64 q2, .int .i64 q3, .int .u8 y, .bool q5, .slice B6 n6 c6] 33)) za 29 (strs T) := b8.alloc _
        clear hs b8 hc0 hc1 hc2 hc3 hc4 hc5 hc6 zo2
        generalize wr.heap.size = zb at *
        generalize wr.alloc (.cells #[.int .i64 q0, .int .i64 q1, .int .i64 q2, .int .i64 q3, .int .u8 y, .bool q5, .slice B6 n6 c6] 33) = wx at *
        have r2 : wx.cell? ⟨zb, 2, none⟩ = some (.int .i64 q2) := o6.cell 2
        have r4 : wx.cell? ⟨zb, 4, none⟩ = some (.int .u8 y) := o6.cell 4
        go_wp2_with fail
        refine (sector_any y _ hy).mono ?_
        rintro e w8 ⟨rfl, b8⟩
        obtain ⟨h8, k8⟩ := h6.low b8
        have c9 := k8 _ _ _ (.inl rfl) c8
        have o9 := k8 _ _ _ (.inr rfl) o6
        clear h6 k8 c8 o6 r2 r4
        go_wp2_with fail
        refine (h8.write 1 s (sec y) 14 (by show 0 ≤ 1000; omega) (ql_write hT hf4 y)).mono ?_
        rintro e w9 ⟨rfl, h9, k9⟩
        have c10 := k9 _ _ _ (.inl rfl) c9
        have o10 := k9 _ _ _ (.inr rfl) o9
        clear h8 k9 c9 o9 b8
        go_wp2_with fail
        refine (h9.flush 1 14 (by show 0 ≤ 100000; omega) (ql_flush hT)).mono ?_
        rintro e w8 ⟨rfl, h8, k9⟩
        have c9 := k9 _ _ _ (.inl rfl) c10
        have o9 := k9 _ _ _ (.inr rfl) o10
        clear h9 k9 c10 o10
        go_wp2_with fail
        have hpk := ql_peek hT hf4
        have hsw := fun old ho => ql_swap hT hf4 old ho y
        have hwt := hw.get (s := s) (by omega)
        have hrd := ql_read hT hf4
        generalize T.getD s ⟨#[]⟩ = x1 at *
        have r4 : w8.cell? ⟨zb, 4, none⟩ = some (.int .u8 y) := o9.cell 4
        have o9d := o9.drewN 1
        have c9d := c9.drewN 1
        have h8d := h8.drewN 1
        clear o9 c9 h8
        go_region_held3 (fun w' => w'.cell? ⟨zb, 4, none⟩ = some (.int .u8 y)) (go_keep)
          (first
            | (go_at_call 16; refine (h8d.peek _ _ hpk).mono ?_; rintro e wg ⟨rfl, rfl⟩)
            | (go_at_call 13; refine (sector_any y _ hy).mono ?_; rintro e wg ⟨rfl, bg⟩; obtain ⟨hg, kg⟩ := h8d.low bg; have o13 := kg _ _ _ (.inr rfl) o9d; have c13 := kg _ _ _ (.inl rfl) c9d; have v4 : wg.cell? ⟨zb, 4, none⟩ = some (.int .u8 y) := o13.cell 4)
            | (go_at_call 18; refine (hg.swap 1 s x1 (sec y) 14 (by show 0 ≤ 100000; omega) (hsw _ hwt)).mono ?_; rintro e wf ⟨rfl, hf, kf⟩; have o18 := kf _ _ _ (.inr rfl) o13; have c18 := kf _ _ _ (.inl rfl) c13; have v18 : wf.cell? ⟨zb, 4, none⟩ = some (.int .u8 y) := o18.cell 4))
        clear h8d o9d c9d hg kg o13 c13 v4 r4 o18 v18 kf bg
        go_wp2_with fail
        refine (hf.fence 1 2 14 (by show 0 ≤ 100000; omega) (ql_fence hT)).mono ?_
        rintro e w6 ⟨rfl, h6, k6⟩
        have c6 := k6 _ _ _ (.inl rfl) c18
        clear hf k6 c18
        go_wp2_with fail
        refine (h6.read 1 s _ 14 (by show 0 ≤ 100000; omega) hrd).mono ?_
        rintro e w8 ⟨rfl, h8, k8⟩
        have c8 := k8 _ _ _ (.inl rfl) c6
        clear h6 k8 c6
        go_wp2_with fail
        have h9 := h8.grow (.cells #[.int .i64 1, .int .i64 1, .int .i64 1] 3)
        have p9 : PK w _ _ (some ⟨w8.heap.size, 0, none⟩) 3 [1, 1, 1] := PK.new w8 h8.b (Z := fun k => k = za ∨ k = zb)
        have c9 := c8.alloc (.cells #[.int .i64 1, .int .i64 1, .int .i64 1] 3)
        refine (h9.drop 1 _ 3 3 [1, 1, 1] p9 (by show 0 ≤ 100000; omega) (ql_settle _)).mono ?_
        rintro e wf ⟨rfl, hf, kf⟩
        have c10 := kf _ _ _ (.inl (.inl rfl)) c9
        have hf' : DZ w wf g (QL T) (fun k => k = za) := hf.less (fun k e => .inl (.inl e))
        clear h8 c8 h9 p9 c9 hf kf
        go_wp2_with fail
        go_roundw
        case rel => exact ⟨i + 1, vint (by omega), by omega, by omega, hf', c10⟩
        case measure => simp [intOf]; omega
      · have hd : (decide (i < len2) && decide ((i : Int) < 20)) = false := by simp; omega
        go_wp2_with fail
        all_goals go_meet
        all_goals exact ⟨hs, b8⟩
  case rest =>
  clear h7 d8 zo2
  obtain ⟨hs, b8⟩ := hcut
  go_wp2_with fail
  have h9 := hs.grow (.cells #[.int .i64 1, .int .i64 1, .int .i64 1] 3)
  have p9 : PK w _ _ (some ⟨wc.heap.size, 0, none⟩) 3 [1, 1, 1] := PK.new wc hs.b (Z := fun k => k = za)
  have c9 := b8.alloc (.cells #[.int .i64 1, .int .i64 1, .int .i64 1] 3)
  refine (h9.power (fun k => by show 0 ≤ 100000; omega) [] (fun k hk => absurd rfl hk) (by simp) (by simp) _ 3 3 [1, 1, 1] p9 (by omega) (by omega)).mono ?_
  rintro e w7 ⟨rfl, ms, m1, m2, h7, k7⟩
  rw [ql_power ms _ m2] at h7
  have d8 := k7 _ _ _ (.inl rfl) c9
  have h8 : DZ w w7 g (QL T) (fun k => k = za) := h7.less (fun k e => .inl e)
  clear h9 p9 c9 h7 k7 m1 m2 hs b8
  go_wp2_with fail
  go_loopw [24] (fun p wr => ∃ s : Nat, p = .int .i64 s ∧ s ≤ 4 ∧ DZ w wr g (QL T) (fun k => k = za) ∧ Blk wr za 29 (strs T)) (fun p _ => 4 - (intOf p).toNat)
  case atStart => exact ⟨0, rfl, by omega, h8, d8⟩
  case round =>
    clear h8 d8
    obtain ⟨s, rfl, hs4, hs, b8⟩ := hrel
    by_cases hlt3 : s < 4
    · have q8 : wr.cell? ⟨za, s, none⟩ = some (.string (T.getD s ⟨#[]⟩)) := (b8.cell s).trans (strs_get _ (by omega))
      have cp : ∀ k, Calls Try.prog 16 #[.pointer (some ⟨g, 0, none⟩), .int .i64 s] (wr.drewN k) fun e w' => e = .returned (.string (T.getD s ⟨#[]⟩)) ∧ ∃ m, w' = wr.drewN m :=
        fun k => ((hs.drewN k).peek s _ (ql_peek hT hlt3)).mono fun e w' ⟨e1, e2⟩ => ⟨e1, k, e2.symm⟩
      generalize T.getD s ⟨#[]⟩ = x1 at *
      have l1 := beq_list x1
      have CP := Lib.hid cp; clear cp
      go_wp2_with fail
      go_quiet ((first | (go_at_call 16; exact CP.out _)))
      go_wp2_with fail
      go_roundw
      case rel => exact ⟨s + 1, vint (by omega), by omega, hs.drewN _, b8.drewN _⟩
      case measure => simp [intOf]; omega
    · obtain rfl : s = 4 := by omega
      go_wp2_with (first
        | (go_at_call 12; refine (hs.reg 1 13 (ql_reg hT)).mono ?_; rintro e w8 ⟨rfl, h8, k8⟩)
        | (go_at_call 23; refine (h8.registered _ true rfl).mono ?_; rintro e w9 ⟨rfl, rfl⟩)
        | (go_at_call 19; refine (h8.cached 1).mono ?_; rintro e w9 ⟨rfl, rfl⟩))
      go_ret
      exact ⟨rfl, h8.b⟩
end Go.Proofs.Ytekgoliakgknjaa
