import Derived.Test.YtekgoliakgknjaaDiV
namespace Go.Proofs.Ytekgoliakgknjaa
open Go.RowKit
set_option linter.unusedVariables false
attribute [local go_sem] b_max2 b_min2 b_max b_min

/-- keys 1 and 2, who is pending, what lies, the first one's cache -/
def PL (L : List ByteArray) (C : List Put) (q : List Int) : DS := (HL L C []).setPend q
/-- what lies once the cache of a key is lost but for the picks -/
def LP (st : Nat → Bool) (C : List Put) (L : List ByteArray) : List ByteArray := laid st C C.length L
theorem LP_snoc (st : Nat → Bool) (C : List Put) (p : Put) (L : List ByteArray) : LP st (C ++ [p]) L = if st C.length then (LP st C L).set p.1 p.2 else LP st C L := by
  unfold LP
  rw [List.length_append, List.length_singleton, laid, laid_append st C [p] L C.length (Nat.le_refl _)]
  have e : (C ++ [p]).getD C.length (0, ⟨#[]⟩) = p := by simp [List.getD_eq_getElem?_getD]
  rw [e]
theorem LP_len (st : Nat → Bool) (C : List Put) (L : List ByteArray) : (LP st C L).length = L.length := laid_len _ _ _ _
section
variable {L : List ByteArray} {C : List Put}
theorem pl_fence (hL : L.length = 4) : fFence (HL L C []) 2 1 = (PL L C [1], 0) := by
  unfold fFence
  have e : fMay (HL L C []) 2 0 false = 0 := hl_may2 hL (s := 0) (by omega)
  rw [if_neg (by omega), e, if_pos]
  · rfl
  · exact ⟨rfl, rfl, by simp [HL]⟩
theorem pl_cache (q : List Int) (k : Int) : (PL L C q).caches k = if k = 1 then C else [] := by
  show (if k = 2 then [] else if k = 1 then C else []) = _
  by_cases h : k = 2
  · rw [if_pos h, if_neg (by omega)]
  · rw [if_neg h]
theorem pl_settle (q : List Int) (st : Nat → Bool) : (fSettle (PL L C q) 1 st).setPend [] = HL (LP st C L) [] [] := by
  have h := hl_set1 (L := LP st C L) (C1 := C) (C2 := []) []
  rw [← h]; rfl
theorem pl_power (q : List Int) (ms zs : List Int) (m1 : ms.Pairwise (· < ·)) (m2 : ∀ k, k ∈ ms ↔ (PL L C q).caches k ≠ []) : (fPow ms zs (PL L C q)).setPend [] = HL (LP (pickF zs) C L) [] [] := by
  by_cases hC : C = []
  · subst hC
    have : ms = [] := by
      cases ms with
      | nil => rfl
      | cons a l => exact absurd (((m2 a).1 (by simp))) (by rw [pl_cache]; split <;> simp)
    subst this
    rfl
  · have h1 : ∀ k, k ∈ ms ↔ k = 1 := by
      intro k
      rw [m2, pl_cache]
      by_cases h : k = 1
      · rw [if_pos h]; exact ⟨fun _ => h, fun _ => hC⟩
      · rw [if_neg h]; simp [h]
    have : ms = [1] := by
      match ms, m1, h1 with
      | [], _, h1 => exact absurd ((h1 1).2 rfl) (by simp)
      | [a], _, h1 => rw [(h1 a).1 (by simp)]
      | a :: b :: l, m1, h1 =>
        have ha := (h1 a).1 (by simp)
        have hb := (h1 b).1 (by simp)
        rw [List.pairwise_cons] at m1
        have := m1.1 b (by simp)
        omega
    subst this
    exact pl_settle q _
end
theorem PK.arg {B w : World} {Z : Nat → Prop} {A : Option Addr} {n : Nat} {zs : List Int} (zl : zs.length = n) (zb : ∀ z ∈ zs, -9223372036854775808 ≤ z ∧ z ≤ 9223372036854775807) (zr : Reads B B.heap.size 1 A n (zs.map (Value.int .i64))) (hb : Below B.heap.size B w) : PK B w Z A n zs :=
  ⟨zl, ⟨_, zr.below hb⟩, fun h0 ad e => by
    obtain ⟨a, e1, e2, _⟩ := zr.2 h0
    obtain rfl : a = ad := by rw [e] at e1; exact (Option.some.inj e1).symm
    exact ⟨.inl e2, Nat.lt_of_lt_of_le e2 hb.size⟩, zb⟩
set_option maxRecDepth 100000 in
set_option maxHeartbeats 2000000 in
theorem law_loses (A : Option Addr) (len cap : Nat) (o : OpR) (A' : Option Addr) (n c : Nat) (zs : List Int) (w : World) (zo : OpsAt w A len o) (zl : zs.length = n ∧ n ≤ c) (zb : ∀ z ∈ zs, -9223372036854775808 ≤ z ∧ z ≤ 9223372036854775807) (zr : Reads w w.heap.size 1 A' n (zs.map (Value.int .i64))) :
    Calls Try.prog 6 #[.slice A len cap, .slice A' n c] w fun e w' => e = .returned (.bool true) ∧ Below w.heap.size w w' := by
  go_enter Try.func6, Try.ntmps6
  go_wp2_with fail
  refine (awake_any _).mono ?_
  rintro e w1 ⟨rfl, hb1⟩
  go_wp2_with fail
  refine (new_dl w w1 hb1 4 (by omega) (by omega)).mono ?_
  rintro e w2 ⟨g, rfl, h2⟩
  clear hb1
  go_wp2_with fail
  refine (h2.reg 1 0 (d' := ⟨Z4, K1, C0, []⟩) rfl).mono ?_
  rintro e w3 ⟨rfl, h3⟩
  clear h2
  go_wp2_with fail
  refine (h3.reg 2 0 (d' := HL Z4 [] []) (by
    show (_, _) = _
    congr 1
    unfold HL
    congr 1
    funext j
    split
    · rfl
    · split <;> rfl)).mono ?_
  rintro e w3 ⟨rfl, h3⟩
  obtain ⟨zl, znc⟩ := zl
  go_upto_if 29 with (fail)
  go_cut [1, 30, 31] (fun s _ _ w' => w3 = w' ∧ ∃ (n' c' : Nat) (zs' : List Int), s = .slice A' n' c' ∧ n' ≤ 12 ∧ n' ≤ c' ∧ zs'.length = n' ∧ (∀ z ∈ zs', -9223372036854775808 ≤ z ∧ z ≤ 9223372036854775807) ∧ Reads w w.heap.size 1 A' n' (zs'.map (Value.int .i64)))
  case first =>
    by_cases hn : 12 < n
    · go_wp2_with fail
      all_goals go_meet
      refine ⟨rfl, 12, c, zs.take 12, rfl, by omega, by omega, by rw [List.length_take]; omega, fun z hz => zb z (List.mem_of_mem_take hz), by rw [List.length_map, List.length_take]; omega, fun _ => ?_⟩
      obtain ⟨ad, e, k1, k2⟩ := zr.2 (by omega)
      refine ⟨ad, e, k1, fun j u hj => k2 j u ?_⟩
      rw [List.map_take, List.getElem?_take] at hj
      split at hj
      · exact hj
      · cases hj
    · go_wp2_with fail
      all_goals go_meet
      exact ⟨rfl, n, c, zs, rfl, by omega, znc, zl, zb, zr⟩
  case rest =>
  clear zr zb zl znc
  obtain ⟨rfl, n', c', zs', rfl, hn12, hnc, zl, zb, zr⟩ := hcut
  clear n c zs
  obtain ⟨w4, hm, hc, b4⟩ := zero_text w3 512 (by omega)
  have h4 := h3.low b4
  have hm' : (Instr.makeSlice 28 (.int .i64 512) (.int .i64 512)).run Try.prog w3 = .ok (.slice (some ⟨w3.heap.size, 0, none⟩) 512 512) w4 := hm
  clear h3 b4 hm
  generalize hZ : zeros 512 = z at *
  replace hZ := Lib.hid hZ
  go_upto_region 9 with (fail)
  have z8 : Blk (w4.alloc (.cells #[.string z, .string z, .string z, .string z] 29)) w4.heap.size 29 (strs [z, z, z, z]) := Blk.new w4 29 _
  have h5 : DZ w (w4.alloc (.cells #[.string z, .string z, .string z, .string z] 29)) g (HL Z4 [] []) (fun k => k = w4.heap.size) :=
    h4.dz ((Below.refl _ _).alloc (Nat.le_refl _) _) (fun k hk => by simp; omega)
  have hZ4 : Z4 = [z, z, z, z] := by rw [← hZ.out]; rfl
  rw [hZ4] at h5
  have hwz : w.heap.size ≤ w4.heap.size := h4.b.size
  clear h4 hm' hc hZ4
  generalize hzz : w4.heap.size = za at *
  generalize w4.alloc (.cells #[.string z, .string z, .string z, .string z] 29) = w5 at *
  clear hzz
  have hz4 : ([z, z, z, z] : List ByteArray).length = 4 := rfl
  generalize hZL : [z, z, z, z] = ZL at *
  replace hZL := Lib.hid hZL
  go_upto_block 0 with (fail)
  go_cut [9] (fun _ w' => ∃ C : List Put, C.length ≤ 12 ∧ DZ w w' g (HL ZL C []) (fun k => k = za) ∧ Blk w' za 29 (strs (LP (pickF zs') C ZL)))
  case first =>
    go_wp2_with fail
    go_loopw [9] (fun p wr => ∃ (i : Nat) (C : List Put), p = .int .i64 i ∧ i ≤ len ∧ i ≤ 12 ∧ C.length = i ∧ DZ w wr g (HL ZL C []) (fun k => k = za) ∧ Blk wr za 29 (strs (LP (pickF zs') C ZL))) (fun p _ => 12 - (intOf p).toNat)
    case atStart => exact ⟨0, [], rfl, by omega, by omega, rfl, h5, z8⟩
    case round =>
      clear h5 z8
      obtain ⟨i, C, rfl, hil, hi12, hC, hs, b8⟩ := hrel
      by_cases hlt : i < len ∧ i < 12
      · obtain ⟨hlt, hlt2⟩ := hlt
        obtain ⟨ad, rfl, hc0, hc1, hc2, hc3, hc4, _, _⟩ := ops_at zo hs.b hlt
        have hd12 : decide ((i : Int) < 12) = true := by rw [decide_eq_true_eq]; omega
        have hy := zo.yb i
        have hf3 := i64_and3 (o.K i 2)
        have hf4 : (o.K i 2 % 4).toNat < 4 := by omega
        generalize (o.K i 2 % 4).toNat = s at *
        generalize o.K i 2 = K2 at *
        generalize o.Y i = y at *
        have hT : (LP (pickF zs') C ZL).length = 4 := by rw [LP_len]; exact hz4
        go_wp2_with fail
        refine (sector_any y _ hy).mono ?_
        rintro e w6 ⟨rfl, b6⟩
        obtain ⟨h6, k6⟩ := hs.low b6
        have c8 := k6 _ _ _ rfl b8
        clear hs b8 k6 hc0 hc1 hc2 hc3 hc4
        go_wp2_with fail
        refine (h6.write 1 s (sec y) 0 (by show C.length ≤ 1000; omega) (hl_write1 hz4 hf4 y)).mono ?_
        rintro e w7 ⟨rfl, h7, k7⟩
        have d8 := k7 _ _ _ rfl c8
        clear c8 h6 k7 b6
        have hsnoc := LP_snoc (pickF zs') C (s, sec y) ZL
        rw [hC] at hsnoc
        by_cases hin : i < n'
        · obtain ⟨ad', rfl, hab, hcs⟩ := (zr.below h7.b).2 (by omega)
          have hcell := hcs i _ (by rw [List.getElem?_map, List.getElem?_eq_getElem (by omega)]; rfl)
          have e1 : pickF zs' i = ((zs'[i]'(by omega)).tmod 2 != 0) := by
            rw [pickF, decide_eq_true (by omega), Bool.true_and, List.getD_eq_getElem?_getD, List.getElem?_eq_getElem (by omega)]; rfl
          have hb' := zb (zs'[i]'(by omega)) (List.getElem_mem _)
          rw [e1] at hsnoc
          clear hcs e1
          generalize zs'[i]'(by omega) = q at *
          have tb1 := Int.tmod_lt_of_pos q (show (0:Int) < 2 by omega)
          have tb2 := Int.lt_tmod_of_pos q (show (0:Int) < 2 by omega)
          have hs4 : (s : Int) < 4 := by omega
          have f8 : w7.frozen? ⟨za, s, none⟩ = false := d8.frozen s
          have q8 : w7.cell? ⟨za, s, none⟩ = some (.string ((LP (pickF zs') C ZL).getD s ⟨#[]⟩)) := (d8.cell s).trans (strs_get _ (by omega))
          have h8 := h7.set_ (z := za) rfl hwz s (.string (sec y))
          have e8 := d8.set_ s (.string (sec y))
          rw [strs_set] at e8
          have HF := Lib.hid (And.intro h8 e8)
          clear h8 e8
          cases hq : (q.tmod 2 != 0) with
          | true =>
            rw [hq, if_pos rfl] at hsnoc
            go_wp2_with fail
            go_roundw
            case rel => exact ⟨i + 1, _, vint (by omega), by omega, by omega, by simp; omega, HF.out.1, by rw [hsnoc]; exact HF.out.2⟩
            case measure => simp [intOf]; omega
          | false =>
            rw [hq, if_neg (by simp)] at hsnoc
            go_wp2_with fail
            go_roundw
            case rel => exact ⟨i + 1, _, vint (by omega), by omega, by omega, by simp; omega, h7, by rw [hsnoc]; exact d8⟩
            case measure => simp [intOf]; omega
        · have e1 : pickF zs' i = false := by rw [pickF, decide_eq_false (by omega), Bool.false_and]
          rw [e1, if_neg (by simp)] at hsnoc
          go_wp2_with fail
          go_roundw
          case rel => exact ⟨i + 1, _, vint (by omega), by omega, by omega, by simp; omega, h7, by rw [hsnoc]; exact d8⟩
          case measure => simp [intOf]; omega
      · have hend : ∃ C : List Put, C.length ≤ 12 ∧ DZ w wr g (HL ZL C []) (fun k => k = za) ∧ Blk wr za 29 (strs (LP (pickF zs') C ZL)) := ⟨C, by omega, hs, b8⟩
        have hd : (decide (i < len) && decide ((i : Int) < 12)) = false := by simp; omega
        clear hs b8 zo
        go_wp2_with fail
        all_goals go_meet
        all_goals exact hend
  case rest =>
  clear h5 z8 zo
  obtain ⟨C, hC, hs, b8⟩ := hcut
  go_wp2_with fail
  refine (hs.fence 2 1 0 (by show 0 ≤ 100000; omega) (pl_fence hz4)).mono ?_
  rintro e w6 ⟨rfl, h6, k6⟩
  have c8 := k6 _ _ _ rfl b8
  clear hs b8 k6
  go_wp2_with fail
  refine (h6.power (fun k => by rw [pl_cache]; split; omega; simp) [1] (fun k hk => by rw [pl_cache] at hk; by_cases h : k = 1; simp [h]; rw [if_neg h] at hk; exact absurd rfl hk) (by intro k hk; simp at hk; omega) (by simp) A' n' c' zs' (PK.arg zl zb zr h6.b) hnc (by omega)).mono ?_
  rintro e w7 ⟨rfl, ms, m1, m2, h7, k7⟩
  rw [pl_power [1] ms zs' m1 m2] at h7
  have d8 := k7 _ _ _ rfl c8
  have hT : (LP (pickF zs') C ZL).length = 4 := by rw [LP_len]; exact hz4
  clear c8 h6 k7 m1 m2
  generalize LP (pickF zs') C ZL = T at *
  clear zr zb zl
  go_wp2_with fail
  go_loopw [12] (fun p wr => ∃ s : Nat, p = .int .i64 s ∧ s ≤ 4 ∧ DZ w wr g (HL T [] []) (fun k => k = za) ∧ Blk wr za 29 (strs T)) (fun p _ => 4 - (intOf p).toNat)
  case atStart => exact ⟨0, rfl, by omega, h7, d8⟩
  case round =>
    clear h7 d8
    obtain ⟨s, rfl, hs4, hs, b8⟩ := hrel
    by_cases hlt3 : s < 4
    · have q8 : wr.cell? ⟨za, s, none⟩ = some (.string (T.getD s ⟨#[]⟩)) := (b8.cell s).trans (strs_get _ (by omega))
      have cp : ∀ k, Calls Try.prog 16 #[.pointer (some ⟨g, 0, none⟩), .int .i64 s] (wr.drewN k) fun e w' => e = .returned (.string (T.getD s ⟨#[]⟩)) ∧ ∃ m, w' = wr.drewN m :=
        fun k => ((hs.drewN k).peek s _ (hl_peek hT hlt3)).mono fun e w' ⟨e1, e2⟩ => ⟨e1, k, e2.symm⟩
      generalize T.getD s ⟨#[]⟩ = x1 at *
      have l1 := beq_list x1
      have CP := Lib.hid cp; clear cp
      go_wp2_with fail
      go_quiet ((first | (go_at_call 16; exact CP.out _)))
      go_wp2_with fail
      go_roundw
      case rel => exact ⟨s + 1, vint (by omega), by omega, hs.drewN _, b8.drewN _⟩
      case measure => simp [intOf]; omega
    · obtain rfl : s = 4 := by omega
      go_wp2_with (go_at_call 22; refine (hs.pending (by show 0 ≤ 100000; omega)).mono ?_; rintro e w8 ⟨v, rfl, ho, h8, k8, b8⟩)
      obtain ⟨X, cc, rfl, _, _⟩ := Reads.of_own ho
      have hle : (Builtin.len_ #[31] 3 #[.slice X (HL T [] []).pend.length cc]).run Try.prog w8 = .ok (.int .i64 0) w8 := by
        rw [show (HL T [] []).pend.length = 0 from rfl]; simp [go_sem]
      rw [hle]
      clear hle ho
      go_wp2_with (first
        | (go_at_call 23; refine (h8.registered _ true rfl).mono ?_; rintro e w9 ⟨rfl, rfl⟩)
        | (go_at_call 19; refine (h8.cached 1).mono ?_; rintro e w9 ⟨rfl, rfl⟩))
      go_ret
      exact ⟨rfl, h8.b⟩
end Go.Proofs.Ytekgoliakgknjaa
