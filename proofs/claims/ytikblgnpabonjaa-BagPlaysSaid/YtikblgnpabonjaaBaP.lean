import Derived.Test.YtikblgnpabonjaaBaO
namespace Go.Proofs.Ytikblgnpabonjaa
open Go.RowKit
set_option linter.unusedVariables false
attribute [local go_sem] b_max2 b_min2 b_max b_min

set_option maxRecDepth 100000 in
set_option maxHeartbeats 1000000 in
theorem law_voids (A : Option Addr) (len cap : Nat) (K : Nat → Nat → Int) (S : Nat → ByteArray) (x : Int) (w : World)
    (zb : ∀ i j, -9223372036854775808 ≤ K i j ∧ K i j ≤ 9223372036854775807) (zr : Reads w w.heap.size 5 A len (opsC K S len)) (h0 : -9223372036854775808 ≤ x) (h1 : x ≤ 9223372036854775807) :
    Calls Try.prog 6 #[.slice A len cap, .int .i64 x] w fun e w' => e = .returned (.bool true) ∧ Below w.heap.size w w' := by
  obtain ⟨i0, hi, hz0, hz1, hz2⟩ := info_parts pc_info
  clear zb
  have hn3 := i64_and3 x
  have hn4 : (x % 4).toNat < 4 := by omega
  generalize (x % 4).toNat = n at *
  go_enter Try.func6, Try.ntmps6
  go_wp2_with fail
  refine (awake_any _).mono ?_
  rintro e w1 ⟨rfl, hb1⟩
  go_wp2_with fail
  refine (new_ls w _ hb1).mono ?_
  rintro e w2 ⟨g, rfl, s2, _, _, _⟩
  clear hb1
  go_upto_block 0 with (fail)
  go_cut [9] (fun v w' => ∃ (F : Nat → Prop) (Ls : List (List ByteArray)) (c : Nat), v = .int .i64 c ∧ c = (voidTo Ls n 8).2 ∧ LS w w' g F Ls)
  case first =>
    go_wp2_with fail
    go_loopw [9, 10, 11] (fun v p _ wr => ∃ (i : Nat) (F : Nat → Prop) (Ls : List (List ByteArray)) (c : Nat), p = .int .i64 i ∧ i ≤ len ∧ i ≤ 30 ∧ v = .int .i64 c ∧ c ≤ i ∧ c = (voidTo Ls n 8).2 ∧ LS w wr g F Ls) (fun _ p _ _ => 30 - (intOf p).toNat)
    case atStart => exact ⟨0, _, _, 0, rfl, by omega, by omega, rfl, by omega, (voidTo_zero (by omega)).symm, s2⟩
    case round =>
      clear s2
      obtain ⟨i, F, Ls, c, rfl, hil, hi20, rfl, hci, hc, hs⟩ := hrel
      replace hc := Lib.hid hc
      by_cases hlt : i < len ∧ i < 30
      · obtain ⟨hlt, hlt2⟩ := hlt
        obtain ⟨ad, rfl, _, hc1, hc2, _, hc4⟩ := ops_at zr hs.b hlt
        have hd20 : decide ((i : Int) < 30) = true := by rw [decide_eq_true_eq]; omega
        have hf3 := i64_and3 (K i 1)
        have hf4 : (K i 1 % 4).toNat < 4 := by omega
        have ht3 := i64_and3 (K i 2)
        have ht4 : (K i 2 % 4).toNat < 4 := by omega
        generalize (K i 1 % 4).toNat = f at *
        generalize (K i 2 % 4).toNat = t at *
        obtain ⟨s, hsz, HS⟩ := short_one (S i) 60 (by omega)
        replace HS : ∀ w, Calls Try.prog 12 #[.string (S i), .int .i64 60] w fun e w' => e = .returned (.string s) ∧ w = w' := HS
        generalize S i = si at *
        generalize K i 1 = K1 at *
        generalize K i 2 = K2 at *
        go_wp2_with fail
        go_region_held3 (fun w' => w'.cell? ⟨(ad.add (i * 5)).block, (ad.add (i * 5)).off + 1, none⟩ = some (.int .i64 K1) ∧ w'.cell? ⟨(ad.add (i * 5)).block, (ad.add (i * 5)).off + 2, none⟩ = some (.int .i64 K2) ∧ w'.cell? ⟨(ad.add (i * 5)).block, (ad.add (i * 5)).off + 4, none⟩ = some (.string si)) (go_keep) (first | (go_at_call 12; refine (HS _).mono ?_; rintro e wa ⟨rfl, rfl⟩))
        all_goals
          have hal := hs.low ((Below.refl _ wr).alloc (Nat.le_refl _) (.cells #[.int .i64 f, .int .i64 t, .string s] 32))
          have hB : Blk (wr.alloc (.cells #[.int .i64 f, .int .i64 t, .string s] 32)) wr.heap.size 32 #[.int .i64 f, .int .i64 t, .string s] := Blk.new _ _ _
          have hdr := hal.drewN 1
          have hBd : Blk ((wr.alloc (.cells #[.int .i64 f, .int .i64 t, .string s] 32)).drewN 1) wr.heap.size 32 #[.int .i64 f, .int .i64 t, .string s] := hB
          have hzF : ¬ F wr.heap.size := fun h => by have := hs.net.fb _ h; omega
          clear hal hB
          replace hdr : LS w (wr.alloc (.cells #[.int .i64 f, .int .i64 t, .string s] 32)).drew g F Ls := hdr
          replace hBd : Blk (wr.alloc (.cells #[.int .i64 f, .int .i64 t, .string s] 32)).drew wr.heap.size 32 #[.int .i64 f, .int .i64 t, .string s] := hBd
          generalize hz : wr.heap.size = z at *
          clear hz
          generalize (wr.alloc (.cells #[.int .i64 f, .int .i64 t, .string s] 32)).drew = wd at *
          have p0 : wd.cell? ⟨z, 0, none⟩ = some (.int .i64 f) := hBd.cell 0
          have p1 : wd.cell? ⟨z, 1, none⟩ = some (.int .i64 t) := hBd.cell 1
          have p2 : wd.cell? ⟨z, 2, none⟩ = some (.string s) := hBd.cell 2
          go_wp2_with fail
          rcases Bool.eq_false_or_eq_true (canSend Ls f t s) with hcs | hcs
          · have hft : f < 8 ∧ t < 8 ∧ f ≠ t := by
              have hk := hcs
              simp only [canSend, Bool.and_eq_true, decide_eq_true_eq] at hk
              obtain ⟨⟨hk, _⟩, _⟩ := hk
              unfold isL at hk
              omega
            have hL : fSend Ls f t s = Ls.set (f * 8 + t) (lk Ls f t ++ [s]) := by
              rw [fSend, if_pos hcs]; simp only [Int.toNat_natCast]
            have hv := voidTo_send hs.net.len (show n < 8 by omega) hft.1 hft.2.1 hft.2.2 s
            have HV := Lib.hid hv; have HL := Lib.hid hL; have HCS := Lib.hid hcs; clear hv hL hcs
            refine (send_ls hdr f t s (by omega) true HCS.out HL.out).mono ?_
            rintro e w4 ⟨rfl, s4, f4⟩
            have hb4 := f4.blk hBd hzF
            have y0 : w4.cell? ⟨z, 0, none⟩ = some (.int .i64 f) := hb4.cell 0
            have y1 : w4.cell? ⟨z, 1, none⟩ = some (.int .i64 t) := hb4.cell 1
            rcases (show f = n ∨ (f ≠ n ∧ t = n) ∨ (f ≠ n ∧ t ≠ n) by omega) with hfn | ⟨hfn, htn⟩ | ⟨hfn, htn⟩
            · subst hfn
              go_wp2_with fail
              go_roundw
              case rel => exact ⟨i + 1, _, _, c + 1, vint (by omega), by omega, by omega, vint (by omega), by omega, by have h := HV.out; have h' := hc.out; simp at h; omega, s4⟩
              case measure => simp [intOf]; omega
            · subst htn
              have n1 : ((f : Int) == (t : Int)) = false := by simp; omega
              have n2 : (f == t) = false := by simp; omega
              go_wp2_with fail
              go_roundw
              case rel => exact ⟨i + 1, _, _, c + 1, vint (by omega), by omega, by omega, vint (by omega), by omega, by have h := HV.out; have h' := hc.out; simp at h; omega, s4⟩
              case measure => simp [intOf]; omega
            · have n1 : ((f : Int) == (n : Int)) = false := by simp; omega
              have n2 : ((t : Int) == (n : Int)) = false := by simp; omega
              go_wp2_with fail
              go_roundw
              case rel => exact ⟨i + 1, _, _, c, vint (by omega), by omega, by omega, rfl, by omega, by have h := HV.out; have h' := hc.out; rw [if_neg (by omega)] at h; omega, s4⟩
              case measure => simp [intOf]; omega
          · have hL : fSend Ls f t s = Ls := by rw [fSend, hcs, if_neg (by simp)]
            have HL := Lib.hid hL; have HCS := Lib.hid hcs; clear hL hcs
            refine (send_ls hdr f t s (by omega) false HCS.out HL.out).mono ?_
            rintro e w4 ⟨rfl, s4, f4⟩
            go_wp2_with fail
            go_roundw
            case rel => exact ⟨i + 1, _, _, c, vint (by omega), by omega, by omega, rfl, by omega, hc.out, s4⟩
            case measure => simp [intOf]; omega
      · rcases (show (i < len ∧ 30 ≤ i) ∨ len ≤ i by omega) with ⟨h1, h2⟩ | h1
        · have hd20 : decide ((i : Int) < 30) = false := by rw [decide_eq_false_iff_not]; omega
          go_wp2_with fail
          go_meet
          exact ⟨_, _, _, rfl, hc.out, hs⟩
        · go_wp2_with fail
          go_meet
          exact ⟨_, _, _, rfl, hc.out, hs⟩
  case rest =>
  clear s2 zr
  obtain ⟨F, Ls, c, rfl, hc, s3⟩ := hcut
  have HC := Lib.hid hc; clear hc
  have hcap := allUp_le s3.net.cap 8
  have hfv := fAll_void s3.net.len (show n < 8 by omega)
  have hag := voidTo_again s3.net.len (show n < 8 by omega)
  go_wp2_with fail
  refine (all_any s3.net).mono ?_
  rintro e w4 ⟨v, rfl, ho4, hb4⟩
  obtain ⟨A4, c4, rfl, _, hR4⟩ := Reads.of_own ho4
  have s4 := s3.low hb4
  rw [show allUp Ls 8 = fAll Ls from rfl] at hcap
  generalize hLL : fAll Ls = L at *
  have HFV := Lib.hid hfv; have HAG := Lib.hid hag; clear hfv hag hLL ho4 hb4
  go_wp2_with fail
  go_loopw [8, 13] (fun v p wr => ∃ i : Nat, p = .int .i64 i ∧ i ≤ L.length ∧ wr.ownsRow w4.heap.size 32 3 v ((L.take i).filter (keepP n)).length (cellsQ ((L.take i).filter (keepP n))) ∧ Below w4.heap.size w4 wr) (fun _ p _ => L.length - (intOf p).toNat)
  case atStart => exact ⟨0, rfl, by omega, World.ownsRow_nil _ _ _ _, Below.refl _ _⟩
  case round =>
    obtain ⟨i, rfl, hi2, ho, hb⟩ := hrel
    by_cases hlt : i < L.length
    · obtain ⟨ad, rfl, _, k0, k1, k2⟩ := pcs_at (hR4.below hb) hlt
      have hsucc : (L.take (i + 1)).filter (keepP n) = (L.take i).filter (keepP n) ++ if keepP n L[i] then [L[i]] else [] := by
        rw [List.take_succ_eq_append_getElem hlt, List.filter_append, List.filter_cons, List.filter_nil]
      have hle : ((L.take i).filter (keepP n)).length ≤ 100000 := by
        have := List.length_filter_le (keepP n) (L.take i)
        rw [List.length_take] at this; omega
      have hBs := hb.size
      generalize L[i] = p at *
      have HS := Lib.hid hsucc; clear hsucc
      by_cases hf : p.1 = n
      · have hk : keepP n p = false := by simp [keepP, hf]
        have HK := Lib.hid hk; clear hk
        have n1 : (((p.1 : Nat) : Int) != (n : Int)) = false := by simp [hf]
        go_wp2_with fail
        go_roundw
        case rel => exact ⟨i + 1, vint (by omega), by omega, by rw [HS.out, HK.out, if_neg (by simp), List.append_nil]; exact ho, hb⟩
        case measure => simp [intOf]; omega
      · by_cases ht : p.2.1 = n
        · have hk : keepP n p = false := by simp [keepP, ht]
          have HK := Lib.hid hk; clear hk
          have n1 : (((p.1 : Nat) : Int) != (n : Int)) = true := by simp; omega
          have n2 : (((p.2.1 : Nat) : Int) != (n : Int)) = false := by simp [ht]
          go_wp2_with fail
          go_roundw
          case rel => exact ⟨i + 1, vint (by omega), by omega, by rw [HS.out, HK.out, if_neg (by simp), List.append_nil]; exact ho, hb⟩
          case measure => simp [intOf]; omega
        · have hk : keepP n p = true := by simp [keepP, hf, ht]
          have HK := Lib.hid hk; clear hk
          have n1 : (((p.1 : Nat) : Int) != (n : Int)) = true := by simp; omega
          have n2 : (((p.2.1 : Nat) : Int) != (n : Int)) = true := by simp; omega
          generalize hX : (L.take i).filter (keepP n) = X at *
          have HX := Lib.hid hX; clear hX
          go_wp2_with (at_builtin; refine wpList_append_any _ rfl (.tmp 96) (.tmp 101) 27 rfl w4.heap.size 32 i0 _ 3 32 Try.underlying27 hi hz0 hz1 hz2 rfl (by decide) _ _ _ rfl (ho.alloc _) (wr.heap.size + 1) (some ⟨wr.heap.size, 0, none⟩) 1 1 (pcv p) rfl (Reads.new wr #[.int .i64 (p.1 : Nat), .int .i64 (p.2.1 : Nat), .string p.2.2] 32 1 rfl rfl) (by simp [pcv, Value.oneCell']) (by simp only [maxLen]; omega) (by omega) (by simp only [sz_alloc]; omega) ?_)
          intro v' w5 hown' hgrow hown''
          have hb5 : Below w4.heap.size w4 w5 := (Fr.of_grown hgrow).below (hb.alloc (by omega) _) (fun k hk => (World.ownsRow.lt ho k hk).1)
          go_wp2_with fail
          go_roundw
          case rel => exact ⟨i + 1, vint (by omega), by omega, by rw [HS.out, HK.out, if_pos rfl, cellsQ_snoc, List.length_append]; exact hown', hb5⟩
          case measure => simp [intOf]; omega
    · obtain rfl : i = L.length := by omega
      rw [List.take_length] at ho
      have r5 : LR w wr g F Ls 32 3 _ _ _ := ⟨s4.low hb, World.ownsRow.mono ho s4.b.size, fun k hk hF => by
        have h1 := (World.ownsRow.lt ho k hk).1
        have h2 := s4.net.fb k hF
        omega⟩
      have hle : (L.filter (keepP n)).length ≤ 100000 := by
        have := List.length_filter_le (keepP n) L
        omega
      clear ho hR4 s4
      go_wp2_with fail
      refine (void_ls r5.ls n (by omega) c HC.out.symm rfl).mono ?_
      rintro e w6 ⟨rfl, s6, f6⟩
      have r6 : LR w w6 g F _ 32 3 _ _ _ := ⟨s6, f6.own r5.own r5.dis, r5.dis⟩
      go_wp2_with fail
      refine (all_any r6.ls.net).mono ?_
      rintro e w7 ⟨v7, rfl, ho7, hb7⟩
      have r7 := r6.low hb7
      rw [HFV.out] at ho7
      clear s6 f6 r5 r6 s3 hb hb7
      generalize L.filter (keepP n) = X at *
      obtain ⟨A7, c7, rfl, _, hR7⟩ := Reads.of_own ho7
      obtain ⟨A8, c8, rfl, _, hR8⟩ := Reads.of_own r7.own
      go_wp2_with fail
      refine (same_true rfl hR7 hR8 hle).mono ?_
      rintro e w8 ⟨rfl, hb8⟩
      have r8 := r7.low hb8
      have q1 : ((c : Int) == (c : Int)) = true := by simp
      go_wp2_with fail
      refine (void_ls r8.ls n (by omega) 0 HAG.out rfl).mono ?_
      rintro e w9 ⟨rfl, s9, f9⟩
      go_wp2_with fail
      go_ret
      exact ⟨rfl, s9.b⟩
end Go.Proofs.Ytikblgnpabonjaa
