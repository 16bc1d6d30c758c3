import Derived.Test.YtepmgcgpioljiaaInH
import Derived.Test.YtepmgcgpioljiaaInF
import Derived.Deep.CutBlock
namespace Go.Proofs.Ytepmgcgpioljiaa
open Go.RowKit
set_option linter.unusedVariables false
attribute [local go_sem] b_max2 b_min2 b_max b_min

theorem rows_at {B w : World} {A : Option Addr} {n size : Nat} {P : ByteArray} (h : Reads w B.heap.size 1 A n (rows P n)) {k : Nat} (hk : k < n) : ∃ ad, A = some ad ∧ ad.block < B.heap.size ∧ w.cell? (ad.add k) = some (.string (P.extract (512 * k) (512 * k + 512))) := by
  obtain ⟨ad, e, hb, hc⟩ := h.2 (by omega)
  exact ⟨ad, e, hb, hc _ _ (rows_get P hk)⟩

theorem add_field (ad : Addr) (m j : Nat) (hj : 0 < j) : ad.add (m + j) = ⟨(ad.add m).block, (ad.add m).off + j, none⟩ := by
  unfold Addr.add
  by_cases hm : m = 0
  · subst hm
    simp [Nat.ne_of_gt hj]
  · simp [hm, Nat.add_assoc]

theorem cell3_at {B w : World} {A : Option Addr} {n : Nat} {l : List (Nat × Nat × Nat)} (h : Reads B B.heap.size 3 A n (cellsP l)) (hb : Below B.heap.size B w) {k : Nat} {p : Nat × Nat × Nat} (hn : l.length = n) (hp : l[k]? = some p) :
    ∃ ad, A = some ad ∧ w.cell? (ad.add (k * 3)) = some (.int .i64 p.1) ∧ w.cell? ⟨(ad.add (k * 3)).block, (ad.add (k * 3)).off + 1, none⟩ = some (.int .i64 p.2.1) ∧ w.cell? ⟨(ad.add (k * 3)).block, (ad.add (k * 3)).off + 2, none⟩ = some (.int .i64 p.2.2) := by
  obtain ⟨hk, rfl⟩ := List.getElem?_eq_some_iff.1 hp
  have hf := fun j hj => flat_get cell3 3 (fun _ => rfl) l k j hk hj
  obtain ⟨ad, e, hadb, hcs⟩ := h.2 (by omega)
  have hc : ∀ j u, j < 3 → (cell3 l[k])[j]? = some u → w.cell? (ad.add (k * 3 + j)) = some u := by
    intro j u hj hu
    rw [hb.cell (by rw [block_of_add]; exact hadb)]
    exact hcs _ _ ((hf j hj).trans hu)
  refine ⟨ad, e, hc 0 _ (by omega) rfl, ?_, ?_⟩
  · rw [← add_field _ _ 1 (by omega)]; exact hc 1 _ (by omega) rfl
  · rw [← add_field _ _ 2 (by omega)]; exact hc 2 _ (by omega) rfl

set_option maxRecDepth 100000 in
set_option maxHeartbeats 1000000 in
theorem law_cuts (s : ByteArray) (f t : Int) (w : World) (hs : s.size ≤ 140737488351232) (f0 : -9223372036854775808 ≤ f) (f1 : f ≤ 9223372036854775807) (t0 : -9223372036854775808 ≤ t) (t1 : t ≤ 9223372036854775807) :
    Calls Try.prog 6 #[.string s, .int .i64 f, .int .i64 t] w fun e w' => e = .returned (.bool true) ∧ Below w.heap.size w w' := by
  go_enter Try.func6, Try.ntmps6
  go_wp2_with fail
  refine (awake_any _).mono ?_
  rintro e w1 ⟨rfl, hb1⟩
  go_upto_if 18 with (fail)
  go_cut [0] (fun v w' => ∃ s' : ByteArray, v = .string s' ∧ s'.size ≤ 2000 ∧ w1 = w')
  case first =>
    by_cases h : 2000 < s.size
    · go_wp2_with fail
      go_meet
      exact ⟨_, rfl, by rw [ByteArray.size_extract]; omega, rfl⟩
    · go_wp2_with fail
      go_meet
      exact ⟨_, rfl, by omega, rfl⟩
  case rest =>
  clear hs
  obtain ⟨s', rfl, hs, rfl⟩ := hcut
  go_wp2_with fail
  refine (cut_any s' _ (by omega)).mono ?_
  rintro e w2 ⟨v, rfl, ho, hb2⟩
  obtain ⟨A, c, rfl, _, hR⟩ := Reads.of_own ho
  have hbb := hb1.trans (hb2.mono hb1.size)
  have hPs := pad_size s'
  have hsn : 512 * secs s'.size < s'.size + 512 ∧ s'.size ≤ 512 * secs s'.size := by unfold secs; omega
  generalize hn : secs s'.size = n at *
  generalize hP : pad s' = P at *
  clear ho
  go_wp2_with fail
  go_loopw [9, 10] (fun v p wr => ∃ i : Nat, p = .int .i64 i ∧ i ≤ n ∧ v = .string (P.extract 0 (512 * i)) ∧ w2 = wr) (fun _ p _ => n - (intOf p).toNat)
  case atStart => exact ⟨0, rfl, by omega, by rw [ext_nil], rfl⟩
  case round =>
    obtain ⟨i, rfl, hi, rfl, rfl⟩ := hrel
    by_cases hlt : i < n
    · obtain ⟨ad, rfl, hadb, hc⟩ := rows_at (size := 1) hR hlt
      have hsz : (P.extract (512 * i) (512 * i + 512)).size = 512 := by rw [ByteArray.size_extract]; omega
      have hsz2 : (P.extract 0 (512 * i)).size ≤ 3000 := by rw [ByteArray.size_extract]; omega
      go_wp2_with fail
      go_roundw
      case rel => exact ⟨i + 1, vint (by omega), by omega, by rw [show 512 * i + 512 = 512 * (i + 1) by omega], trivial⟩
      case measure => simp [intOf]; omega
    · obtain rfl : i = n := by omega
      have hX := ext_all P (j := 512 * i) (by omega)
      rw [hX]
      go_wp2_with fail
      refine (need_any (s'.size : Int) _ (by omega) (by omega)).mono ?_
      rintro e w3 ⟨rfl, rfl⟩
      have hnd : need (s'.size : Int) = (i : Int) := by unfold need; split <;> omega
      rw [hnd]
      have hne : ((i : Int) != (i : Int)) = false := by simp
      have hcut : P.extract 0 s'.size = s' := by rw [← hP, pad, ext_left _ _ (Nat.le_refl _)]; exact ext_all s' (Nat.le_refl _)
      have hbl : ((P.extract 0 s'.size).toList == s'.toList) = true := by rw [hcut]; exact beq_list s'
      have hz : ∀ k, s'.size ≤ k → k < P.size → P.data[k]? = some 0 := by
        intro k h1 h2
        have e1 : s'.data.size = s'.size := rfl
        rw [← hP, pad, ByteArray.data_append, Array.getElem?_append_right (by omega)]
        simp only [zeros, List.getElem?_toArray]
        rw [List.getElem?_replicate, if_pos (by rw [hn]; omega)]
      have HC := Lib.hid hcut; have HZ := Lib.hid hz; clear hcut hz
      go_wp2_with fail
      go_loopw [11] (fun p wr => ∃ j : Nat, p = .int .i64 j ∧ s'.size ≤ j ∧ j ≤ 512 * i ∧ w2 = wr) (fun p _ => 512 * i - (intOf p).toNat)
      case atStart => exact ⟨s'.size, rfl, by omega, by omega, rfl⟩
      case round =>
        obtain ⟨j, rfl, hj0, hj1, rfl⟩ := hrel
        by_cases hlt2 : j < 512 * i
        · have hj := HZ.out j hj0 (by omega)
          have hpj : (P[j]'(by omega)).toNat = 0 := by
            have e1 : P.data[j]? = some (P[j]'(by omega)) := Array.getElem?_eq_getElem (by show j < P.size; omega)
            rw [hj] at e1
            rw [← Option.some.inj e1]; rfl
          clear hj
          go_wp2_with fail
          go_roundw
          case rel => exact ⟨j + 1, vint (by omega), by omega, by omega, trivial⟩
          case measure => simp [intOf]; omega
        · obtain rfl : j = 512 * i := by omega
          rcases (show f < 0 ∨ (0 ≤ f ∧ t < f) ∨ (0 ≤ f ∧ f ≤ t ∧ s'.size < t) ∨ (0 ≤ f ∧ f ≤ t ∧ t ≤ s'.size) by omega) with hg | ⟨hg, hg2⟩ | ⟨hg, hg2, hg3⟩ | ⟨hg, hg2, hg3⟩
          · go_wp2_with fail
            go_ret
            exact ⟨rfl, hbb⟩
          · go_wp2_with fail
            go_ret
            exact ⟨rfl, hbb⟩
          · go_wp2_with fail
            go_ret
            exact ⟨rfl, hbb⟩
          · obtain ⟨a0, rfl⟩ := Int.eq_ofNat_of_zero_le hg
            obtain ⟨e0, rfl⟩ := Int.eq_ofNat_of_zero_le (show 0 ≤ t by omega)
            have hpc : pieces a0 e0 = pcs e0 a0 := by unfold pieces; congr 1 <;> omega
            have ha0 : a0 ≤ e0 := by omega
            have he0 : e0 ≤ s'.size := by omega
            clear hg hg2 hg3 hj0 hj1 hlt2 f0 f1 t0 t1 hne hnd
            go_wp2_with fail
            refine (pieces_any a0 e0 _ (by omega) (by omega) (by omega) (by omega)).mono ?_
            rintro e w4 ⟨v4, rfl, ho4, hb4⟩
            rw [hpc] at ho4
            obtain ⟨A4, c4, rfl, _, hR4⟩ := Reads.of_own ho4
            clear ho4 hpc
            have hR2 : Reads w2 w2.heap.size 1 A i (rows P i) := hR
            clear hR
            have hB4 := hb4.size
            have hbb4 := hbb.trans (hb4.mono hbb.size)
            generalize hN : (pcs e0 a0).length = N at *
            go_wp2_with fail
            go_loopw [12, 14] (fun v p wr => ∃ (k a : Nat) (pre : List (Nat × Nat × Nat)), p = .int .i64 k ∧ Hid (pre ++ pcs e0 a = pcs e0 a0 ∧ pre.length = k) ∧ k ≤ N ∧ k + a0 ≤ a ∧ a ≤ e0 ∧ v = .string (s'.extract a0 a) ∧ Below w4.heap.size w4 wr) (fun _ p _ => N - (intOf p).toNat)
            case atStart => exact ⟨0, a0, [], rfl, Lib.hid ⟨rfl, rfl⟩, by omega, by omega, by omega, by rw [ext_nil], Below.refl _ _⟩
            case round =>
              obtain ⟨k, a, pre, rfl, hpre, hk, haa, hae, rfl, hbr⟩ := hrel
              by_cases hlt3 : k < N
              · have hlt4 : a < e0 := by
                  obtain ⟨h1, h2⟩ := hpre.out
                  rcases Nat.lt_or_ge a e0 with h | h
                  · exact h
                  · rw [pcs_end (by omega), List.append_nil] at h1
                    rw [h1] at h2; omega
                have hget : (pcs e0 a0)[k]? = some (a / 512, a % 512, min (a % 512 + (e0 - a)) 512) := by
                  obtain ⟨h1, h2⟩ := hpre.out
                  rw [← h1, List.getElem?_append_right (by omega), h2, Nat.sub_self, pcs_step hlt4]; rfl
                have hpre2 : (pre ++ [(a / 512, a % 512, min (a % 512 + (e0 - a)) 512)]) ++ pcs e0 (a + (min (a % 512 + (e0 - a)) 512 - a % 512)) = pcs e0 a0 ∧ (pre ++ [(a / 512, a % 512, min (a % 512 + (e0 - a)) 512)]).length = k + 1 := by
                  obtain ⟨h1, h2⟩ := hpre.out
                  rw [List.append_assoc, ← h1, pcs_step hlt4]
                  exact ⟨rfl, by rw [List.length_append, h2]; rfl⟩
                have HP2 := Lib.hid hpre2; clear hpre2 hpre
                obtain ⟨Ad4, rfl, x0, x1, x2⟩ := cell3_at hR4 hbr hN hget
                simp only [] at x0 x1 x2
                obtain ⟨ad, rfl, hadb, hc⟩ := rows_at (B := w2) (w := w2) (size := 1) hR2 (k := a / 512) (by omega)
                replace hc : wr.cell? (ad.add (a / 512)) = some (.string (P.extract (512 * (a / 512)) (512 * (a / 512) + 512))) := by
                  rw [(hb4.trans (hbr.mono hB4)).cell (by rw [block_of_add]; exact hadb)]; exact hc
                have hcat : s'.extract a0 a ++ (P.extract (512 * (a / 512)) (512 * (a / 512) + 512)).extract (a % 512) (min (a % 512 + (e0 - a)) 512) = s'.extract a0 (a + (min (a % 512 + (e0 - a)) 512 - a % 512)) := by
                  rw [ext_ext _ _ _ _ _ (by omega), ← hP, pad, ext_left _ _ (by omega), show 512 * (a / 512) + a % 512 = a by omega, ext_cat _ (by omega) (by omega)]
                  congr 1; omega
                have HCAT := Lib.hid hcat; clear hcat
                have hsz : (P.extract (512 * (a / 512)) (512 * (a / 512) + 512)).size = 512 := by rw [ByteArray.size_extract]; omega
                have hsz2 : (s'.extract a0 a).size ≤ 2000 := by rw [ByteArray.size_extract]; omega
                have q0 : a / 512 < i := by omega
                have r0 : a % 512 < min (a % 512 + (e0 - a)) 512 := by omega
                have u0 : min (a % 512 + (e0 - a)) 512 ≤ 512 := by omega
                have hnew : a + (min (a % 512 + (e0 - a)) 512 - a % 512) ≤ e0 := by omega
                generalize hQ : P.extract (512 * (a / 512)) (512 * (a / 512) + 512) = Q at *
                generalize hG : s'.extract a0 a = G at *
                generalize a / 512 = q at *
                generalize hU : min (a % 512 + (e0 - a)) 512 = u at *
                generalize a % 512 = r at *
                have d1 : decide ((q : Int) < 0) = false := by rw [decide_eq_false_iff_not]; omega
                have d2 : decide ((i : Int) ≤ (q : Int)) = false := by rw [decide_eq_false_iff_not]; omega
                have d3 : decide ((r : Int) < 0) = false := by rw [decide_eq_false_iff_not]; omega
                have d4 : decide ((u : Int) ≤ (r : Int)) = false := by rw [decide_eq_false_iff_not]; omega
                have d5 : decide ((512 : Int) < (u : Int)) = false := by rw [decide_eq_false_iff_not]; omega
                have d2' : decide (i ≤ q) = false := by rw [decide_eq_false_iff_not]; omega
                have d4' : decide (u ≤ r) = false := by rw [decide_eq_false_iff_not]; omega
                have d5' : decide (512 < u) = false := by rw [decide_eq_false_iff_not]; omega
                clear hQ hG hU
                go_wp2_with fail
                go_quiet (fail)
                go_wp2_with fail
                go_quiet (fail)
                go_wp2_with fail
                go_roundw
                case rel => exact ⟨k + 1, a + (u - r), _, vint (by omega), HP2, by omega, by omega, hnew, by rw [HCAT.out], bdrewN hbr _⟩
                case measure => simp [intOf]; omega
              · obtain rfl : k = N := by omega
                have hae2 : a = e0 := by
                  obtain ⟨h1, h2⟩ := hpre.out
                  rcases Nat.lt_or_ge a e0 with h | h
                  · have h3 := congrArg List.length h1
                    rw [pcs_step h, List.length_append, List.length_cons] at h3
                    omega
                  · omega
                subst hae2
                have hsz2 : (s'.extract a0 a).size ≤ 2000 := by rw [ByteArray.size_extract]; omega
                have hbl2 := beq_list (s'.extract a0 a)
                have hend : Below w.heap.size w wr := hbb4.trans (hbr.mono hbb4.size)
                clear hpre hR4 hR2
                go_wp2_with fail
                go_ret
                exact ⟨rfl, hend⟩
end Go.Proofs.Ytepmgcgpioljiaa
