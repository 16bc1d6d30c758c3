import Derived.Test.YtikblgnpabonjaaBaM
import Derived.Deep.CutBlock
namespace Go.Proofs.Ytikblgnpabonjaa
open Go.RowKit
set_option linter.unusedVariables false
attribute [local go_sem] b_max2 b_min2 b_max b_min

/-- the links from 0 to 1 and from 1 to 0 alone have messages -/
def L2 (a b : List ByteArray) : List (List ByteArray) := ((List.replicate 64 []).set 1 a).set 8 b
theorem L2_lk01 (a b : List ByteArray) : lk (L2 a b) 0 1 = a := by simp [lk, L2, List.getD_eq_getElem?_getD]
theorem L2_lk10 (a b : List ByteArray) : lk (L2 a b) 1 0 = b := by simp [lk, L2, List.getD_eq_getElem?_getD]
theorem L2_set01 (a b a' : List ByteArray) : (L2 a b).set (0 * 8 + 1) a' = L2 a' b := by
  unfold L2
  rw [show 0 * 8 + 1 = 1 from rfl, List.set_comm _ _ (by omega), List.set_set]
theorem L2_set10 (a b b' : List ByteArray) : (L2 a b).set (1 * 8 + 0) b' = L2 a b' := by
  unfold L2
  rw [show 1 * 8 + 0 = 8 from rfl, List.set_set]
theorem L2_nil : L2 [] [] = List.replicate 64 [] := by rfl
theorem L2_send01 (a b : List ByteArray) (s : ByteArray) : ∃ a', fSend (L2 a b) 0 1 s = L2 a' b := by
  unfold fSend
  split
  · exact ⟨_, L2_set01 _ _ _⟩
  · exact ⟨_, rfl⟩
theorem L2_take01 (a b : List ByteArray) (x : Int) : ∃ a', fTake (L2 a b) 0 1 x = L2 a' b := by
  unfold fTake
  split
  · exact ⟨_, L2_set01 _ _ _⟩
  · exact ⟨_, rfl⟩
theorem L2_double01 (a b : List ByteArray) (x : Int) : ∃ a', fDouble (L2 a b) 0 1 x = L2 a' b := by
  unfold fDouble
  split
  · exact ⟨_, L2_set01 _ _ _⟩
  · exact ⟨_, rfl⟩
theorem L2_send10 (a b : List ByteArray) (s : ByteArray) (h : b.length < 200) (hs : s.size ≤ 2000) : canSend (L2 a b) 1 0 s = true ∧ fSend (L2 a b) 1 0 s = L2 a (b ++ [s]) := by
  have hc : canSend (L2 a b) 1 0 s = true := by
    simp only [canSend, show (1 : Int).toNat = 1 from rfl, show (0 : Int).toNat = 0 from rfl, L2_lk10, Bool.and_eq_true, decide_eq_true_eq]
    exact ⟨⟨by decide, hs⟩, h⟩
  refine ⟨hc, ?_⟩
  rw [fSend, hc, if_pos rfl]
  simp only [show (1 : Int).toNat = 1 from rfl, show (0 : Int).toNat = 0 from rfl, L2_lk10]
  exact L2_set10 _ _ _
theorem L2_take10 (a : List ByteArray) (s : ByteArray) (xs : List ByteArray) : canTake (L2 a (s :: xs)) 1 0 = true ∧ tTake (L2 a (s :: xs)) 1 0 0 = s ∧ fTake (L2 a (s :: xs)) 1 0 0 = L2 a xs := by
  have hc : canTake (L2 a (s :: xs)) 1 0 = true := by
    simp only [canTake, show (1 : Int).toNat = 1 from rfl, show (0 : Int).toNat = 0 from rfl, L2_lk10, Bool.and_eq_true, decide_eq_true_eq]
    exact ⟨by decide, by simp⟩
  have hp : ∀ k, place 0 k = 0 := fun k => by simp [place]
  refine ⟨hc, ?_, ?_⟩
  · rw [tTake, hc, if_pos rfl]
    simp only [show (1 : Int).toNat = 1 from rfl, show (0 : Int).toNat = 0 from rfl, L2_lk10, hp]; rfl
  · rw [fTake, hc, if_pos rfl]
    simp only [show (1 : Int).toNat = 1 from rfl, show (0 : Int).toNat = 0 from rfl, L2_lk10, hp]; exact L2_set10 _ _ _
theorem L2_waits (a b : List ByteArray) : fWaits (L2 a b) 1 0 = b.length ∧ fWaits (L2 a b) 0 1 = a.length := by
  rw [fWaits, if_pos (by decide), fWaits, if_pos (by decide)]
  simp only [show (1 : Int).toNat = 1 from rfl, show (0 : Int).toNat = 0 from rfl, L2_lk10, L2_lk01, and_self]
theorem voidTo_lk {Ls : List (List ByteArray)} (h64 : Ls.length = 64) {n : Nat} (hn : n < 8) (k : Nat) (hk : k ≤ 8) : ∀ a b, a < 8 → b < 8 →
    lk (voidTo Ls n k).1 a b = if (a = n ∧ b < k ∧ b ≠ n) ∨ (b = n ∧ a < k ∧ a ≠ n) then [] else lk Ls a b := by
  induction k with
  | zero => intro a b ha hb; rw [if_neg (by omega)]; rfl
  | succ k ih =>
    intro a b ha hb
    have hl : (voidTo Ls n k).1.length = 64 := by rw [voidTo_len]; exact h64
    rw [voidTo_succ, voidStep]
    by_cases hnk : n = k
    · rw [if_pos hnk, ih (by omega) a b ha hb]
      by_cases hc : (a = n ∧ b < k ∧ b ≠ n) ∨ (b = n ∧ a < k ∧ a ≠ n)
      · rw [if_pos hc, if_pos (by omega)]
      · rw [if_neg hc, if_neg (by omega)]
    · rw [if_neg hnk]
      simp only []
      rw [lk_set (by simpa using hl) (by omega) hn ha hb, lk_set hl hn (by omega) ha hb, ih (by omega) a b ha hb]
      by_cases hc : (a = n ∧ b < k + 1 ∧ b ≠ n) ∨ (b = n ∧ a < k + 1 ∧ a ≠ n)
      · rw [if_pos hc]
        by_cases h1 : k = a ∧ n = b
        · rw [if_pos h1]
        · rw [if_neg h1]
          by_cases h2 : n = a ∧ k = b
          · rw [if_pos h2]
          · rw [if_neg h2, if_pos (by omega)]
      · rw [if_neg hc, if_neg (by omega), if_neg (by omega), if_neg (by omega)]
theorem voidTo_sum {Ls : List (List ByteArray)} (h64 : Ls.length = 64) {n : Nat} (hn : n < 8) (k : Nat) (hk : k ≤ 8) :
    (voidTo Ls n k).2 = ((List.range k).map fun o => if n = o then 0 else (lk Ls n o).length + (lk Ls o n).length).sum := by
  induction k with
  | zero => rfl
  | succ k ih =>
    rw [voidTo_succ, voidStep, List.range_succ, List.map_append, List.sum_append, ← ih (by omega)]
    by_cases hnk : n = k
    · rw [if_pos hnk]; simp [hnk]
    · rw [if_neg hnk]
      simp only [List.map_cons, List.map_nil, List.sum_cons, List.sum_nil, if_neg hnk]
      rw [voidTo_lk h64 hn k (by omega) n k hn (by omega), voidTo_lk h64 hn k (by omega) k n (by omega) hn, if_neg (by omega), if_neg (by omega)]
      omega
theorem L2_void (a : List ByteArray) : (voidTo (L2 a []) 1 8).2 = a.length ∧ (voidTo (L2 a []) 1 8).1 = List.replicate 64 [] := by
  refine ⟨?_, rfl⟩
  rw [voidTo_sum (by simp [L2]) (by omega) 8 (by omega)]
  simp [List.range_succ, lk, L2, List.getD_eq_getElem?_getD]
theorem void_ls {B w : World} {g : Nat} {F : Nat → Prop} {Ls Ls' : List (List ByteArray)} (h : LS B w g F Ls) (n : Nat) (hn : n < 8) (c : Nat) (hc : (voidTo Ls n 8).2 = c) (hL : (voidTo Ls n 8).1 = Ls') :
    Calls Try.prog 19 #[.pointer (some ⟨g, 0, none⟩), .int .i64 n] w fun e w' => e = .returned (.int .i64 (c : Nat)) ∧ LS B w' g F Ls' ∧ Fr F w w' := by
  subst hc; subst hL
  exact (void_in h.net n hn).mono fun e w' ⟨h1, h2, h3⟩ => ⟨h1, h.same h2 h3, h3⟩

set_option maxRecDepth 100000 in
set_option maxHeartbeats 1000000 in
theorem law_links (A : Option Addr) (len cap : Nat) (K : Nat → Nat → Int) (S : Nat → ByteArray) (A' : Option Addr) (len' cap' : Nat) (K' : Nat → Nat → Int) (S' : Nat → ByteArray) (w : World)
    (zb : ∀ i j, -9223372036854775808 ≤ K i j ∧ K i j ≤ 9223372036854775807) (zr : Reads w w.heap.size 5 A len (opsC K S len)) (zb' : ∀ i j, -9223372036854775808 ≤ K' i j ∧ K' i j ≤ 9223372036854775807) (zr' : Reads w w.heap.size 5 A' len' (opsC K' S' len')) :
    Calls Try.prog 8 #[.slice A len cap, .slice A' len' cap'] w fun e w' => e = .returned (.bool true) ∧ Below w.heap.size w w' := by
  obtain ⟨i0, hi, hz0, hz1, hz2⟩ := info_parts str_info
  have ZB := Lib.hid zb'; have ZC := Lib.hid zb; clear zb zb'
  go_enter Try.func8, Try.ntmps8
  go_wp2_with fail
  refine (awake_any _).mono ?_
  rintro e w1 ⟨rfl, hb1⟩
  go_wp2_with fail
  refine (new_ls w _ hb1).mono ?_
  rintro e w2 ⟨g, rfl, s2, _, _, _⟩
  rw [← L2_nil] at s2
  have r2 := LR.nil s2 9 1
  clear s2 hb1
  go_upto_block 0 with (fail)
  go_cut [7] (fun v w' => ∃ (A2 : Option Addr) (c2 : Nat) (F : Nat → Prop) (a ys : List ByteArray), v = .slice A2 ys.length c2 ∧ ys.length ≤ 30 ∧ LR w w' g F (L2 a ys) 9 1 (.slice A2 ys.length c2) ys.length (ys.map Value.string))
  case first =>
    clear zr'
    go_wp2_with fail
    go_loopw [7, 8, 9] (fun v p _ wr => ∃ (i : Nat) (F : Nat → Prop) (a ys : List ByteArray), p = .int .i64 i ∧ i ≤ len ∧ i ≤ 30 ∧ ys.length ≤ i ∧ LR w wr g F (L2 a ys) 9 1 v ys.length (ys.map Value.string)) (fun _ p _ _ => 30 - (intOf p).toNat)
    case atStart => exact ⟨0, _, [], [], rfl, by omega, by omega, by simp, r2⟩
    case round =>
      clear r2
      obtain ⟨i, F, a, ys, rfl, hil, hi20, hxs, hs⟩ := hrel
      obtain ⟨A1, c1, rfl, hlc, hr⟩ := Reads.of_own hs.own
      clear hlc hr
      by_cases hlt : i < len ∧ i < 30
      · obtain ⟨hlt, hlt2⟩ := hlt
        obtain ⟨ad, rfl, hc0, _, _, _, hc4⟩ := ops_at zr hs.ls.b hlt
        have hd20 : decide ((i : Int) < 30) = true := by rw [decide_eq_true_eq]; omega
        have k0 := (ZC.out i 0).1
        have k1 := (ZC.out i 0).2
        generalize S i = si at *
        generalize K i 0 = K0 at *
        have tb1 := Int.tmod_lt_of_pos K0 (show (0:Int) < 2 by omega)
        have tb2 := Int.lt_tmod_of_pos K0 (show (0:Int) < 2 by omega)
        go_wp2_with fail
        refine (short_any si 60 _ (by omega)).mono ?_
        rintro e w3 ⟨⟨s, rfl, hsz⟩, rfl⟩
        by_cases hk : K0.tmod 2 = 0
        · obtain ⟨a', e2⟩ := L2_send01 a ys s
          have E2 := Lib.hid e2; clear e2
          have hk2 : (K0.tmod 2 == 0) = true := by rw [beq_iff_eq]; exact hk
          clear hk
          go_wp2_with fail
          refine (send_ls hs.ls 0 1 s (by omega) _ rfl E2.out).mono ?_
          rintro e w4 ⟨rfl, s4, f4⟩
          have r4 := hs.net s4 f4
          go_wp2_with fail
          go_roundw
          case rel => exact ⟨i + 1, _, a', ys, vint (by omega), by omega, by omega, by omega, r4⟩
          case measure => simp [intOf]; omega
        · obtain ⟨e1, e2⟩ := L2_send10 a ys s (by omega) (by omega)
          have E1 := Lib.hid e1; have E2 := Lib.hid e2; clear e1 e2
          have hk2 : (K0.tmod 2 == 0) = false := by rw [beq_eq_false_iff_ne]; exact hk
          clear hk
          go_wp2_with fail
          refine (send_ls hs.ls 1 0 s (by omega) true E1.out E2.out).mono ?_
          rintro e w4 ⟨rfl, s4, f4⟩
          have r4 := hs.net s4 f4
          have hBs := s4.b.size
          go_wp2_with (at_builtin; refine wpList_append_any _ rfl (.tmp 50) (.tmp 52) 42 rfl w.heap.size 9 i0 _ 1 16 Try.underlying42 hi hz0 hz1 hz2 rfl (by decide) _ _ _ rfl (r4.alloc _).own (w4.heap.size + 1) (some ⟨w4.heap.size, 0, none⟩) 1 1 [.string s] rfl (Reads.new w4 #[.string s] 9 1 rfl rfl) (by simp [Value.oneCell']) (by simp only [maxLen]; omega) (by omega) (by simp only [sz_alloc]; omega) ?_)
          intro v' w5 hown' hgrow hown''
          have r5 := (r4.alloc _).push hown' hgrow (by rw [sz_alloc]; exact hown'')
          go_wp2_with fail
          go_roundw
          case rel => exact ⟨i + 1, _, a, ys ++ [s], vint (by omega), by omega, by omega, by simp; omega, by rw [List.map_append, List.length_append]; exact r5⟩
          case measure => simp [intOf]; omega
      · rcases (show (i < len ∧ 30 ≤ i) ∨ len ≤ i by omega) with ⟨h1, h2⟩ | h1
        · have hd20 : decide ((i : Int) < 30) = false := by rw [decide_eq_false_iff_not]; omega
          go_wp2_with fail
          go_meet
          exact ⟨_, _, _, _, _, rfl, by omega, hs⟩
        · go_wp2_with fail
          go_meet
          exact ⟨_, _, _, _, _, rfl, by omega, hs⟩
  case rest =>
  clear r2
  obtain ⟨A2, c2, F, a, ys, rfl, hys, r3⟩ := hcut
  clear zr ZC
  go_upto_block 2 with (fail)
  go_cut [10] (fun v w' => ∃ (F : Nat → Prop) (a : List ByteArray), LR w w' g F (L2 a ys) 9 1 (.slice A2 ys.length c2) ys.length (ys.map Value.string))
  case first =>
    go_wp2_with fail
    go_loopw [10, 11] (fun p _ wr => ∃ (i : Nat) (F : Nat → Prop) (a : List ByteArray), p = .int .i64 i ∧ i ≤ len' ∧ i ≤ 10 ∧ LR w wr g F (L2 a ys) 9 1 (.slice A2 ys.length c2) ys.length (ys.map Value.string)) (fun p _ _ => 10 - (intOf p).toNat)
    case atStart => exact ⟨0, _, a, rfl, by omega, by omega, r3⟩
    case round =>
      clear r3
      obtain ⟨i, F, a, rfl, hil, hi20, hs⟩ := hrel
      by_cases hlt : i < len' ∧ i < 10
      · obtain ⟨hlt, hlt2⟩ := hlt
        obtain ⟨ad, rfl, hc0, _, _, hc3, _⟩ := ops_at zr' hs.ls.b hlt
        have hd20 : decide ((i : Int) < 10) = true := by rw [decide_eq_true_eq]; omega
        have x0 := (ZB.out i 3).1
        have x1 := (ZB.out i 3).2
        have k0 := (ZB.out i 0).1
        have k1 := (ZB.out i 0).2
        generalize K' i 3 = x at *
        generalize K' i 0 = K0 at *
        have tb1 := Int.tmod_lt_of_pos K0 (show (0:Int) < 3 by omega)
        have tb2 := Int.lt_tmod_of_pos K0 (show (0:Int) < 3 by omega)
        rcases (show K0.tmod 3 = 0 ∨ K0.tmod 3 = 1 ∨ K0.tmod 3 = -1 ∨ K0.tmod 3 = 2 ∨ K0.tmod 3 = -2 by omega) with hT | hT | hT | hT | hT
        · clear tb1 tb2
          obtain ⟨a', e2⟩ := L2_take01 a ys x
          have E2 := Lib.hid e2; clear e2
          go_wp2_with fail
          refine (take_ls hs.ls 0 1 x x0 x1 _ _ rfl rfl E2.out).mono ?_
          rintro e w4 ⟨rfl, s4, f4⟩
          have r4 := hs.net s4 f4
          go_wp2_with fail
          go_roundw
          case rel => exact ⟨i + 1, _, a', vint (by omega), by omega, by omega, r4⟩
          case measure => simp [intOf]; omega
        · clear tb1 tb2
          obtain ⟨a', e2⟩ := L2_double01 a ys x
          have E2 := Lib.hid e2; clear e2
          go_wp2_with fail
          refine (double_ls hs.ls 0 1 x x0 x1 _ rfl E2.out).mono ?_
          rintro e w4 ⟨rfl, s4, f4⟩
          have r4 := hs.net s4 f4
          go_wp2_with fail
          go_roundw
          case rel => exact ⟨i + 1, _, a', vint (by omega), by omega, by omega, r4⟩
          case measure => simp [intOf]; omega
        · clear tb1 tb2
          obtain ⟨a', e2⟩ := L2_double01 a ys x
          have E2 := Lib.hid e2; clear e2
          go_wp2_with fail
          refine (double_ls hs.ls 0 1 x x0 x1 _ rfl E2.out).mono ?_
          rintro e w4 ⟨rfl, s4, f4⟩
          have r4 := hs.net s4 f4
          go_wp2_with fail
          go_roundw
          case rel => exact ⟨i + 1, _, a', vint (by omega), by omega, by omega, r4⟩
          case measure => simp [intOf]; omega
        all_goals
          clear tb1 tb2
          obtain ⟨a', e2⟩ := L2_take01 a ys x
          have E2 := Lib.hid e2; clear e2
          go_wp2_with fail
          refine (drop_ls hs.ls 0 1 x x0 x1 _ rfl E2.out).mono ?_
          rintro e w4 ⟨rfl, s4, f4⟩
          have r4 := hs.net s4 f4
          go_wp2_with fail
          go_roundw
          case rel => exact ⟨i + 1, _, a', vint (by omega), by omega, by omega, r4⟩
          case measure => simp [intOf]; omega
      · rcases (show (i < len' ∧ 10 ≤ i) ∨ len' ≤ i by omega) with ⟨h1, h2⟩ | h1
        · have hd20 : decide ((i : Int) < 10) = false := by rw [decide_eq_false_iff_not]; omega
          go_wp2_with fail
          go_meet
          exact ⟨_, _, hs⟩
        · go_wp2_with fail
          go_meet
          exact ⟨_, _, hs⟩
  case rest =>
  clear r3
  obtain ⟨F, a, r3⟩ := hcut
  clear zr' ZB
  have EW := Lib.hid (L2_waits a ys).1
  go_wp2_with fail
  refine (waits_ls r3.ls 1 0 _ EW.out).mono ?_
  rintro e w6 ⟨rfl, rfl⟩
  have hb5 : (((ys.length : Nat) : Int) != ((ys.length : Nat) : Int)) = false := by simp
  clear EW
  go_wp2_with fail
  go_loopw [12, 13, 14] (fun p _ _ wr => ∃ (j : Nat) (F : Nat → Prop), p = .int .i64 j ∧ j ≤ ys.length ∧ LR w wr g F (L2 a (ys.drop j)) 9 1 (.slice A2 ys.length c2) ys.length (ys.map Value.string)) (fun p _ _ _ => ys.length - (intOf p).toNat)
  case atStart => exact ⟨0, _, rfl, by omega, r3⟩
  case round =>
    clear r3
    obtain ⟨j, F, rfl, hj, hs⟩ := hrel
    by_cases hlt : j < ys.length
    · have hdr : ys.drop j = ys[j]'(by omega) :: ys.drop (j + 1) := List.drop_eq_getElem_cons (by omega)
      have hget : (ys.map Value.string)[j]? = some (.string (ys[j]'(by omega))) := by rw [List.getElem?_map, List.getElem?_eq_getElem (by omega)]; rfl
      generalize ys[j]'(by omega) = s at *
      rw [hdr] at hs
      obtain ⟨t1, t2, t3⟩ := L2_take10 a s (ys.drop (j + 1))
      have T1 := Lib.hid t1; have T2 := Lib.hid t2; have T3 := Lib.hid t3; have HG := Lib.hid hget; clear t1 t2 t3 hdr hget
      go_wp2_with fail
      refine (take_ls hs.ls 1 0 0 (by omega) (by omega) s true T2.out T1.out T3.out).mono ?_
      rintro e w6 ⟨rfl, s6, f6⟩
      have r6 := hs.net s6 f6
      obtain ⟨A', c', hAA, _, hR⟩ := Reads.of_own (r6.own)
      obtain ⟨rfl, rfl⟩ : A2 = A' ∧ c2 = c' := by simpa using hAA
      obtain ⟨Ad2, rfl, hAb2, hAc2⟩ := hR.2 (by omega)
      have hcell2 : w6.cell? (Ad2.add j) = some (.string s) := hAc2 j _ HG.out
      clear hR hAA hAc2
      go_wp2_with fail
      go_roundw
      case rel => exact ⟨j + 1, _, vint (by omega), by omega, r6⟩
      case measure => simp [intOf]; omega
    · have hs4 := hs.ls
      rw [List.drop_eq_nil_of_le (by omega)] at hs4
      clear hs
      obtain ⟨v1, v2⟩ := L2_void a
      have EW := Lib.hid (L2_waits a []).2
      have V1 := Lib.hid v1; have V2 := Lib.hid v2; clear v1 v2
      go_wp2_with fail
      refine (waits_ls hs4 0 1 _ EW.out).mono ?_
      rintro e w6 ⟨rfl, rfl⟩
      go_wp2_with fail
      refine (void_ls hs4 1 (by omega) _ V1.out V2.out).mono ?_
      rintro e w7 ⟨rfl, s7, _⟩
      have q1 : (((a.length : Nat) : Int) == ((a.length : Nat) : Int)) = true := by simp
      clear EW V1 V2
      go_wp2_with fail
      refine (all_any s7.net).mono ?_
      rintro e w8 ⟨v, rfl, ho8, hb8⟩
      have hl0 : (fAll (List.replicate 64 [])).length = 0 := by rfl
      rw [hl0] at ho8
      obtain ⟨A8, c8, rfl, _, _⟩ := Reads.of_own ho8
      have s8 := s7.low hb8
      clear ho8
      go_wp2_with fail
      go_ret
      exact ⟨rfl, s8.b⟩
end Go.Proofs.Ytikblgnpabonjaa
