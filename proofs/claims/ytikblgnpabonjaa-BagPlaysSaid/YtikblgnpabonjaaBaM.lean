import Derived.Test.YtikblgnpabonjaaBaL
namespace Go.Proofs.Ytikblgnpabonjaa
open Go.RowKit
set_option linter.unusedVariables false
attribute [local go_sem] b_max2 b_min2 b_max b_min

/-- only the link from 2 to 3 has messages -/
def L23 (xs : List ByteArray) : List (List ByteArray) := (List.replicate 64 []).set 19 xs
theorem L23_lk (xs : List ByteArray) : lk (L23 xs) 2 3 = xs := by simp [lk, L23, List.getD_eq_getElem?_getD]
theorem L23_nil : L23 [] = List.replicate 64 [] := by rfl
theorem L23_set (xs ys : List ByteArray) : (L23 xs).set (2 * 8 + 3) ys = L23 ys := by
  unfold L23
  rw [show 2 * 8 + 3 = 19 from rfl, List.set_set]
theorem L23_send (xs : List ByteArray) (s : ByteArray) (h : xs.length < 200) (hs : s.size ≤ 2000) : canSend (L23 xs) 2 3 s = true ∧ fSend (L23 xs) 2 3 s = L23 (xs ++ [s]) := by
  have hc : canSend (L23 xs) 2 3 s = true := by
    simp only [canSend, show (2 : Int).toNat = 2 from rfl, show (3 : Int).toNat = 3 from rfl, L23_lk, Bool.and_eq_true, decide_eq_true_eq]
    exact ⟨⟨by decide, hs⟩, h⟩
  refine ⟨hc, ?_⟩
  rw [fSend, hc, if_pos rfl]
  simp only [show (2 : Int).toNat = 2 from rfl, show (3 : Int).toNat = 3 from rfl, L23_lk, L23_set]
theorem L23_double0 (x : Int) : canDouble (L23 []) 2 3 = false := by
  simp only [canDouble, show (2 : Int).toNat = 2 from rfl, show (3 : Int).toNat = 3 from rfl, L23_lk]
  simp
theorem L23_double (xs : List ByteArray) (x : Int) (h0 : 0 < xs.length) (h : xs.length < 200) : canDouble (L23 xs) 2 3 = true ∧ fDouble (L23 xs) 2 3 x = L23 (xs ++ [xs.getD (place x xs.length) ⟨#[]⟩]) := by
  have hc : canDouble (L23 xs) 2 3 = true := by
    simp only [canDouble, show (2 : Int).toNat = 2 from rfl, show (3 : Int).toNat = 3 from rfl, L23_lk, Bool.and_eq_true, decide_eq_true_eq]
    exact ⟨by decide, h0, h⟩
  refine ⟨hc, ?_⟩
  rw [fDouble, hc, if_pos rfl]
  simp only [show (2 : Int).toNat = 2 from rfl, show (3 : Int).toNat = 3 from rfl, L23_lk, L23_set]
theorem L23_take (s : ByteArray) (xs : List ByteArray) : canTake (L23 (s :: xs)) 2 3 = true ∧ tTake (L23 (s :: xs)) 2 3 0 = s ∧ fTake (L23 (s :: xs)) 2 3 0 = L23 xs := by
  have hc : canTake (L23 (s :: xs)) 2 3 = true := by
    simp only [canTake, show (2 : Int).toNat = 2 from rfl, show (3 : Int).toNat = 3 from rfl, L23_lk, Bool.and_eq_true, decide_eq_true_eq]
    exact ⟨by decide, by simp⟩
  have hp : ∀ k, place 0 k = 0 := fun k => by simp [place]
  refine ⟨hc, ?_, ?_⟩
  · rw [tTake, hc, if_pos rfl]
    simp only [show (2 : Int).toNat = 2 from rfl, show (3 : Int).toNat = 3 from rfl, L23_lk, hp]; rfl
  · rw [fTake, hc, if_pos rfl]
    simp only [show (2 : Int).toNat = 2 from rfl, show (3 : Int).toNat = 3 from rfl, L23_lk, hp, L23_set]; rfl
theorem L23_waits (xs : List ByteArray) : fWaits (L23 xs) 2 3 = xs.length := by
  rw [fWaits, if_pos (by decide)]
  simp only [show (2 : Int).toNat = 2 from rfl, show (3 : Int).toNat = 3 from rfl, L23_lk]

set_option maxRecDepth 100000 in
set_option maxHeartbeats 1000000 in
theorem law_doubles (A : Option Addr) (len cap : Nat) (K : Nat → Nat → Int) (S : Nat → ByteArray) (x : Int) (w : World)
    (zb : ∀ i j, -9223372036854775808 ≤ K i j ∧ K i j ≤ 9223372036854775807) (zr : Reads w w.heap.size 5 A len (opsC K S len)) (h0 : -9223372036854775808 ≤ x) (h1 : x ≤ 9223372036854775807) :
    Calls Try.prog 5 #[.slice A len cap, .int .i64 x] w fun e w' => e = .returned (.bool true) ∧ Below w.heap.size w w' := by
  obtain ⟨i0, hi, hz0, hz1, hz2⟩ := info_parts str_info
  clear zb
  go_enter Try.func5, Try.ntmps5
  go_wp2_with fail
  refine (awake_any _).mono ?_
  rintro e w1 ⟨rfl, hb1⟩
  go_wp2_with fail
  refine (new_ls w _ hb1).mono ?_
  rintro e w2 ⟨g, rfl, s2, _, _, _⟩
  rw [← L23_nil] at s2
  have r2 := LR.nil s2 9 1
  go_wp2_with fail
  go_loopw [7, 8, 9] (fun v p _ wr => ∃ (i : Nat) (F : Nat → Prop) (xs : List ByteArray), p = .int .i64 i ∧ i ≤ len ∧ i ≤ 20 ∧ xs.length = i ∧ LR w wr g F (L23 xs) 9 1 v i (xs.map Value.string)) (fun _ p _ _ => 20 - (intOf p).toNat)
  case atStart => exact ⟨0, _, [], rfl, by omega, by omega, rfl, r2⟩
  case round =>
    clear s2 r2
    obtain ⟨i, F, xs, rfl, hil, hi20, hxs, hs⟩ := hrel
    obtain ⟨A1, c1, rfl, hlc, hr⟩ := Reads.of_own hs.own
    by_cases hlt : i < len ∧ i < 20
    · obtain ⟨hlt, hlt2⟩ := hlt
      obtain ⟨ad, rfl, _, _, _, _, hc4⟩ := ops_at zr hs.ls.b hlt
      have hd20 : decide ((i : Int) < 20) = true := by rw [decide_eq_true_eq]; omega
      generalize S i = si at *
      go_wp2_with fail
      refine (short_any si 60 _ (by omega)).mono ?_
      rintro e w3 ⟨⟨s, rfl, hsz⟩, rfl⟩
      obtain ⟨e1, e2⟩ := L23_send xs s (by omega) (by omega)
      have E1 := Lib.hid e1; have E2 := Lib.hid e2; clear e1 e2
      go_wp2_with fail
      refine (send_ls hs.ls 2 3 s (by omega) true E1.out E2.out).mono ?_
      rintro e w4 ⟨rfl, s4, f4⟩
      have r4 := hs.net s4 f4
      have hBs := s4.b.size
      go_wp2_with (at_builtin; refine wpList_append_any _ rfl (.tmp 38) (.tmp 40) 42 rfl w.heap.size 9 i0 _ 1 16 Try.underlying42 hi hz0 hz1 hz2 rfl (by decide) _ _ _ rfl (r4.alloc _).own (w4.heap.size + 1) (some ⟨w4.heap.size, 0, none⟩) 1 1 [.string s] rfl (Reads.new w4 #[.string s] 9 1 rfl rfl) (by simp [Value.oneCell']) (by simp only [maxLen]; omega) (by omega) (by simp only [sz_alloc]; omega) ?_)
      intro v' w5 hown' hgrow hown''
      have r5 := (r4.alloc _).push hown' hgrow (by rw [sz_alloc]; exact hown'')
      go_wp2_with fail
      go_roundw
      case rel => exact ⟨i + 1, _, xs ++ [s], vint (by omega), by omega, by omega, by simp [hxs], by rw [List.map_append]; exact r5⟩
      case measure => simp [intOf]; omega
    · clear hr
      have hlen : (i = len ∧ i ≤ 20) ∨ (i = 20 ∧ i < len) := by omega
      clear zr
      by_cases hz : i = 0
      · subst hz
        obtain rfl : xs = [] := List.eq_nil_of_length_eq_zero hxs
        have ED := Lib.hid (L23_double0 x)
        have hd20 : decide ((0 : Int) < (len : Int)) = false := by simp; omega
        go_wp2_with fail
        refine (double_ls hs.ls 2 3 x h0 h1 _ ED.out rfl).mono ?_
        rintro e w3 ⟨rfl, s3, _⟩
        go_wp2_with fail
        go_ret
        exact ⟨rfl, s3.b⟩
      · have hx : ∃ M : Nat, (M : Int) = (if x < 0 then -(x + 1) else x) ∧ M ≤ 9223372036854775807 ∧ place x i = M % i := by
          by_cases hx0 : x < 0
          · exact ⟨(-(x + 1)).toNat, by rw [if_pos hx0]; omega, by omega, by unfold place; rw [if_pos hx0]⟩
          · exact ⟨x.toNat, by rw [if_neg hx0]; omega, by omega, by unfold place; rw [if_neg hx0]⟩
        obtain ⟨M, hM, hM2, hpl⟩ := hx
        have hi0 : 0 < i := by omega
        have hd2 : ((i : Int) == 0) = false := by simp; omega
        obtain ⟨e1, e2⟩ := L23_double xs x (by omega) (by omega)
        rw [hxs, hpl] at e2
        have hmi : M % i < xs.length := by rw [hxs]; exact Nat.mod_lt _ hi0
        obtain ⟨y, hy⟩ : ∃ y, xs[M % i]? = some y := ⟨_, List.getElem?_eq_getElem hmi⟩
        rw [List.getD_eq_getElem?_getD, hy, Option.getD_some] at e2
        have hmod : (M : Int).tmod (i : Int) = ((M % i : Nat) : Int) := by rw [Int.ofNat_tmod]
        have E1 := Lib.hid e1; have E2 := Lib.hid e2; have HM := Lib.hid hM; have HP := Lib.hid hpl; clear e1 e2 hM hpl
        have E3 := Lib.hid (L23_waits (xs ++ [y]))
        have hl1 : (xs ++ [y]).length = i + 1 := by simp [hxs]
        generalize hm : M % i = m at *
        clear hm
        rw [hxs] at hmi
        have hb5 : ((i : Int) + 1 != ((i + 1 : Nat) : Int)) = false := by simp
        have hil3 : (i < len ∧ 20 ≤ i) ∨ (len ≤ i) := by omega
        clear hlt hlen
        rcases hil3 with ⟨hil2, h20⟩ | hil2
        · have hd20 : decide ((i : Int) < 20) = false := by rw [decide_eq_false_iff_not]; omega
          go_upto_if 54 with (fail)
          go_cut [10] (fun s w' => s = .int .i64 M ∧ wr = w')
          case first =>
            have hm := HM.out; clear HM
            by_cases hx0 : x < 0
            · rw [if_pos hx0] at hm
              go_wp2_with fail
              all_goals go_meet
              all_goals exact ⟨by rw [hm], rfl⟩
            · rw [if_neg hx0] at hm
              go_wp2_with fail
              all_goals go_meet
              all_goals exact ⟨by rw [hm], rfl⟩
          case rest =>
          obtain ⟨rfl, rfl⟩ := hcut
          go_wp2_with fail
          refine (double_ls hs.ls 2 3 x h0 h1 true E1.out E2.out).mono ?_
          rintro e w3 ⟨rfl, s3, f3⟩
          have r3 := hs.net s3 f3
          go_wp2_with fail
          refine (waits_ls s3 2 3 (i + 1) (E3.out.trans hl1)).mono ?_
          rintro e w4 ⟨rfl, rfl⟩
          obtain ⟨A', c', hAA, _, hR⟩ := Reads.of_own r3.own
          obtain ⟨rfl, rfl⟩ : A1 = A' ∧ c1 = c' := by simpa using hAA
          obtain ⟨Ad, rfl, hAb, hAc⟩ := hR.2 hi0
          have hcell : w3.cell? (Ad.add m) = some (.string y) := hAc m _ (by rw [List.getElem?_map, hy]; rfl)
          have hBs := s3.b.size
          clear hR hAc hAA E1 E2 HM E3 hy HP hs hlc hil
          go_wp2_with (at_builtin; refine wpList_append_any _ rfl (.tmp 70) (.tmp 78) 42 rfl w.heap.size 9 i0 _ 1 16 Try.underlying42 hi hz0 hz1 hz2 rfl (by decide) _ _ _ rfl (r3.alloc _).own (w3.heap.size + 1) (some ⟨w3.heap.size, 0, none⟩) 1 1 [.string y] rfl (Reads.new w3 #[.string y] 9 1 rfl rfl) (by simp [Value.oneCell']) (by simp only [maxLen]; omega) (by omega) (by simp only [sz_alloc]; omega) ?_)
          intro v' w5 hown' hgrow hown''
          have r5 := (r3.alloc _).push hown' hgrow (by rw [sz_alloc]; exact hown'')
          clear hown' hgrow hown'' r3 s3 f3 hcell
          obtain ⟨A2, c2, rfl, _, _⟩ := Reads.of_own r5.own
          generalize Fup F wr w3 = F3 at *
          rw [show List.map Value.string xs ++ [Value.string y] = (xs ++ [y]).map Value.string by simp] at r5
          generalize xs ++ [y] = ys at *
          go_wp2_with fail
          go_loopw [11, 12, 13] (fun p _ _ wr => ∃ (j : Nat) (F : Nat → Prop), p = .int .i64 j ∧ j ≤ i + 1 ∧ LR w wr g F (L23 (ys.drop j)) 9 1 (.slice A2 (i + 1) c2) (i + 1) (ys.map Value.string)) (fun p _ _ _ => i + 1 - (intOf p).toNat)
          case atStart => exact ⟨0, _, rfl, by omega, r5⟩
          case round =>
            clear r5
            obtain ⟨j, F, rfl, hj, hs⟩ := hrel
            by_cases hlt : j < i + 1
            · have hdr : ys.drop j = ys[j]'(by omega) :: ys.drop (j + 1) := List.drop_eq_getElem_cons (by omega)
              obtain ⟨A', c', hAA, _, hR⟩ := Reads.of_own (hs.own)
              obtain ⟨rfl, rfl⟩ : A2 = A' ∧ c2 = c' := by simpa using hAA
              have hget : (ys.map Value.string)[j]? = some (.string (ys[j]'(by omega))) := by rw [List.getElem?_map, List.getElem?_eq_getElem (by omega)]; rfl
              generalize ys[j]'(by omega) = s at *
              rw [hdr] at hs
              obtain ⟨t1, t2, t3⟩ := L23_take s (ys.drop (j + 1))
              have T1 := Lib.hid t1; have T2 := Lib.hid t2; have T3 := Lib.hid t3; have HG := Lib.hid hget; clear t1 t2 t3 hdr hR hAA hget
              have hdj : decide ((j : Int) < ((i + 1 : Nat) : Int)) = true := by rw [decide_eq_true_eq]; omega
              go_wp2_with fail
              refine (take_ls hs.ls 2 3 0 (by omega) (by omega) s true T2.out T1.out T3.out).mono ?_
              rintro e w6 ⟨rfl, s6, f6⟩
              have r6 := hs.net s6 f6
              obtain ⟨A', c', hAA, _, hR⟩ := Reads.of_own (r6.own)
              obtain ⟨rfl, rfl⟩ : A2 = A' ∧ c2 = c' := by simpa using hAA
              obtain ⟨Ad2, rfl, hAb2, hAc2⟩ := hR.2 (by omega)
              have hcell2 : w6.cell? (Ad2.add j) = some (.string s) := hAc2 j _ HG.out
              clear hR hAA hAc2
              go_wp2_with fail
              go_roundw
              case rel => exact ⟨j + 1, _, vint (by omega), by omega, r6⟩
              case measure => simp [intOf]; omega
            · obtain rfl : j = i + 1 := by omega
              have hdj : decide (((i + 1 : Nat) : Int) < ((i + 1 : Nat) : Int)) = false := by simp
              rw [List.drop_eq_nil_of_le (by omega)] at hs
              have EW := Lib.hid (L23_waits [])
              go_wp2_with fail
              refine (waits_ls hs.ls 2 3 0 EW.out).mono ?_
              rintro e w6 ⟨rfl, rfl⟩
              go_wp2_with fail
              go_ret
              exact ⟨rfl, hs.ls.b⟩
        · have hd20 : decide ((i : Int) < (len : Int)) = false := by rw [decide_eq_false_iff_not]; omega
          go_upto_if 54 with (fail)
          go_cut [10] (fun s w' => s = .int .i64 M ∧ wr = w')
          case first =>
            have hm := HM.out; clear HM
            by_cases hx0 : x < 0
            · rw [if_pos hx0] at hm
              go_wp2_with fail
              all_goals go_meet
              all_goals exact ⟨by rw [hm], rfl⟩
            · rw [if_neg hx0] at hm
              go_wp2_with fail
              all_goals go_meet
              all_goals exact ⟨by rw [hm], rfl⟩
          case rest =>
          obtain ⟨rfl, rfl⟩ := hcut
          go_wp2_with fail
          refine (double_ls hs.ls 2 3 x h0 h1 true E1.out E2.out).mono ?_
          rintro e w3 ⟨rfl, s3, f3⟩
          have r3 := hs.net s3 f3
          go_wp2_with fail
          refine (waits_ls s3 2 3 (i + 1) (E3.out.trans hl1)).mono ?_
          rintro e w4 ⟨rfl, rfl⟩
          obtain ⟨A', c', hAA, _, hR⟩ := Reads.of_own r3.own
          obtain ⟨rfl, rfl⟩ : A1 = A' ∧ c1 = c' := by simpa using hAA
          obtain ⟨Ad, rfl, hAb, hAc⟩ := hR.2 hi0
          have hcell : w3.cell? (Ad.add m) = some (.string y) := hAc m _ (by rw [List.getElem?_map, hy]; rfl)
          have hBs := s3.b.size
          clear hR hAc hAA E1 E2 HM E3 hy HP hs hlc hil
          go_wp2_with (at_builtin; refine wpList_append_any _ rfl (.tmp 70) (.tmp 78) 42 rfl w.heap.size 9 i0 _ 1 16 Try.underlying42 hi hz0 hz1 hz2 rfl (by decide) _ _ _ rfl (r3.alloc _).own (w3.heap.size + 1) (some ⟨w3.heap.size, 0, none⟩) 1 1 [.string y] rfl (Reads.new w3 #[.string y] 9 1 rfl rfl) (by simp [Value.oneCell']) (by simp only [maxLen]; omega) (by omega) (by simp only [sz_alloc]; omega) ?_)
          intro v' w5 hown' hgrow hown''
          have r5 := (r3.alloc _).push hown' hgrow (by rw [sz_alloc]; exact hown'')
          clear hown' hgrow hown'' r3 s3 f3 hcell
          obtain ⟨A2, c2, rfl, _, _⟩ := Reads.of_own r5.own
          generalize Fup F wr w3 = F3 at *
          rw [show List.map Value.string xs ++ [Value.string y] = (xs ++ [y]).map Value.string by simp] at r5
          generalize xs ++ [y] = ys at *
          go_wp2_with fail
          go_loopw [11, 12, 13] (fun p _ _ wr => ∃ (j : Nat) (F : Nat → Prop), p = .int .i64 j ∧ j ≤ i + 1 ∧ LR w wr g F (L23 (ys.drop j)) 9 1 (.slice A2 (i + 1) c2) (i + 1) (ys.map Value.string)) (fun p _ _ _ => i + 1 - (intOf p).toNat)
          case atStart => exact ⟨0, _, rfl, by omega, r5⟩
          case round =>
            clear r5
            obtain ⟨j, F, rfl, hj, hs⟩ := hrel
            by_cases hlt : j < i + 1
            · have hdr : ys.drop j = ys[j]'(by omega) :: ys.drop (j + 1) := List.drop_eq_getElem_cons (by omega)
              obtain ⟨A', c', hAA, _, hR⟩ := Reads.of_own (hs.own)
              obtain ⟨rfl, rfl⟩ : A2 = A' ∧ c2 = c' := by simpa using hAA
              have hget : (ys.map Value.string)[j]? = some (.string (ys[j]'(by omega))) := by rw [List.getElem?_map, List.getElem?_eq_getElem (by omega)]; rfl
              generalize ys[j]'(by omega) = s at *
              rw [hdr] at hs
              obtain ⟨t1, t2, t3⟩ := L23_take s (ys.drop (j + 1))
              have T1 := Lib.hid t1; have T2 := Lib.hid t2; have T3 := Lib.hid t3; have HG := Lib.hid hget; clear t1 t2 t3 hdr hR hAA hget
              have hdj : decide ((j : Int) < ((i + 1 : Nat) : Int)) = true := by rw [decide_eq_true_eq]; omega
              go_wp2_with fail
              refine (take_ls hs.ls 2 3 0 (by omega) (by omega) s true T2.out T1.out T3.out).mono ?_
              rintro e w6 ⟨rfl, s6, f6⟩
              have r6 := hs.net s6 f6
              obtain ⟨A', c', hAA, _, hR⟩ := Reads.of_own (r6.own)
              obtain ⟨rfl, rfl⟩ : A2 = A' ∧ c2 = c' := by simpa using hAA
              obtain ⟨Ad2, rfl, hAb2, hAc2⟩ := hR.2 (by omega)
              have hcell2 : w6.cell? (Ad2.add j) = some (.string s) := hAc2 j _ HG.out
              clear hR hAA hAc2
              go_wp2_with fail
              go_roundw
              case rel => exact ⟨j + 1, _, vint (by omega), by omega, r6⟩
              case measure => simp [intOf]; omega
            · obtain rfl : j = i + 1 := by omega
              have hdj : decide (((i + 1 : Nat) : Int) < ((i + 1 : Nat) : Int)) = false := by simp
              rw [List.drop_eq_nil_of_le (by omega)] at hs
              have EW := Lib.hid (L23_waits [])
              go_wp2_with fail
              refine (waits_ls hs.ls 2 3 0 EW.out).mono ?_
              rintro e w6 ⟨rfl, rfl⟩
              go_wp2_with fail
              go_ret
              exact ⟨rfl, hs.ls.b⟩
end Go.Proofs.Ytikblgnpabonjaa
