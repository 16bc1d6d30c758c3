import Derived.Test.YtikblgnpabonjaaBaF
namespace Go.Proofs.Ytikblgnpabonjaa
open Go.RowKit
set_option linter.unusedVariables false
attribute [local go_sem] b_max2 b_min2 b_max b_min

theorem IsN.up {w w' : World} {g : Nat} {F : Nat → Prop} {vs : List Value} {Ls : List (List ByteArray)} (h : IsN w g F vs Ls) (hb : Below w.heap.size w w') : IsN w' g (Fup F w w') vs Ls := by
  have k := h.low hb
  exact ⟨k.lv, k.ll, k.blk, k.own, k.dis, .inl k.fg, fun i v n hv hn => .inl (k.fo i v n hv hn), fun n hn => by rcases hn with hn | hn; exact k.fb n hn; exact hn.2, k.cap⟩
theorem Net.up {w w' : World} {g : Nat} {F : Nat → Prop} {Ls : List (List ByteArray)} (h : Net w g F Ls) (hb : Below w.heap.size w w') : Net w' g (Fup F w w') Ls := by
  obtain ⟨vs, h⟩ := h
  exact ⟨vs, h.up hb⟩
theorem Net.cap {w : World} {g : Nat} {F : Nat → Prop} {Ls : List (List ByteArray)} (h : Net w g F Ls) : ∀ l ∈ Ls, l.length ≤ 200 := by obtain ⟨vs, h⟩ := h; exact h.cap
theorem Net.len {w : World} {g : Nat} {F : Nat → Prop} {Ls : List (List ByteArray)} (h : Net w g F Ls) : Ls.length = 64 := by obtain ⟨vs, h⟩ := h; exact h.ll
theorem Net.low {w w' : World} {g : Nat} {F : Nat → Prop} {Ls : List (List ByteArray)} (h : Net w g F Ls) (hb : Below w.heap.size w w') : Net w' g F Ls := by
  obtain ⟨vs, h⟩ := h
  exact ⟨vs, h.low hb⟩
theorem Net.drewN {w : World} {g : Nat} {F : Nat → Prop} {Ls : List (List ByteArray)} (h : Net w g F Ls) (n : Nat) : Net (w.drewN n) g F Ls := by
  obtain ⟨vs, h⟩ := h
  exact ⟨vs, h.drewN n⟩

theorem Net.more {w : World} {g : Nat} {F F' : Nat → Prop} {Ls : List (List ByteArray)} (h : Net w g F Ls) (h1 : ∀ k, F k → F' k) (h2 : ∀ k, F' k → k < w.heap.size) : Net w g F' Ls := by
  obtain ⟨vs, k⟩ := h
  exact ⟨vs, k.lv, k.ll, k.blk, k.own, k.dis, h1 _ k.fg, fun i v n hv hn => h1 _ (k.fo i v n hv hn), h2, k.cap⟩
theorem Net.keep {w w' : World} {g : Nat} {F G : Nat → Prop} {Ls : List (List ByteArray)} (h : Net w g F Ls) (hf : Fr G w w') (hG : ∀ k, G k → ¬ F k) : Net w' g F Ls := by
  obtain ⟨vs, k⟩ := h
  exact ⟨vs, k.keep hf hG⟩
theorem Net.fb {w : World} {g : Nat} {F : Nat → Prop} {Ls : List (List ByteArray)} (h : Net w g F Ls) : ∀ k, F k → k < w.heap.size := by obtain ⟨vs, h⟩ := h; exact h.fb

set_option maxRecDepth 100000 in
set_option maxHeartbeats 1000000 in
theorem any_none {w : World} {g : Nat} {F : Nat → Prop} {Ls : List (List ByteArray)} (h : Net w g F Ls) (x : Int) (x0 : -9223372036854775808 ≤ x) (x1 : x ≤ 9223372036854775807) (hn : fAll Ls = []) :
    Calls Try.prog 16 #[.pointer (some ⟨g, 0, none⟩), .int .i64 x] w fun e w' => e = .returned (.tuple #[.agg #[.int .i64 0, .int .i64 0, .string ⟨#[]⟩], .bool false]) ∧ Below w.heap.size w w' := by
  have c := all_any (h.low ((Below.refl _ w).alloc (Nat.le_refl _) (.cells #[.int .i64 0, .int .i64 0, .string ⟨#[]⟩] 32)))
  rw [hn] at c
  have HN := Lib.hid hn; clear hn
  obtain ⟨i0, hi, hz0, hz1, hz2⟩ := info_parts str_info
  go_enter Try.func16, Try.ntmps16
  go_wp2_with fail
  refine c.mono ?_
  rintro e w1 ⟨v, rfl, hown, hb⟩
  obtain ⟨A, cp, rfl, _, _⟩ := Reads.of_own hown
  rw [show ([] : List Pc).length = 0 from rfl]
  have hs1 := hb.size
  simp only [sz_alloc] at hs1
  have hb0 : Below w.heap.size w w1 := ((Below.refl _ w).alloc (Nat.le_refl _) _).trans (hb.mono (by simp))
  go_wp2_with (with_reducible refine wpList_make_full _ rfl (.tmp 16) (.tmp 16) 53 rfl 0 9 i0 (.string ⟨#[]⟩) 1 Try.underlying53 hi hz0 hz1 .i64 .i64 0 0 0 rfl rfl rfl rfl (by rw [hz2]; omega) (by simp) (Nat.zero_le _) ?_)
  intro w2 hown2 hgr2
  have hb2 : Below w.heap.size w w2 := hb0.grown hgr2 (by omega) (by simp)
  go_wp2_with fail
  refine (pick_none _ _ x _ x0 x1).mono ?_
  rintro e w3 ⟨rfl, rfl⟩
  have hB : Blk w2 w.heap.size 32 #[.int .i64 0, .int .i64 0, .string ⟨#[]⟩] := ((Blk.new w 32 _).below hb (by simp)).grown hgr2 (by simp)
  have k0 : w2.cell? ⟨w.heap.size, 0, none⟩ = some (.int .i64 0) := hB.cell 0
  have k1 : w2.cell? ⟨w.heap.size, 1, none⟩ = some (.int .i64 0) := hB.cell 1
  have k2 : w2.cell? ⟨w.heap.size, 2, none⟩ = some (.string ⟨#[]⟩) := hB.cell 2
  have f0 := hB.frozen 0
  have f1 := hB.frozen 1
  have f2 := hB.frozen 2
  go_wp2_with fail
  have e0 := (hB.set_ 0 (.int .i64 0)).cell 0
  have e1 := ((hB.set_ 0 (.int .i64 0)).set_ 1 (.int .i64 0)).cell 1
  have e2 := (((hB.set_ 0 (.int .i64 0)).set_ 1 (.int .i64 0)).set_ 2 (.string ⟨#[]⟩)).cell 2
  simp at e0 e1 e2
  refine bodyPost_ret (v := .tuple #[.agg #[.int .i64 0, .int .i64 0, .string ⟨#[]⟩], .bool false]) (by simp [results, Try.results16, go_sem, e0, e1, e2]) rfl ⟨rfl, ?_⟩
  exact ((hb2.setCell (Nat.le_refl _) _).setCell (Nat.le_refl _) _).setCell (Nat.le_refl _) _

theorem cellsQ_get (l : List Pc) (k : Nat) (hk : k < l.length) : (cellsQ l)[k * 3]? = some (.int .i64 ((l[k]).1 : Nat)) ∧ (cellsQ l)[k * 3 + 1]? = some (.int .i64 ((l[k]).2.1 : Nat)) ∧ (cellsQ l)[k * 3 + 2]? = some (.string (l[k]).2.2) := by
  have h := fun j hj => flat_get pcv 3 (fun _ => rfl) l k j hk hj
  exact ⟨h 0 (by omega), h 1 (by omega), h 2 (by omega)⟩
theorem rowQ {w : World} {B g n cap : Nat} {l : List Pc} (hn : n = l.length) (hown : w.ownsRow B 32 3 (.slice (some ⟨g, 0, none⟩) n cap) n (cellsQ l)) (k : Nat) (hk : k < l.length) :
    w.cell? ⟨g, k * 3, none⟩ = some (.int .i64 ((l[k]).1 : Nat)) ∧ w.cell? ⟨g, k * 3 + 1, none⟩ = some (.int .i64 ((l[k]).2.1 : Nat)) ∧ w.cell? ⟨g, k * 3 + 2, none⟩ = some (.string (l[k]).2.2) := by
  obtain ⟨h0, h1, h2⟩ := cellsQ_get l k hk
  exact ⟨(hown.cellAt _ (by omega)).trans h0, (hown.cellAt _ (by omega)).trans h1, (hown.cellAt _ (by omega)).trans h2⟩

set_option maxRecDepth 100000 in
set_option maxHeartbeats 1000000 in
theorem any_some {w : World} {g : Nat} {F : Nat → Prop} {Ls : List (List ByteArray)} (h : Net w g F Ls) (x : Int) (x0 : -9223372036854775808 ≤ x) (x1 : x ≤ 9223372036854775807)
    (a b q : Nat) (s : ByteArray) (pre post : List Pc) (ha : a < 8) (hb8 : b < 8) (hab : a ≠ b) (hsp : fAll Ls = pre ++ (rowOf Ls a b ++ post)) (hq : q < (lk Ls a b).length) (hs : (lk Ls a b)[q]? = some s) (hpl : place x (fAll Ls).length = pre.length + q) (hpre : ∀ p ∈ pre, ¬ (p.1 = a ∧ p.2.1 = b)) :
    Calls Try.prog 16 #[.pointer (some ⟨g, 0, none⟩), .int .i64 x] w fun e w' => e = .returned (.tuple #[.agg #[.int .i64 a, .int .i64 b, .string s], .bool true]) ∧ Net w' g (Fup F w w') (Ls.set (a * 8 + b) ((lk Ls a b).eraseIdx q)) ∧ Fr F w w' := by
  obtain ⟨i0, hi, hz0, hz1, hz2⟩ := info_parts str_info
  have hn0 := h.low ((Below.refl _ w).alloc (Nat.le_refl _) (.cells #[.int .i64 0, .int .i64 0, .string ⟨#[]⟩] 32))
  have c := all_any hn0
  have hlen : (fAll Ls).length ≤ 12800 := by have := allUp_le h.cap 8; unfold fAll; omega
  have hL : (fAll Ls).length = pre.length + ((lk Ls a b).length + post.length) := by rw [hsp]; simp [rowOf]
  -- what lies at each place up to the one that is taken
  have hat : ∀ k, k ≤ q → ∃ s', (fAll Ls)[pre.length + k]? = some (a, b, s') ∧ (k = q → s' = s) := by
    intro k hk
    have hk2 : k < (lk Ls a b).length := by omega
    refine ⟨(lk Ls a b)[k], ?_, ?_⟩
    · rw [hsp, List.getElem?_append_right (by omega), Nat.add_sub_cancel_left, List.getElem?_append_left (by simpa [rowOf] using hk2)]
      simp [rowOf, hk2]
    · rintro rfl
      rw [List.getElem?_eq_getElem hk2] at hs
      exact Option.some.inj hs
  have hbef : ∀ k, k < pre.length → ∃ y, (fAll Ls)[k]? = some y ∧ ¬ (y.1 = a ∧ y.2.1 = b) := by
    intro k hk
    exact ⟨pre[k], by rw [hsp, List.getElem?_append_left hk, List.getElem?_eq_getElem hk], hpre _ (List.getElem_mem hk)⟩
  have htk : fTake Ls a b q = Ls.set (a * 8 + b) ((lk Ls a b).eraseIdx q) ∧ canTake Ls a b = true := by
    have hc : canTake Ls a b = true := by
      simp only [canTake, Int.toNat_natCast, Bool.and_eq_true, decide_eq_true_eq]
      exact ⟨⟨by omega, by omega, by omega, by omega, by omega⟩, by omega⟩
    refine ⟨?_, hc⟩
    rw [fTake, hc, if_pos rfl]
    simp only [Int.toNat_natCast]
    rw [show place (q : Int) (lk Ls a b).length = q by unfold place; rw [if_neg (by omega)]; exact Nat.mod_eq_of_lt hq]
  generalize hM : fAll Ls = M at *
  generalize (lk Ls a b).length = rl at *
  have HAT := Lib.hid hat; have HBE := Lib.hid hbef; have HTK := Lib.hid htk; have HPL := Lib.hid hpl; have HL := Lib.hid hL
  clear hat hbef htk hM hsp hs hpl hL hpre
  have hpq : pre.length + q < M.length := by have := HL.out; omega
  generalize hP : pre.length = P at *
  clear hP
  go_enter Try.func16, Try.ntmps16
  go_wp2_with fail
  refine c.mono ?_
  rintro e w1 ⟨v, rfl, hown, hb⟩
  have hs1 := hb.size
  simp only [sz_alloc] at hs1
  have hb0 : Below w.heap.size w w1 := ((Below.refl _ w).alloc (Nat.le_refl _) _).trans (hb.mono (by simp))
  have hR : Blk w1 w.heap.size 32 #[.int .i64 0, .int .i64 0, .string ⟨#[]⟩] := (Blk.new w 32 _).below hb (by simp)
  obtain ⟨gm, cm, rfl, hgm, hgm2⟩ := hown.form (by omega)
  simp only [sz_alloc] at hgm
  clear c hb
  go_wp2_with (with_reducible refine wpList_make_full _ rfl (.tmp 16) (.tmp 16) 53 rfl 0 9 i0 (.string ⟨#[]⟩) 1 Try.underlying53 hi hz0 hz1 .i64 .i64 M.length M.length M.length rfl rfl rfl rfl (by rw [hz2]; omega) (by simp only [maxLen]; omega) (Nat.zero_le _) ?_)
  intro w2 hown2 hgr2
  have hb2 : Below w.heap.size w w2 := hb0.grown hgr2 (by omega) (by simp)
  have hR2 := hR.grown hgr2 (by simp)
  have hownM : w2.ownsRow 0 32 3 (.slice (some ⟨gm, 0, none⟩) M.length cm) M.length (cellsQ M) := (own_mono hown).kept hgr2 (.inr (by simp [Value.ownBlock]))
  have hgm3 : gm < w2.heap.size := (hownM.lt gm rfl).2
  have hs2 := hb2.size
  clear hown hR hgr2 hown2
  go_wp2_with fail
  refine (pick_some _ _ _ x _ x0 x1 (by omega) (by omega)).mono ?_
  rintro e w3 ⟨rfl, rfl⟩
  rw [HPL.out]
  obtain ⟨s', hs', hss⟩ := HAT.out q (Nat.le_refl _)
  obtain rfl := hss rfl
  obtain ⟨r0, r1, r2⟩ := rowQ rfl hownM (P + q) hpq
  have hMg : M[P + q] = (a, b, s') := by rw [List.getElem?_eq_getElem hpq] at hs'; exact Option.some.inj hs'
  rw [hMg] at r0 r1 r2
  have HMG := Lib.hid hMg; clear hMg hs' hss
  simp only at r0 r1 r2
  go_wp2_with fail
  have hP3 : Blk (w2.alloc (.cells #[.int .i64 a, .int .i64 b, .string s'] 32)) w2.heap.size 32 #[.int .i64 a, .int .i64 b, .string s'] := Blk.new _ _ _
  have hM3 := hownM.alloc (.cells #[.int .i64 a, .int .i64 b, .string s'] 32)
  have hR3 := hR2.alloc (.cells #[.int .i64 a, .int .i64 b, .string s'] 32)
  have hb3 : Below w.heap.size w (w2.alloc (.cells #[.int .i64 a, .int .i64 b, .string s'] 32)) := hb2.alloc hs2 _
  have hn3 : Net (w2.alloc (.cells #[.int .i64 a, .int .i64 b, .string s'] 32)) g F Ls := h.low hb3
  clear hR2 hownM hb2 r0 r1 r2
  generalize hpp : w2.heap.size = pp at *
  have HPP := Lib.hid hpp; clear hpp
  generalize w2.alloc (.cells #[.int .i64 a, .int .i64 b, .string s'] 32) = w3 at *
  have p0 : w3.cell? ⟨pp, 0, none⟩ = some (.int .i64 a) := hP3.cell 0
  have p1 : w3.cell? ⟨pp, 1, none⟩ = some (.int .i64 b) := hP3.cell 1
  have p2 : w3.cell? ⟨pp, 2, none⟩ = some (.string s') := hP3.cell 2
  go_loopw [7] (fun p wr => ∃ I : Nat, p = .int .i64 I ∧ P ≤ I ∧ I ≤ P + q ∧ ∃ m, wr = w3.drewN m) (fun p _ => (intOf p).toNat)
  case atStart => exact ⟨P + q, vint (by omega), by omega, by omega, 0, rfl⟩
  case round =>
    obtain ⟨I, rfl, hI0, hI1, m, rfl⟩ := hrel
    by_cases hI : P < I
    · obtain ⟨J, rfl⟩ : ∃ J, I = J + 1 := ⟨I - 1, by omega⟩
      obtain ⟨t, ht, _⟩ := HAT.out (J - P) (by omega)
      rw [show P + (J - P) = J by omega] at ht
      have hJ : J < M.length := by omega
      obtain ⟨r0, r1, r2⟩ := rowQ rfl hM3 J hJ
      have hMg : M[J] = (a, b, t) := by rw [List.getElem?_eq_getElem hJ] at ht; exact Option.some.inj ht
      rw [hMg] at r0 r1 r2
      simp only at r0 r1 r2
      have v1 : IntKind.i64.wrap ((J : Int) + 1 - 1) = (J : Int) := by rw [show (J : Int) + 1 - 1 = J by omega]; exact IntWalk.i64_in _ (by omega)
      have v2 : IntKind.i64.wrap (J : Int) = (J : Int) := IntWalk.i64_in _ (by omega)
      have v3 : decide ((0 : Int) < (J : Int) + 1) = true := by rw [decide_eq_true_eq]; omega
      clear hMg ht
      go_wp2_with fail
      go_quiet (fail)
      clear v1 v2 v3
      go_wp2_with fail
      go_roundw
      case rel => exact ⟨J, rfl, by omega, by omega, _, rfl⟩
      case measure => simp [intOf]
    · obtain rfl : I = P := by omega
      have hstop : ∃ nq, True := ⟨0, trivial⟩
      -- the test says no, in one of three ways
      have hcase : I = 0 ∨ ∃ J y, I = J + 1 ∧ M[J]? = some y ∧ (y.1 ≠ a ∨ (y.1 = a ∧ y.2.1 ≠ b)) := by
        rcases Nat.eq_zero_or_pos I with h0 | h0
        · exact .inl h0
        · obtain ⟨y, hy, hne⟩ := HBE.out (I - 1) (by omega)
          refine .inr ⟨I - 1, y, by omega, hy, ?_⟩
          by_cases e : y.1 = a
          · exact .inr ⟨e, fun e2 => hne ⟨e, e2⟩⟩
          · exact .inl e
      clear hstop
      have HC := Lib.hid hcase; clear hcase
      go_upto_region 6 with (fail)
      go_cut [52] (fun u w' => u = .bool false ∧ ∃ m', w' = w3.drewN m')
      case first =>
        have hcase := HC.out; clear HC
        rcases hcase with rfl | ⟨J, y, rfl, hy, hne⟩
        · have v3 : decide ((0 : Int) < ((0 : Nat) : Int)) = false := by decide
          go_quiet (fail)
          go_wp2_with fail
          go_meet
          exact ⟨rfl, m + nq, by rw [World.drewN_drewN]⟩
        · have hJ : J < M.length := by omega
          obtain ⟨r0, r1, r2⟩ := rowQ rfl hM3 J hJ
          have hMg : M[J] = y := by rw [List.getElem?_eq_getElem hJ] at hy; exact Option.some.inj hy
          rw [hMg] at r0 r1 r2
          have v1 : IntKind.i64.wrap ((J : Int) + 1 - 1) = (J : Int) := by rw [show (J : Int) + 1 - 1 = J by omega]; exact IntWalk.i64_in _ (by omega)
          have v2 : IntKind.i64.wrap (J : Int) = (J : Int) := IntWalk.i64_in _ (by omega)
          have v3 : decide ((0 : Int) < (J : Int) + 1) = true := by rw [decide_eq_true_eq]; omega
          clear hMg hy
          rcases hne with hne | ⟨e1, hne⟩
          · have t1 : (y.1 == a) = false := by simpa using hne
            have t1' : ((y.1 : Int) == (a : Int)) = false := by simpa using (by omega : ¬ (y.1 : Int) = a)
            clear hne
            go_quiet (fail)
            clear v1 v2 v3
            go_wp2_with fail
            go_meet
            exact ⟨rfl, m + nq, by rw [World.drewN_drewN]⟩
          · have t1 : (y.1 == a) = true := by simpa using e1
            have t1' : ((y.1 : Int) == (a : Int)) = true := by simpa using (by omega : (y.1 : Int) = a)
            have t2 : (y.2.1 == b) = false := by simpa using hne
            have t2' : ((y.2.1 : Int) == (b : Int)) = false := by simpa using (by omega : ¬ (y.2.1 : Int) = b)
            clear hne e1
            go_quiet (fail)
            clear v1 v2 v3
            go_wp2_with fail
            go_meet
            exact ⟨rfl, m + nq, by rw [World.drewN_drewN]⟩
      case rest =>
      obtain ⟨rfl, m', rfl⟩ := hcut
      have hs4 := hb3.size
      go_wp2_with (with_reducible refine wpList_make_full _ rfl (.tmp 57) (.tmp 57) 53 rfl 0 9 i0 (.string ⟨#[]⟩) 1 Try.underlying53 hi hz0 hz1 .i64 .i64 M.length M.length M.length rfl rfl rfl rfl (by rw [hz2]; omega) (by simp only [maxLen]; omega) (Nat.zero_le _) ?_)
      intro w5 hown5 hgr5
      have hb5 : Below w.heap.size w w5 := (bdrewN hb3 m').grown hgr5 hs4 (by simp)
      have hn5 : Net w5 g F Ls := h.low hb5
      have hR5 : Blk w5 w.heap.size 32 #[.int .i64 0, .int .i64 0, .string ⟨#[]⟩] := (hR3.drewN m').grown hgr5 (by simp)
      have hP5 : Blk w5 pp 32 #[.int .i64 a, .int .i64 b, .string s'] := (hP3.drewN m').grown hgr5 (by simp)
      clear hown5 hgr5
      go_wp2_with fail
      refine (pick_some _ _ _ x _ x0 x1 (by omega) (by omega)).mono ?_
      rintro e w6 ⟨rfl, rfl⟩
      rw [HPL.out]
      have u0 : w5.cell? ⟨pp, 0, none⟩ = some (.int .i64 a) := hP5.cell 0
      have u1 : w5.cell? ⟨pp, 1, none⟩ = some (.int .i64 b) := hP5.cell 1
      go_wp2_with fail
      rw [show (I : Int) + (q : Int) - (I : Int) = (q : Int) by omega]
      refine (take_any hn5 a b q (by omega) (by omega)).mono ?_
      rw [HTK.out.1, HTK.out.2]
      generalize tTake Ls a b q = tt
      rintro e w7 ⟨rfl, hn7, hf7⟩
      have hnF : ∀ k, w.heap.size ≤ k → ¬ F k := by
        obtain ⟨vs, hh⟩ := h
        intro k hk hf
        have := hh.fb k hf
        omega
      have hpp : w.heap.size ≤ pp := by have := HPP.out; omega
      have hP7 := hf7.blk hP5 (hnF pp hpp)
      have hR7 := hf7.blk hR5 (hnF _ (Nat.le_refl _))
      have a0 : w7.cell? ⟨pp, 0, none⟩ = some (.int .i64 a) := hP7.cell 0
      have a1 : w7.cell? ⟨pp, 1, none⟩ = some (.int .i64 b) := hP7.cell 1
      have a2 : w7.cell? ⟨pp, 2, none⟩ = some (.string s') := hP7.cell 2
      have b0 : w7.cell? ⟨w.heap.size, 0, none⟩ = some (.int .i64 0) := hR7.cell 0
      have b1 : w7.cell? ⟨w.heap.size, 1, none⟩ = some (.int .i64 0) := hR7.cell 1
      have b2 : w7.cell? ⟨w.heap.size, 2, none⟩ = some (.string ⟨#[]⟩) := hR7.cell 2
      have f0 := hR7.frozen 0
      have f1 := hR7.frozen 1
      have f2 := hR7.frozen 2
      have e0 := (hR7.set_ 0 (.int .i64 a)).cell 0
      have e1 := ((hR7.set_ 0 (.int .i64 a)).set_ 1 (.int .i64 b)).cell 1
      have e2 := (((hR7.set_ 0 (.int .i64 a)).set_ 1 (.int .i64 b)).set_ 2 (.string s')).cell 2
      simp at e0 e1 e2
      go_wp2_with fail
      have hsz7 := hf7.size
      have hs5 := hb5.size
      have hwp5 : w.heap.size < w5.heap.size := hR5.lt
      refine bodyPost_ret (v := .tuple #[.agg #[.int .i64 a, .int .i64 b, .string s'], .bool true]) (by simp [results, Try.results16, go_sem, e0, e1, e2]) rfl ⟨rfl, ?_, ?_⟩
      · have hset : Fr (fun k => k = w.heap.size) w7 (((w7.setCell ⟨w.heap.size, 0, none⟩ (.int .i64 a)).setCell ⟨w.heap.size, 1, none⟩ (.int .i64 b)).setCell ⟨w.heap.size, 2, none⟩ (.string s')) :=
          ((Fr.setCell (F := fun k => k = w.heap.size) _ _ _ _ rfl).trans (Fr.setCell _ _ _ _ rfl)).trans (Fr.setCell _ _ _ _ rfl)
        have k1 := hn7.keep hset (fun k hk hk2 => by
          subst hk
          rcases hk2 with hk2 | ⟨hk2, _⟩
          · exact hnF _ (Nat.le_refl _) hk2
          · omega)
        refine k1.more (fun k hk => ?_) (fun k hk => ?_)
        · rcases hk with hk | ⟨hk, hk3⟩
          · exact .inl hk
          · exact .inr ⟨by omega, by simpa using hk3⟩
        · rcases hk with hk | ⟨_, hk3⟩
          · have := h.fb k hk; simp; omega
          · exact hk3
      · have hset : Fr (fun k => k = w.heap.size ∨ F k) w7 (((w7.setCell ⟨w.heap.size, 0, none⟩ (.int .i64 a)).setCell ⟨w.heap.size, 1, none⟩ (.int .i64 b)).setCell ⟨w.heap.size, 2, none⟩ (.string s')) :=
          ((Fr.setCell _ _ _ _ (.inl rfl)).trans (Fr.setCell _ _ _ _ (.inl rfl))).trans (Fr.setCell _ _ _ _ (.inl rfl))
        have hall := ((Fr.of_below hb5 (fun k => k = w.heap.size ∨ F k)).trans (hf7.mono (fun k hk _ => .inr hk))).trans hset
        exact hall.mono (fun k hk hlt => by rcases hk with hk | hk; omega; exact hk)
end Go.Proofs.Ytikblgnpabonjaa
