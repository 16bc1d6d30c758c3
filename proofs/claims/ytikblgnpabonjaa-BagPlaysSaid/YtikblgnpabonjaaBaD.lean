import Derived.Test.YtikblgnpabonjaaBaC
namespace Go.Proofs.Ytikblgnpabonjaa
open Go.RowKit
set_option linter.unusedVariables false
attribute [local go_sem] b_max2 b_min2 b_max b_min

theorem Fup_same (F : Nat → Prop) (w : World) : Fup F w w = F := by funext k; unfold Fup; simp; omega

section
variable {w : World} {g : Nat} {F : Nat → Prop} {Ls : List (List ByteArray)}
def fWaits (Ls : List (List ByteArray)) (f t : Int) : Nat := if isL f t then (lk Ls f.toNat t.toNat).length else 0
theorem waits_any (h : Net w g F Ls) (f t : Int) : Calls Try.prog 15 #[.pointer (some ⟨g, 0, none⟩), .int .i64 f, .int .i64 t] w fun e w' => e = .returned (.int .i64 (fWaits Ls f t : Nat)) ∧ w = w' := by
  obtain ⟨vs, h⟩ := h
  rcases isL_cases f t with hl | ⟨a, b, rfl, rfl, ha, hb, hab, hL⟩
  · rw [fWaits, if_neg hl]
    have c := link_out g f t w hl
    clear hl
    go_enter Try.func15, Try.ntmps15
    go_wp2_with fail
    refine c.mono ?_
    rintro e w1 ⟨rfl, rfl⟩
    go_wp2_with fail
    go_ret
    exact ⟨rfl, rfl⟩
  · obtain ⟨A, c, hv, hlc, hr, ho, hlen, hcell, hfz⟩ := h.at_ ha hb
    have e : fWaits Ls a b = (lk Ls a b).length := by rw [fWaits, if_pos hL]; rfl
    rw [e]
    generalize lk Ls a b = l at *
    clear e hr
    go_enter Try.func15, Try.ntmps15
    go_wp2_with fail
    refine (link_in g a b _ ha hb hab).mono ?_
    rintro e w1 ⟨rfl, rfl⟩
    go_wp2_with fail
    go_ret
    exact ⟨rfl, rfl⟩

def canTake (Ls : List (List ByteArray)) (f t : Int) : Bool := decide (isL f t) && decide (0 < (lk Ls f.toNat t.toNat).length)
def fTake (Ls : List (List ByteArray)) (f t x : Int) : List (List ByteArray) := if canTake Ls f t then Ls.set (f.toNat * 8 + t.toNat) ((lk Ls f.toNat t.toNat).eraseIdx (place x (lk Ls f.toNat t.toNat).length)) else Ls
def tTake (Ls : List (List ByteArray)) (f t x : Int) : ByteArray := if canTake Ls f t then (lk Ls f.toNat t.toNat).getD (place x (lk Ls f.toNat t.toNat).length) ⟨#[]⟩ else ⟨#[]⟩
set_option maxRecDepth 100000 in
theorem take_any (h : Net w g F Ls) (f t x : Int) (x0 : -9223372036854775808 ≤ x) (x1 : x ≤ 9223372036854775807) :
    Calls Try.prog 18 #[.pointer (some ⟨g, 0, none⟩), .int .i64 f, .int .i64 t, .int .i64 x] w fun e w' => e = .returned (.tuple #[.string (tTake Ls f t x), .bool (canTake Ls f t)]) ∧ Net w' g (Fup F w w') (fTake Ls f t x) ∧ Fr F w w' := by
  obtain ⟨vs, h⟩ := h
  have hNo : canTake Ls f t = false → Net w g (Fup F w w) (fTake Ls f t x) ∧ Fr F w w := by
    intro hc
    rw [fTake, hc, if_neg (by simp), Fup_same]
    exact ⟨⟨vs, h⟩, Fr.refl _ _⟩
  rcases isL_cases f t with hl | ⟨a, b, rfl, rfl, ha, hb, hab, hL⟩
  · have hc : canTake Ls f t = false := by simp [canTake, hl]
    have ht : tTake Ls f t x = ⟨#[]⟩ := by rw [tTake, hc, if_neg (by simp)]
    have hno := hNo hc
    rw [hc, ht]
    have c := link_out g f t w hl
    clear hc hNo ht
    go_enter Try.func18, Try.ntmps18
    go_wp2_with fail
    refine c.mono ?_
    rintro e w1 ⟨rfl, rfl⟩
    go_wp2_with fail
    go_ret2
    exact ⟨rfl, hno⟩
  · obtain ⟨A, c, hv, hlc, hr, ho, hlen, hcell, hfz⟩ := h.at_ ha hb
    have hC : canTake Ls a b = decide (0 < (lk Ls a b).length) := by simp [canTake, hL]
    have hS : fTake Ls a b x = if canTake Ls a b then Ls.set (a * 8 + b) ((lk Ls a b).eraseIdx (place x (lk Ls a b).length)) else Ls := by simp [fTake]
    have hT : tTake Ls a b x = if canTake Ls a b then (lk Ls a b).getD (place x (lk Ls a b).length) ⟨#[]⟩ else ⟨#[]⟩ := by simp [tTake]
    generalize lk Ls a b = l at *
    by_cases hpos : 0 < l.length
    · rw [decide_eq_true hpos] at hC
      rw [hC, if_pos rfl] at hS hT
      rw [hC, hS, hT]
      have hq := place_lt x hpos
      obtain ⟨r, cap, e, _, hrl⟩ := ho.form hpos
      obtain ⟨rfl, rfl⟩ : A = some ⟨r, 0, none⟩ ∧ c = cap := by simpa using e
      have pk := pick_some (some ⟨r, 0, none⟩) l.length c x w x0 x1 (by omega) hpos
      generalize place x l.length = q at *
      have hx : w.cell? ⟨r, q, none⟩ = some (.string l[q]) := by
        rw [ho.cellAt q (by omega)]; simp [hq]
      have hgd : l.getD q ⟨#[]⟩ = l[q] := by simp [List.getD_eq_getElem?_getD, hq]
      rw [hgd]
      generalize l[q] = s at *
      have hgne : (Value.slice (some ⟨r, 0, none⟩) l.length c).ownBlock ≠ some g := own_blk_ne ho h.blk (by decide)
      have hdel := del_any ho hq
      clear hC hNo hT hS hgd e hr
      have HG := Lib.hid hgne; clear hgne
      go_enter Try.func18, Try.ntmps18
      go_wp2_with fail
      refine (link_in g a b _ ha hb hab).mono ?_
      rintro e w1 ⟨rfl, rfl⟩
      go_wp2_with fail
      refine pk.mono ?_
      rintro e w1 ⟨rfl, rfl⟩
      go_wp2_with fail
      refine hdel.mono ?_
      rintro e w1 ⟨rfl, hown', hgrow⟩
      have hfr : Fr (fun k => (Value.slice (some ⟨r, 0, none⟩) l.length c).ownBlock = some k) w w1 := Fr.of_grown hgrow
      have hb1 := hfr.blk h.blk HG.out
      have hc1 : w1.cell? ⟨g, a * 8 + b, none⟩ = some (.slice (some ⟨r, 0, none⟩) l.length c) := by rw [hb1.cell]; simpa using hv
      have hf1 := hb1.frozen (a * 8 + b)
      have hle : (l.eraseIdx q).length = l.length - 1 := by rw [List.length_eraseIdx, if_pos hq]
      have hu := h.upd (v' := .slice (some ⟨r, 0, none⟩) (l.length - 1) c) (l' := l.eraseIdx q) hv hfr (by rw [hle]; exact hown') (.inl rfl) (by omega)
      have HU := Lib.hid hu; have HLE := Lib.hid hle; clear hu hle
      go_wp2_with fail
      go_ret2
      exact ⟨rfl, ⟨_, HU.out.1⟩, HU.out.2⟩
    · have hl0 : l.length = 0 := by omega
      have hc : canTake Ls a b = false := by rw [hC, decide_eq_false_iff_not]; exact hpos
      rw [hc, if_neg (by simp)] at hT
      have hno := hNo hc
      rw [hc, hT]
      rw [hl0] at hcell
      have pk := pick_none A c x w x0 x1
      clear hC hNo hT hS hr hc ho hv hlc
      have HL0 := Lib.hid hl0; clear hl0
      go_enter Try.func18, Try.ntmps18
      go_wp2_with fail
      refine (link_in g a b _ ha hb hab).mono ?_
      rintro e w1 ⟨rfl, rfl⟩
      go_wp2_with fail
      refine pk.mono ?_
      rintro e w1 ⟨rfl, rfl⟩
      go_wp2_with fail
      go_ret2
      exact ⟨rfl, hno⟩

theorem drop_any (h : Net w g F Ls) (f t x : Int) (x0 : -9223372036854775808 ≤ x) (x1 : x ≤ 9223372036854775807) :
    Calls Try.prog 23 #[.pointer (some ⟨g, 0, none⟩), .int .i64 f, .int .i64 t, .int .i64 x] w fun e w' => e = .returned (.bool (canTake Ls f t)) ∧ Net w' g (Fup F w w') (fTake Ls f t x) ∧ Fr F w w' := by
  have c := take_any h f t x x0 x1
  generalize tTake Ls f t x = tt at *
  go_enter Try.func23, Try.ntmps23
  go_wp2_with fail
  refine c.mono ?_
  rintro e w1 ⟨rfl, h1, h2⟩
  go_wp2_with fail
  go_ret
  exact ⟨rfl, h1, h2⟩

def canDouble (Ls : List (List ByteArray)) (f t : Int) : Bool := decide (isL f t) && decide (0 < (lk Ls f.toNat t.toNat).length ∧ (lk Ls f.toNat t.toNat).length < 200)
def fDouble (Ls : List (List ByteArray)) (f t x : Int) : List (List ByteArray) := if canDouble Ls f t then Ls.set (f.toNat * 8 + t.toNat) (lk Ls f.toNat t.toNat ++ [(lk Ls f.toNat t.toNat).getD (place x (lk Ls f.toNat t.toNat).length) ⟨#[]⟩]) else Ls
set_option maxRecDepth 100000 in
set_option maxHeartbeats 400000 in
theorem double_any (h : Net w g F Ls) (f t x : Int) (x0 : -9223372036854775808 ≤ x) (x1 : x ≤ 9223372036854775807) :
    Calls Try.prog 14 #[.pointer (some ⟨g, 0, none⟩), .int .i64 f, .int .i64 t, .int .i64 x] w fun e w' => e = .returned (.bool (canDouble Ls f t)) ∧ Net w' g (Fup F w w') (fDouble Ls f t x) ∧ Fr F w w' := by
  obtain ⟨vs, h⟩ := h
  have hNo : canDouble Ls f t = false → Net w g (Fup F w w) (fDouble Ls f t x) ∧ Fr F w w := by
    intro hc
    rw [fDouble, hc, if_neg (by simp), Fup_same]
    exact ⟨⟨vs, h⟩, Fr.refl _ _⟩
  rcases isL_cases f t with hl | ⟨a, b, rfl, rfl, ha, hb, hab, hL⟩
  · have hc : canDouble Ls f t = false := by simp [canDouble, hl]
    have hno := hNo hc
    rw [hc]
    have c := link_out g f t w hl
    clear hc hNo
    go_enter Try.func14, Try.ntmps14
    go_wp2_with fail
    refine c.mono ?_
    rintro e w1 ⟨rfl, rfl⟩
    go_wp2_with fail
    go_ret
    exact ⟨rfl, hno⟩
  · obtain ⟨A, c, hv, hlc, hr, ho, hlen, hcell, hfz⟩ := h.at_ ha hb
    obtain ⟨i0, hi, hz0, hz1, hz2⟩ := info_parts str_info
    have hC : canDouble Ls a b = decide (0 < (lk Ls a b).length ∧ (lk Ls a b).length < 200) := by simp [canDouble, hL]
    have hS : fDouble Ls a b x = if canDouble Ls a b then Ls.set (a * 8 + b) (lk Ls a b ++ [(lk Ls a b).getD (place x (lk Ls a b).length) ⟨#[]⟩]) else Ls := by simp [fDouble]
    generalize lk Ls a b = l at *
    by_cases hfull : l.length < 200
    · have d2 : decide ((200 : Int) ≤ (l.length : Int)) = false := by simp; omega
      by_cases hpos : 0 < l.length
      · rw [decide_eq_true ⟨hpos, hfull⟩] at hC
        rw [hC, if_pos rfl] at hS
        rw [hC, hS]
        have hq := place_lt x hpos
        obtain ⟨r, cap, e, _, hrl⟩ := ho.form hpos
        obtain ⟨rfl, rfl⟩ : A = some ⟨r, 0, none⟩ ∧ c = cap := by simpa using e
        have pk := pick_some (some ⟨r, 0, none⟩) l.length c x w x0 x1 (by omega) hpos
        generalize place x l.length = q at *
        have hx : w.cell? ⟨r, q, none⟩ = some (.string l[q]) := by
          rw [ho.cellAt q (by omega)]; simp [hq]
        have hgd : l.getD q ⟨#[]⟩ = l[q] := by simp [List.getD_eq_getElem?_getD, hq]
        rw [hgd]
        generalize l[q] = s at *
        have hgne : (Value.slice (some ⟨r, 0, none⟩) l.length c).ownBlock ≠ some g := own_blk_ne ho h.blk (by decide)
        clear hC hNo hS hgd e hr
        have HG := Lib.hid hgne; clear hgne
        go_enter Try.func14, Try.ntmps14
        go_wp2_with fail
        refine (link_in g a b _ ha hb hab).mono ?_
        rintro e w1 ⟨rfl, rfl⟩
        go_wp2_with fail
        refine pk.mono ?_
        rintro e w1 ⟨rfl, rfl⟩
        go_upto_region 6 with (fail)
        have ho1 := (ho.alloc (.cells #[.string s] 9)).drew
        have hr1 : Reads (w.alloc (.cells #[.string s] 9)).drew (w.heap.size + 1) 1 (some ⟨w.heap.size, 0, none⟩) 1 [.string s] := (Reads.new w #[.string s] 9 1 rfl rfl).drew
        have HO1 := Lib.hid ho1; have HR1 := Lib.hid hr1; clear ho1 hr1
        have hkeep : ∀ w1, (w.alloc (.cells #[.string s] 9)).drew.grownBy w1 (Value.slice (some ⟨r, 0, none⟩) l.length c).ownBlock → w1.cell? ⟨g, a * 8 + b, none⟩ = some (.slice (some ⟨r, 0, none⟩) l.length c) ∧ w1.frozen? ⟨g, a * 8 + b, none⟩ = false := by
          intro w1 hgr
          have hb1 := ((Fr.alloc _ w (.cells #[.string s] 9)).trans ((Fr.drewN _ _ 1).trans (Fr.of_grown hgr))).blk h.blk HG.out
          exact ⟨by rw [hb1.cell]; simpa using hv, hb1.frozen _⟩
        have HK := Lib.hid hkeep; clear hkeep
        have hal : (w.alloc (.cells #[.string s] 9)).cell? ⟨g, a * 8 + b, none⟩ = some (.slice (some ⟨r, 0, none⟩) l.length c) := by rw [World.cell?_alloc_lt _ _ _ h.blk.lt]; exact hcell
        go_region_law (refine step_append_any _ rfl (.tmp 37) (.tmp 44) 53 rfl 0 9 i0 _ 1 16 Try.underlying53 hi hz0 hz1 hz2 rfl (by decide) (.slice (some ⟨r, 0, none⟩) l.length c) _ _ (by simp [Act.eval]) (by exact HO1.out) (w.heap.size + 1) (some ⟨w.heap.size, 0, none⟩) 1 1 [.string s] (by simp [Act.eval]) (by exact HR1.out) (by simp [Value.oneCell']) (by simp only [maxLen]; omega) (by omega) (Nat.zero_le _) ?_; intro v' w1 hown' hgrow hown''; obtain ⟨A', c', rfl, _, _⟩ := Reads.of_own hown'; obtain ⟨k1, k2⟩ := HK.out _ hgrow)
        all_goals
          have hfr : Fr (fun k => (Value.slice (some ⟨r, 0, none⟩) l.length c).ownBlock = some k) w w1 := (Fr.alloc _ w (.cells #[.string s] 9)).trans ((Fr.drewN _ _ 1).trans (Fr.of_grown hgrow))
          have hu := h.upd (l' := l ++ [s]) hv hfr (by rw [List.length_append, List.map_append]; exact hown') (by rcases hown'' with e | e; exact .inl e; exact .inr (.inr ⟨_, e, by show _ ≤ (w.alloc _).heap.size; simp⟩)) (by simp; omega)
          have HU := Lib.hid hu; clear hu hown''
          go_wp2_with fail
          go_ret
          exact ⟨rfl, ⟨_, HU.out.1⟩, HU.out.2⟩
      · have hl0 : l.length = 0 := by omega
        have hc : canDouble Ls a b = false := by rw [hC, decide_eq_false_iff_not]; exact fun h => hpos h.1
        have hno := hNo hc
        rw [hc]
        rw [hl0] at hcell
        have pk := pick_none A c x w x0 x1
        clear hC hNo hS hr hc ho hv hlc
        have HL0 := Lib.hid hl0; clear hl0
        go_enter Try.func14, Try.ntmps14
        go_wp2_with fail
        refine (link_in g a b _ ha hb hab).mono ?_
        rintro e w1 ⟨rfl, rfl⟩
        go_wp2_with fail
        refine pk.mono ?_
        rintro e w1 ⟨rfl, rfl⟩
        go_wp2_with fail
        go_ret
        exact ⟨rfl, hno⟩
    · have d2 : decide ((200 : Int) ≤ (l.length : Int)) = true := by simp; omega
      have hc : canDouble Ls a b = false := by rw [hC, decide_eq_false_iff_not]; exact fun h => hfull h.2
      have hno := hNo hc
      rw [hc]
      clear hC hNo hS hr hc
      go_enter Try.func14, Try.ntmps14
      go_wp2_with fail
      refine (link_in g a b _ ha hb hab).mono ?_
      rintro e w1 ⟨rfl, rfl⟩
      go_wp2_with fail
      go_ret
      exact ⟨rfl, hno⟩
end
end Go.Proofs.Ytikblgnpabonjaa
