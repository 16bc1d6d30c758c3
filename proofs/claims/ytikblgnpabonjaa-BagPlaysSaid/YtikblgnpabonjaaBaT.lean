import Derived.Test.YtikblgnpabonjaaBaS
namespace Go.Proofs.Ytikblgnpabonjaa
open Go.RowKit
set_option linter.unusedVariables false
attribute [local go_sem] b_max2 b_min2 b_max b_min

theorem RN.upd {w w1 : World} {g : Nat} {F : Nat → Prop} {l l' : List Pc} {A : Option Addr} {c : Nat} (h : RN w g F l A c) {v' : Value} (hfr : Fr (fun k => (Value.slice A l.length c).ownBlock = some k) w w1)
    (hown : w1.ownsRow 0 32 3 v' l'.length (cellsQ l')) (hb : v'.ownBlock = (Value.slice A l.length c).ownBlock ∨ v'.ownBlock = none ∨ ∃ K, v'.ownBlock = some K ∧ w.heap.size ≤ K) (hlen : l'.length ≤ 20000) :
    RNet (w1.setCell ⟨g, 0, none⟩ v') g (Fup F w (w1.setCell ⟨g, 0, none⟩ v')) l' ∧ Fr F w (w1.setCell ⟨g, 0, none⟩ v') := by
  have hgne : (Value.slice A l.length c).ownBlock ≠ some g := own_blk_ne h.own h.blk (by decide)
  have hblk1 : Blk w1 g 50 #[.slice A l.length c] := hfr.blk h.blk hgne
  have hv'g : v'.ownBlock ≠ some g := own_blk_ne hown hblk1 (by decide)
  have hsz : (w1.setCell ⟨g, 0, none⟩ v').heap.size = w1.heap.size := by simp
  have hFr : Fr F w (w1.setCell ⟨g, 0, none⟩ v') := (hfr.mono (fun k hk _ => h.fo k hk)).trans (Fr.setCell w1 g 0 v' h.fg)
  obtain ⟨A', c', rfl, _, _⟩ := Reads.of_own hown
  refine ⟨⟨A', c', hblk1.set_ 0 _, hown.kept (grownBy_setCell w1 g 0 _) (.inr hv'g), .inl h.fg, ?_, ?_, hlen⟩, hFr⟩
  · intro k hk
    rcases hb with e | e | ⟨K, e, hK⟩
    · rw [e] at hk; exact .inl (h.fo k hk)
    · rw [e] at hk; cases hk
    · rw [e] at hk
      obtain rfl := Option.some.inj hk
      exact .inr ⟨hK, by rw [hsz]; exact (hown.lt K e).2⟩
  · intro k hk
    rcases hk with hk | ⟨_, hk⟩
    · exact Nat.lt_of_lt_of_le (h.fb k hk) hFr.size
    · exact hk

set_option maxRecDepth 100000 in
set_option maxHeartbeats 1000000 in
theorem rsend_ok {w : World} {g : Nat} {F : Nat → Prop} {l : List Pc} (h : RNet w g F l) (a b : Nat) (s : ByteArray) (ha : a < 8) (hb : b < 8) (hab : a ≠ b) (hs : s.size ≤ 2000) (hw : (l.filter (isP a b)).length < 200) (hl : l.length < 20000) :
    Calls Try.prog 26 #[.pointer (some ⟨g, 0, none⟩), .int .i64 a, .int .i64 b, .string s] w fun e w' => e = .returned (.bool true) ∧ RNet w' g (Fup F w w') (l ++ [(a, b, s)]) ∧ Fr F w w' := by
  obtain ⟨i0, hi, hz0, hz1, hz2⟩ := info_parts pc_info
  have cl := rlink_any a b w
  rw [show decide (isL a b) = true by rw [decide_eq_true_eq]; exact ⟨by omega, by omega, by omega, by omega, by omega⟩] at cl
  have cw := rwaits_any h a b
  obtain ⟨A, c, h⟩ := h
  have hg : w.cell? ⟨g, 0, none⟩ = some (.slice A l.length c) := h.blk.cell 0
  have hgl := h.blk.lt
  generalize (l.filter (isP a b)).length = n at *
  have d1 : decide ((2000 : Int) < (s.size : Int)) = false := by rw [decide_eq_false_iff_not]; omega
  have d2 : decide ((200 : Int) ≤ (n : Int)) = false := by rw [decide_eq_false_iff_not]; omega
  have H := Lib.hid h; clear h
  go_enter Try.func26, Try.ntmps26
  go_wp2_with fail
  refine cl.mono ?_
  rintro e w1 ⟨rfl, rfl⟩
  go_wp2_with fail
  refine cw.mono ?_
  rintro e w1 ⟨rfl, rfl⟩
  clear cl cw
  have ho := H.out.own
  go_wp2_with (at_builtin; refine wpList_append_any _ rfl (.tmp 31) (.tmp 36) 27 rfl 0 32 i0 _ 3 32 Try.underlying27 hi hz0 hz1 hz2 rfl (by decide) _ _ _ rfl (ho.alloc _) (w.heap.size + 1) (some ⟨w.heap.size, 0, none⟩) 1 1 (pcv (a, b, s)) rfl (Reads.new w #[.int .i64 a, .int .i64 b, .string s] 32 1 rfl rfl) (by simp [pcv, Value.oneCell']) (by simp only [maxLen]; omega) (by omega) (Nat.zero_le _) ?_)
  intro v' w1 hown' hgrow hown''
  have hfr : Fr (fun k => (Value.slice A l.length c).ownBlock = some k) w w1 := (Fr.alloc _ _ _).trans (Fr.of_grown hgrow)
  have hgne : (Value.slice A l.length c).ownBlock ≠ some g := own_blk_ne ho H.out.blk (by decide)
  have hb1 := hfr.blk H.out.blk hgne
  have hc1 : w1.cell? ⟨g, 0, none⟩ = some (.slice A l.length c) := hb1.cell 0
  have hf1 := hb1.frozen 0
  have hu := H.out.upd (l' := l ++ [(a, b, s)]) hfr (by rw [List.length_append, cellsQ_snoc]; exact hown') (by rcases hown'' with e | e; exact .inl e; exact .inr (.inr ⟨_, e, by simp⟩)) (by simp; omega)
  have HU := Lib.hid hu; clear hu
  obtain ⟨A', c', rfl, _, _⟩ := Reads.of_own hown'
  clear hown'' hown' hgrow ho
  go_wp2_with fail
  go_ret
  exact ⟨rfl, HU.out.1, HU.out.2⟩

set_option maxRecDepth 100000 in
set_option maxHeartbeats 1000000 in
theorem rsend_no {w : World} {g : Nat} {F : Nat → Prop} {l : List Pc} (h : RNet w g F l) (f t : Int) (s : ByteArray) (hno : ¬ isL f t ∨ 2000 < s.size ∨ 200 ≤ (l.filter (isP f t)).length) :
    Calls Try.prog 26 #[.pointer (some ⟨g, 0, none⟩), .int .i64 f, .int .i64 t, .string s] w fun e w' => e = .returned (.bool false) ∧ w = w' := by
  have cl := rlink_any f t w
  have cw := rwaits_any h f t
  clear h
  generalize (l.filter (isP f t)).length = n at *
  by_cases h1 : isL f t
  · rw [show decide (isL f t) = true by rw [decide_eq_true_eq]; exact h1] at cl
    by_cases h2 : 2000 < s.size
    · have d1 : decide ((2000 : Int) < (s.size : Int)) = true := by rw [decide_eq_true_eq]; omega
      go_enter Try.func26, Try.ntmps26
      go_wp2_with fail
      refine cl.mono ?_
      rintro e w1 ⟨rfl, rfl⟩
      go_wp2_with fail
      go_ret
      exact ⟨rfl, rfl⟩
    · have h3 : 200 ≤ n := by rcases hno with h | h | h; exact absurd h1 h; omega; exact h
      have d1 : decide ((2000 : Int) < (s.size : Int)) = false := by rw [decide_eq_false_iff_not]; omega
      have d2 : decide ((200 : Int) ≤ (n : Int)) = true := by rw [decide_eq_true_eq]; omega
      go_enter Try.func26, Try.ntmps26
      go_wp2_with fail
      refine cl.mono ?_
      rintro e w1 ⟨rfl, rfl⟩
      go_wp2_with fail
      refine cw.mono ?_
      rintro e w1 ⟨rfl, rfl⟩
      go_wp2_with fail
      go_ret
      exact ⟨rfl, rfl⟩
  · rw [show decide (isL f t) = false by rw [decide_eq_false_iff_not]; exact h1] at cl
    go_enter Try.func26, Try.ntmps26
    go_wp2_with fail
    refine cl.mono ?_
    rintro e w1 ⟨rfl, rfl⟩
    go_wp2_with fail
    go_ret
    exact ⟨rfl, rfl⟩
end Go.Proofs.Ytikblgnpabonjaa
