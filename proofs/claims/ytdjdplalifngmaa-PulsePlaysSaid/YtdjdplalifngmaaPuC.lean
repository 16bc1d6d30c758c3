import Derived.Test.YtdjdplalifngmaaPuB
namespace Go.Proofs.Ytdjdplalifngmaa
open Go.RowKit
set_option linter.unusedVariables false
attribute [local go_sem] b_max2 b_min2 b_max b_min

def s0 : List (Bool × Int) := List.replicate 8 (false, 0)
theorem new_any (n : Int) (w : World) (h0 : -9223372036854775808 ≤ n) (h1 : n ≤ 9223372036854775807) :
    Calls Try.prog 9 #[.int .i64 n] w fun e w' => e = .returned (.pointer (some ⟨w.heap.size, 0, none⟩)) ∧ IsP w' w.heap.size (min (max n 1) 1000 - 1) s0 ∧ Below w.heap.size w w' := by
  go_enter Try.func9, Try.ntmps9
  go_wp2
  go_ret
  refine ⟨rfl, ⟨rfl, Blk.new _ _ _, by omega, by omega, ?_⟩, (Below.refl _ _).alloc (Nat.le_refl _) _⟩
  intro o ho
  obtain rfl : o = (false, 0) := by simpa [s0] using ho
  simp only []; omega

/-- a pulse of the call's own, all else as it was when B stood -/
structure St (B wr : World) (g : Nat) (m : Int) (s : List (Bool × Int)) : Prop where
  p : IsP wr g m s
  b : Below B.heap.size B wr
  l : B.heap.size ≤ g
section
variable {B w : World} {g : Nat} {m : Int} {s : List (Bool × Int)}
theorem St.step {w' : World} {s' : List (Bool × Int)} (h : St B w g m s) (hp : IsP w' g m s') (hg : w.grownBy w' (some g)) : St B w' g m s' :=
  ⟨hp, h.b.grown hg h.b.size (fun k hk => by cases hk; exact h.l), h.l⟩
theorem St.low {w' : World} (h : St B w g m s) (hb : Below w.heap.size w w') : St B w' g m s :=
  ⟨h.p.below hb h.p.blk.lt, h.b.trans (hb.mono h.b.size), h.l⟩
theorem St.drewN (h : St B w g m s) (n : Nat) : St B (w.drewN n) g m s := ⟨h.p.drewN n, bdrewN h.b n, h.l⟩
theorem heard_st (h : St B w g m s) (n : Int) (r : Bool) (s' : List (Bool × Int)) (hr : seenB s n = r) (hs : fHeard s n = s') :
    Calls Try.prog 13 #[.pointer (some ⟨g, 0, none⟩), .int .i64 n] w fun e w' => e = .returned (.bool r) ∧ St B w' g m s' ∧ w.grownBy w' (some g) := by
  subst hr; subst hs
  exact (heard_any h.p n).mono fun e w' ⟨h1, h2, h3⟩ => ⟨h1, h.step h2 h3, h3⟩
theorem forget_st (h : St B w g m s) (n : Int) (r : Bool) (s' : List (Bool × Int)) (hr : seenB s n = r) (hs : fForget s n = s') :
    Calls Try.prog 15 #[.pointer (some ⟨g, 0, none⟩), .int .i64 n] w fun e w' => e = .returned (.bool r) ∧ St B w' g m s' ∧ w.grownBy w' (some g) := by
  subst hr; subst hs
  exact (forget_any h.p n).mono fun e w' ⟨h1, h2, h3⟩ => ⟨h1, h.step h2 h3, h3⟩
theorem watch_st (h : St B w g m s) (n : Int) (r : Bool) (s' : List (Bool × Int)) (hr : (decide (0 ≤ n ∧ n < 8) && !seenB s n) = r) (hs : fWatch s n = s') :
    Calls Try.prog 10 #[.pointer (some ⟨g, 0, none⟩), .int .i64 n] w fun e w' => e = .returned (.bool r) ∧ St B w' g m s' ∧ w.grownBy w' (some g) := by
  subst hr; subst hs
  exact (watch_any h.p n).mono fun e w' ⟨h1, h2, h3⟩ => ⟨h1, h.step h2 h3, h3⟩
theorem quiet_st (h : St B w g m s) (n r : Int) (hr : fQuiet s n = r) :
    Calls Try.prog 14 #[.pointer (some ⟨g, 0, none⟩), .int .i64 n] w fun e w' => e = .returned (.int .i64 r) ∧ w = w' := by
  subst hr
  exact quiet_any h.p n
theorem tick_st (h : St B w g m s) (s' : List (Bool × Int)) (hs : fTick m s = s') :
    Calls Try.prog 11 #[.pointer (some ⟨g, 0, none⟩)] w fun e w' => e = .returned (.tuple #[]) ∧ St B w' g m s' := by
  subst hs
  exact (tick_any h.p).mono fun e w' ⟨h1, h2, h3⟩ => ⟨h1, h.step h2 h3⟩
theorem late_st (h : St B w g m s) (l : List Nat) (n : Nat) (hl : fLate m s = l) (hn : l.length = n) :
    Calls Try.prog 12 #[.pointer (some ⟨g, 0, none⟩)] w fun e w' => ∃ A c, e = .returned (.slice A n c) ∧ w'.ownsRow w.heap.size 3 1 (.slice A n c) n (cellsI l) ∧ St B w' g m s ∧ Below w.heap.size w w' := by
  subst hl; subst hn
  refine (late_any h.p).mono fun e w' ⟨v, h1, h2, h3⟩ => ?_
  obtain ⟨A, c, rfl, _, hr⟩ := Reads.of_own h2
  exact ⟨A, c, h1, h2, h.low h3, h3⟩
theorem watched_st (h : St B w g m s) (l : List Nat) (n : Nat) (hl : fWatched s = l) (hn : l.length = n) :
    Calls Try.prog 21 #[.pointer (some ⟨g, 0, none⟩)] w fun e w' => ∃ A c, e = .returned (.slice A n c) ∧ w'.ownsRow w.heap.size 3 1 (.slice A n c) n (cellsI l) ∧ St B w' g m s ∧ Below w.heap.size w w' := by
  subst hl; subst hn
  refine (watched_any h.p).mono fun e w' ⟨v, h1, h2, h3⟩ => ?_
  obtain ⟨A, c, rfl, _, hr⟩ := Reads.of_own h2
  exact ⟨A, c, h1, h2, h.low h3, h3⟩
end
/-- a row that was made behind block g stays where only g is written -/
theorem own_other {w w' w0 : World} {g : Nat} {e : TypeId} {size n : Nat} {v : Value} {xs : List Value} (h : w.ownsRow w0.heap.size e size v n xs) (hg : g < w0.heap.size) (hw : w.grownBy w' (some g)) : w'.ownsRow w0.heap.size e size v n xs := by
  refine h.kept hw ?_
  cases hv : v.ownBlock with
  | none => exact .inl rfl
  | some k =>
    refine .inr fun e => ?_
    have := (h.lt k hv).1
    injection e with e
    omega
theorem new_st (n m : Int) (w : World) (h0 : -9223372036854775808 ≤ n) (h1 : n ≤ 9223372036854775807) (hm : min (max n 1) 1000 - 1 = m) (B : World) (hb : Below B.heap.size B w) :
    Calls Try.prog 9 #[.int .i64 n] w fun e w' => ∃ g, e = .returned (.pointer (some ⟨g, 0, none⟩)) ∧ St B w' g m s0 := by
  subst hm
  exact (new_any n w h0 h1).mono fun e w' ⟨h1, h2, h3⟩ => ⟨_, h1, h2, hb.trans (h3.mono hb.size), hb.size⟩

set_option maxRecDepth 100000 in
set_option maxHeartbeats 400000 in
theorem awake_any (w : World) : Calls Try.prog 8 #[] w fun e w' => e = .returned (.bool true) ∧ Below w.heap.size w w' := by
  go_enter Try.func8, Try.ntmps8
  go_wp2_with fail
  refine (new_st 2 1 _ (by omega) (by omega) (by omega) w (Below.refl _ _)).mono ?_
  rintro e w1 ⟨g, rfl, h1⟩
  go_wp2_with fail
  refine (watch_st h1 1 true [(false, 0), (true, 0), (false, 0), (false, 0), (false, 0), (false, 0), (false, 0), (false, 0)] rfl rfl).mono ?_
  rintro e w2 ⟨rfl, h2, _⟩
  go_wp2_with fail
  refine (tick_st h2 [(false, 0), (true, 1), (false, 0), (false, 0), (false, 0), (false, 0), (false, 0), (false, 0)] rfl).mono ?_
  rintro e w3 ⟨rfl, h3⟩
  go_wp2_with fail
  refine (quiet_st h3 1 1 rfl).mono ?_
  rintro e w3 ⟨rfl, rfl⟩
  go_wp2_with fail
  refine (late_st h3 [] 0 rfl rfl).mono ?_
  rintro e w4 ⟨A, c, rfl, _, h4, _⟩
  go_wp2_with fail
  refine (tick_st h4 [(false, 0), (true, 2), (false, 0), (false, 0), (false, 0), (false, 0), (false, 0), (false, 0)] rfl).mono ?_
  rintro e w5 ⟨rfl, h5⟩
  go_wp2_with fail
  refine (late_st h5 [1] 1 rfl rfl).mono ?_
  rintro e w6 ⟨A6, c6, rfl, hr6, h6, _⟩
  go_wp2_with fail
  refine (heard_st h6 1 true [(false, 0), (true, 0), (false, 0), (false, 0), (false, 0), (false, 0), (false, 0), (false, 0)] rfl rfl).mono ?_
  rintro e w7 ⟨rfl, h7, hg7⟩
  have ho7 := own_other hr6 h5.p.blk.lt hg7
  obtain ⟨g6, p6, e6, _, _⟩ := ho7.form (by omega)
  obtain ⟨rfl, rfl⟩ : A6 = some ⟨g6, 0, none⟩ ∧ c6 = p6 := by simpa using e6
  clear e6
  have hc : w7.cell? ⟨g6, 0, none⟩ = some (.int .i64 1) := ho7.cellAt 0 (by omega)
  go_wp2_with fail
  refine (late_st h7 [] 0 rfl rfl).mono ?_
  rintro e w8 ⟨A8, c8, rfl, _, h8, _⟩
  go_wp2_with fail
  go_ret
  exact ⟨rfl, h8.b⟩
end Go.Proofs.Ytdjdplalifngmaa
