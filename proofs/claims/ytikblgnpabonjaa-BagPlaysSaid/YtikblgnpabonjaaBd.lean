import Derived.Test.YtikblgnpabonjaaBc
namespace Go.Proofs.Ytikblgnpabonjaa
open Go.RowKit
set_option linter.unusedVariables false
attribute [local go_sem] b_max2 b_min2 b_max b_min

/-- what a call of the document's network leaves: one more parcel at the most, and the relation to what the other has -/
def After (B w w' : World) (g : Nat) (F : Nat → Prop) (Ls Ls' : List (List ByteArray)) (g' : Nat) (F' : Nat → Prop) (n : Nat) : Prop :=
  ∃ l', LP B w' g F Ls g' (Fup F' w w') l' ∧ Rel Ls' l' ∧ l'.length ≤ n + 1 ∧ Fr F' w w'
section
variable {B w : World} {g g' : Nat} {F F' : Nat → Prop} {Ls : List (List ByteArray)} {l : List Pc}
theorem LP.stay (h : LP B w g F Ls g' F' l) : LP B w g F Ls g' (Fup F' w w) l := by rw [Fup_same]; exact h
theorem both_take (hr : Rel Ls l) (hl : l.length ≤ 1000) (f t x : Int) (x0 : -9223372036854775808 ≤ x) (x1 : x ≤ 9223372036854775807) :
    ∃ (s : ByteArray) (r : Bool) (Ls' : List (List ByteArray)),
      (∀ w F F' l2, LP B w g F Ls g' F' l2 → Calls Try.prog 18 #[.pointer (some ⟨g, 0, none⟩), .int .i64 f, .int .i64 t, .int .i64 x] w fun e w' => e = .returned (.tuple #[.string s, .bool r]) ∧ LP B w' g (Fup F w w') Ls' g' F' l2 ∧ Fr F w w') ∧
      (∀ w F F' l2, LP B w g F Ls g' F' l2 → Calls Try.prog 23 #[.pointer (some ⟨g, 0, none⟩), .int .i64 f, .int .i64 t, .int .i64 x] w fun e w' => e = .returned (.bool r) ∧ LP B w' g (Fup F w w') Ls' g' F' l2 ∧ Fr F w w') ∧
      (∀ w F F' Ls2, LP B w g F Ls2 g' F' l → Calls Try.prog 21 #[.pointer (some ⟨g', 0, none⟩), .int .i64 f, .int .i64 t, .int .i64 x] w fun e w' => e = .returned (.tuple #[.string s, .bool r]) ∧ After B w w' g F Ls2 Ls' g' F' l.length) := by
  rcases plan_take hr f t x with ⟨h1, h2, h3, h4⟩ | ⟨h1, h2, h3⟩
  · refine ⟨⟨#[]⟩, false, Ls, fun w F F' l2 h => ?_, fun w F F' l2 h => ?_, fun w F F' Ls2 h => ?_⟩
    · exact (take_ls h.ls f t x x0 x1 _ _ h4 h1 h3).mono fun e w' ⟨e1, e2, e3⟩ => ⟨e1, h.net e2 e3, e3⟩
    · exact (drop_ls h.ls f t x x0 x1 _ h1 h3).mono fun e w' ⟨e1, e2, e3⟩ => ⟨e1, h.net e2 e3, e3⟩
    · exact (rtake_none h.rn f t x h2).mono fun e w' ⟨e1, e2⟩ => by subst e2; exact ⟨e1, l, h.stay, hr, by omega, Fr.refl _ _⟩
  · refine ⟨tTake Ls f t x, true, fTake Ls f t x, fun w F F' l2 h => ?_, fun w F F' l2 h => ?_, fun w F F' Ls2 h => ?_⟩
    · exact (take_ls h.ls f t x x0 x1 _ _ rfl h1 rfl).mono fun e w' ⟨e1, e2, e3⟩ => ⟨e1, h.net e2 e3, e3⟩
    · exact (drop_ls h.ls f t x x0 x1 _ h1 rfl).mono fun e w' ⟨e1, e2, e3⟩ => ⟨e1, h.net e2 e3, e3⟩
    · exact (rtake_some h.rn f t x x0 x1 h2).mono fun e w' ⟨I, k1, k2, k3, k4⟩ => ⟨by rw [k2, (h3 I k1).2], _, h.ref k3 k4, (h3 I k1).1, by have := List.length_eraseIdx_le l I; omega, k4⟩
theorem both_double (hr : Rel Ls l) (hl : l.length ≤ 1000) (f t x : Int) (x0 : -9223372036854775808 ≤ x) (x1 : x ≤ 9223372036854775807) :
    ∃ (r : Bool) (Ls' : List (List ByteArray)),
      (∀ w F F' l2, LP B w g F Ls g' F' l2 → Calls Try.prog 14 #[.pointer (some ⟨g, 0, none⟩), .int .i64 f, .int .i64 t, .int .i64 x] w fun e w' => e = .returned (.bool r) ∧ LP B w' g (Fup F w w') Ls' g' F' l2 ∧ Fr F w w') ∧
      (∀ w F F' Ls2, LP B w g F Ls2 g' F' l → Calls Try.prog 24 #[.pointer (some ⟨g', 0, none⟩), .int .i64 f, .int .i64 t, .int .i64 x] w fun e w' => e = .returned (.bool r) ∧ After B w w' g F Ls2 Ls' g' F' l.length) := by
  rcases plan_double hr f t x with ⟨h1, h2, h3⟩ | ⟨h1, h2, h2', h3⟩
  · refine ⟨false, Ls, fun w F F' l2 h => ?_, fun w F F' Ls2 h => ?_⟩
    · exact (double_ls h.ls f t x x0 x1 _ h1 h3).mono fun e w' ⟨e1, e2, e3⟩ => ⟨e1, h.net e2 e3, e3⟩
    · rcases h2 with h2 | h2
      · exact (rdouble_none h.rn f t x h2).mono fun e w' ⟨e1, e2⟩ => by subst e2; exact ⟨e1, l, h.stay, hr, by omega, Fr.refl _ _⟩
      · exact (rdouble_full h.rn f t x x0 x1 h2).mono fun e w' ⟨e1, e2⟩ => by subst e2; exact ⟨e1, l, h.stay, hr, by omega, Fr.refl _ _⟩
  · refine ⟨true, fDouble Ls f t x, fun w F F' l2 h => ?_, fun w F F' Ls2 h => ?_⟩
    · exact (double_ls h.ls f t x x0 x1 _ h1 rfl).mono fun e w' ⟨e1, e2, e3⟩ => ⟨e1, h.net e2 e3, e3⟩
    · exact (rdouble_ok h.rn f t x x0 x1 h2 h2' (by omega)).mono fun e w' ⟨I, k1, k2, k3, k4⟩ => ⟨k2, _, h.ref k3 k4, h3 I k1, by simp, k4⟩
theorem both_send (hr : Rel Ls l) (hl : l.length ≤ 1000) (f t : Int) (s : ByteArray) (hs : s.size ≤ 9223372036854775807) :
    ∃ (r : Bool) (Ls' : List (List ByteArray)),
      (∀ w F F' l2, LP B w g F Ls g' F' l2 → Calls Try.prog 13 #[.pointer (some ⟨g, 0, none⟩), .int .i64 f, .int .i64 t, .string s] w fun e w' => e = .returned (.bool r) ∧ LP B w' g (Fup F w w') Ls' g' F' l2 ∧ Fr F w w') ∧
      (∀ w F F' Ls2, LP B w g F Ls2 g' F' l → Calls Try.prog 26 #[.pointer (some ⟨g', 0, none⟩), .int .i64 f, .int .i64 t, .string s] w fun e w' => e = .returned (.bool r) ∧ After B w w' g F Ls2 Ls' g' F' l.length) := by
  rcases plan_send hr f t s with ⟨h1, h2, h3⟩ | ⟨h1, a, b, rfl, rfl, ha, hb, hab, h2, h2', h3⟩
  · refine ⟨false, Ls, fun w F F' l2 h => ?_, fun w F F' Ls2 h => ?_⟩
    · exact (send_ls h.ls f t s hs _ h1 h3).mono fun e w' ⟨e1, e2, e3⟩ => ⟨e1, h.net e2 e3, e3⟩
    · exact (rsend_no h.rn f t s h2).mono fun e w' ⟨e1, e2⟩ => by subst e2; exact ⟨e1, l, h.stay, hr, by omega, Fr.refl _ _⟩
  · refine ⟨true, fSend Ls a b s, fun w F F' l2 h => ?_, fun w F F' Ls2 h => ?_⟩
    · exact (send_ls h.ls a b s hs _ h1 rfl).mono fun e w' ⟨e1, e2, e3⟩ => ⟨e1, h.net e2 e3, e3⟩
    · exact (rsend_ok h.rn a b s ha hb hab h2 h2' (by omega)).mono fun e w' ⟨k2, k3, k4⟩ => ⟨k2, _, h.ref k3 k4, h3, by simp, k4⟩
end
end Go.Proofs.Ytikblgnpabonjaa
