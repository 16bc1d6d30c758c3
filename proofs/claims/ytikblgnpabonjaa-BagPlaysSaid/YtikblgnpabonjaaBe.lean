import Derived.Test.YtikblgnpabonjaaBd
namespace Go.Proofs.Ytikblgnpabonjaa
open Go.RowKit
set_option linter.unusedVariables false
attribute [local go_sem] b_max2 b_min2 b_max b_min
section
variable {B w : World} {g g' : Nat} {F F' : Nat → Prop} {Ls : List (List ByteArray)} {l : List Pc}
theorem both_any (hr : Rel Ls l) (hl : l.length ≤ 1000) (x : Int) (x0 : -9223372036854775808 ≤ x) (x1 : x ≤ 9223372036854775807) :
    ∃ (a b : Nat) (s : ByteArray) (r : Bool) (Ls' : List (List ByteArray)),
      (∀ w F F', LP B w g F Ls g' F' l → Calls Try.prog 16 #[.pointer (some ⟨g, 0, none⟩), .int .i64 x] w fun e w' => e = .returned (.tuple #[.agg #[.int .i64 a, .int .i64 b, .string s], .bool r]) ∧ ∃ F2, LP B w' g F2 Ls' g' F' l ∧ Fr F w w') ∧
      (∀ w F F' Ls2, LP B w g F Ls2 g' F' l → Calls Try.prog 22 #[.pointer (some ⟨g', 0, none⟩), .int .i64 x] w fun e w' => e = .returned (.tuple #[.agg #[.int .i64 a, .int .i64 b, .string s], .bool r]) ∧ ∃ F2 l', LP B w' g F Ls2 g' F2 l' ∧ Rel Ls' l' ∧ l'.length ≤ l.length ∧ Fr F' w w') := by
  by_cases hpos : 0 < (fAll Ls).length
  · obtain ⟨a, b, q, s, pre, post, ha, hb, hab, e1, e2, e3, e4, e5, e6, e7⟩ := hr.any x hpos
    refine ⟨a, b, s, true, Ls.set (a * 8 + b) ((lk Ls a b).eraseIdx q), fun w F F' h => ?_, fun w F F' Ls2 h => ?_⟩
    · exact (any_some h.ls.net x x0 x1 a b q s pre post ha hb hab e1 e2 e3 e4 e5).mono fun e w' ⟨k1, k2, k3⟩ => ⟨k1, _, h.net (h.ls.step k2 k3) k3, k3⟩
    · exact (rany_some h.rn x x0 x1 (a, b, s) e6 hl).mono fun e w' ⟨I, k1, k2, k3, k4⟩ => ⟨k2, _, _, h.ref k3 k4, e7 I k1, by have := List.length_eraseIdx_le l I; omega, k4⟩
  · have h0 : fAll Ls = [] := List.eq_nil_of_length_eq_zero (by omega)
    refine ⟨0, 0, ⟨#[]⟩, false, Ls, fun w F F' h => ?_, fun w F F' Ls2 h => ?_⟩
    · exact (any_none h.ls.net x x0 x1 h0).mono fun e w' ⟨k1, k2⟩ => ⟨k1, _, h.low k2, Fr.of_below k2 _⟩
    · exact (rany_none h.rn x (by rw [hr.all]; exact h0)).mono fun e w' ⟨k1, k2⟩ => ⟨k1, _, l, h.low k2, hr, Nat.le_refl _, Fr.of_below k2 _⟩
end
end Go.Proofs.Ytikblgnpabonjaa
