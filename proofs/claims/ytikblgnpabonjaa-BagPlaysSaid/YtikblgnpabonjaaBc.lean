import Derived.Test.YtikblgnpabonjaaBb
namespace Go.Proofs.Ytikblgnpabonjaa
open Go.RowKit
set_option linter.unusedVariables false
attribute [local go_sem] b_max2 b_min2 b_max b_min

/-! ### one call on each network -/
section
variable {B w : World} {g g' : Nat} {F F' : Nat → Prop} {Ls : List (List ByteArray)} {l : List Pc}
/-- what holds between two rounds, whatever the footprints -/
def Both (B w : World) (g g' : Nat) (N : Nat) : Prop := ∃ F Ls F' l, LP B w g F Ls g' F' l ∧ Rel Ls l ∧ l.length ≤ N
theorem void_ls_any (h : LP B w g F Ls g' F' l) (hr : Rel Ls l) (x : Int) :
    ∃ (c : Nat) (Ls' : List (List ByteArray)) (l' : List Pc), c ≤ 20000 ∧ l'.length ≤ l.length ∧ Rel Ls' l' ∧
      (∀ w F' l2, LP B w g F Ls g' F' l2 → Calls Try.prog 19 #[.pointer (some ⟨g, 0, none⟩), .int .i64 x] w fun e w' => e = .returned (.int .i64 (c : Nat)) ∧ LP B w' g F Ls' g' F' l2 ∧ Fr F w w') ∧
      (∀ w F Ls, LP B w g F Ls g' F' l → Calls Try.prog 25 #[.pointer (some ⟨g', 0, none⟩), .int .i64 x] w fun e w' => e = .returned (.int .i64 (c : Nat)) ∧ LP B w' g F Ls g' (Fup F' w w') l' ∧ Fr F' w w') := by
  by_cases hx : 0 ≤ x ∧ x < 8
  · obtain ⟨n, rfl⟩ := Int.eq_ofNat_of_zero_le hx.1
    obtain ⟨k1, k2⟩ := hr.void (n := n) (by omega)
    have hle := List.length_filter_le (fun p : Pc => decide (((p.1 : Nat) : Int) ≠ (n : Int)) && decide (((p.2.1 : Nat) : Int) ≠ (n : Int))) l
    have hcap := h.rn.cap
    refine ⟨(voidTo Ls n 8).2, (voidTo Ls n 8).1, _, by omega, hle, k1, fun w F' l2 h => ?_, fun w F Ls h => ?_⟩
    · exact (void_ls h.ls n (by omega) _ rfl rfl).mono fun e w' ⟨e1, e2, e3⟩ => ⟨e1, h.net_same e2 e3, e3⟩
    · exact (rvoid_any h.rn n).mono fun e w' ⟨e1, e2, e3⟩ => ⟨by rw [e1, k2], h.ref e2 e3, e3⟩
  · have hall : l.filter (fun p : Pc => decide (((p.1 : Nat) : Int) ≠ x) && decide (((p.2.1 : Nat) : Int) ≠ x)) = l := by
      rw [List.filter_eq_self]
      intro p hp
      have := hr.ok p hp
      rw [Bool.and_eq_true, decide_eq_true_eq, decide_eq_true_eq]
      omega
    refine ⟨0, Ls, l, by omega, Nat.le_refl _, hr, fun w F' l2 h => ?_, fun w F Ls h => ?_⟩
    · exact (void_out x (by omega)).mono fun e w' ⟨e1, e2⟩ => ⟨e1, h.low e2, Fr.of_below e2 _⟩
    · exact (rvoid_any h.rn x).mono fun e w' ⟨e1, e2, e3⟩ => by rw [hall] at e1 e2; exact ⟨by rw [e1, Nat.sub_self], h.ref e2 e3, e3⟩
end
end Go.Proofs.Ytikblgnpabonjaa
