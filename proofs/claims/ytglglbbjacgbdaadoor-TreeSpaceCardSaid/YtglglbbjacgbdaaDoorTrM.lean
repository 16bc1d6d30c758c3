import Derived.Test.YtglglbbjacgbdaaDoorTrL
namespace Go.Proofs.YtglglbbjacgbdaaDoor
open Go.RowKit
set_option linter.unusedVariables false
set_option linter.unusedSimpArgs false
attribute [local go_sem] b_max2 b_min2 b_max b_min

/-! ### is there room? -/
def fitsT (S : TS) (g D : Nat) (r : NR) (grows beside : Int) : Int :=
  if 6144 < sizeN r + grows then 11 else if freeT S g D < max (need (sizeN r + grows) - need (sizeN r)) 0 + beside then 15 else 0
section
variable {w : World} {g : Nat} {S : TS} {vs : Id → Value} {rk : Nat → Nat} {D : Nat}
set_option maxRecDepth 100000 in
set_option maxHeartbeats 2000000 in
theorem fits_any (h : IsT w g S vs) (ho : OkT S g) (hk : RkT S g rk D) {id : Id} {r : NR} (hr : S.nd id = some r) (gr be : Int) (hgr : -1000 ≤ gr ∧ gr ≤ 1000) (hbe : 0 ≤ be ∧ be ≤ 10) :
    Calls Tryd.prog 25 #[.pointer (some ⟨g, 0, none⟩), .pointer (some ⟨id.1, id.2, none⟩), .int .i64 gr, .int .i64 be] w fun e w' => e = .returned (.int .i64 (fitsT S g D r gr be)) ∧ Below w.heap.size w w' := by
  have hok := ho.okn _ r hr
  have hcs := size_any (h.node _ r hr) hok
  have hsz := sizeN_bd hok
  have hn1 := need_bd (sizeN r) (by omega)
  have hn2 := need_bd (sizeN r + gr) (by omega)
  have hcn1 := fun w' => need_any (sizeN r) w' (by omega) (by omega)
  have hcn2 := fun w' => need_any (sizeN r + gr) w' (by omega) (by omega)
  have hfr := fun {w' : World} (hT : IsT w' g S vs) => free_any hT ho hk
  unfold fitsT
  by_cases h1 : 6144 < sizeN r + gr
  · rw [if_pos h1]
    have d1 : decide (6144 < sizeN r + gr) = true := decide_eq_true h1
    generalize sizeN r = sz at *
    clear hcn1 hcn2 hfr h1
    go_enter Tryd.func25, Tryd.ntmps25
    go_wp2_with fail
    refine hcs.mono ?_
    rintro e w1 ⟨rfl, b1⟩
    clear hcs
    go_wp2_with fail
    go_ret
    exact ⟨rfl, b1⟩
  · rw [if_neg h1]
    have d1 : decide (6144 < sizeN r + gr) = false := decide_eq_false h1
    have hfr' : ∀ w', IsT w' g S vs → Calls Tryd.prog 9 #[.pointer (some ⟨g, 0, none⟩)] w' fun e w'' => e = .returned (.int .i64 (freeT S g D)) ∧ Below w'.heap.size w' w'' := fun w' hT => hfr hT
    generalize freeT S g D = fr at *
    generalize hN2 : need (sizeN r + gr) = n2 at *
    generalize hN1 : need (sizeN r) = n1 at *
    generalize sizeN r = sz at *
    have HFR := Lib.hid hfr'; have H := Lib.hid h
    clear hfr hfr' h h1 hN1 hN2
    by_cases h2 : fr < max (n2 - n1) 0 + be
    · rw [if_pos h2]
      have d2 : decide (fr < max (n2 - n1) 0 + be) = true := decide_eq_true h2
      clear h2
      go_enter Tryd.func25, Tryd.ntmps25
      go_wp2_with fail
      refine hcs.mono ?_
      rintro e w1 ⟨rfl, b1⟩
      clear hcs
      go_wp2_with fail
      refine (hcn2 w1).mono ?_
      rintro e w2 ⟨rfl, rfl⟩
      go_wp2_with fail
      refine (hcn1 w1).mono ?_
      rintro e w2 ⟨rfl, rfl⟩
      clear hcn1 hcn2
      go_wp2_with fail
      refine (HFR.out w1 (H.out.low b1)).mono ?_
      rintro e w3 ⟨rfl, b3⟩
      have hfin := b1.trans (b3.mono b1.size)
      have HF := Lib.hid hfin
      clear hfin b1 b3
      go_wp2_with fail
      go_ret
      exact ⟨rfl, HF.out⟩
    · rw [if_neg h2]
      have d2 : decide (fr < max (n2 - n1) 0 + be) = false := decide_eq_false h2
      clear h2
      go_enter Tryd.func25, Tryd.ntmps25
      go_wp2_with fail
      refine hcs.mono ?_
      rintro e w1 ⟨rfl, b1⟩
      clear hcs
      go_wp2_with fail
      refine (hcn2 w1).mono ?_
      rintro e w2 ⟨rfl, rfl⟩
      go_wp2_with fail
      refine (hcn1 w1).mono ?_
      rintro e w2 ⟨rfl, rfl⟩
      clear hcn1 hcn2
      go_wp2_with fail
      refine (HFR.out w1 (H.out.low b1)).mono ?_
      rintro e w3 ⟨rfl, b3⟩
      have hfin := b1.trans (b3.mono b1.size)
      have HF := Lib.hid hfin
      clear hfin b1 b3
      go_wp2_with fail
      go_ret
      exact ⟨rfl, HF.out⟩
end
end Go.Proofs.YtglglbbjacgbdaaDoor
