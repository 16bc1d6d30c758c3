import Derived.Test.YtglglbbjacgbdaaDoorTrA
namespace Go.Proofs.YtglglbbjacgbdaaDoor
open Go.RowKit
set_option linter.unusedVariables false
attribute [local go_sem] b_max2 b_min2 b_max b_min

/-- by rising names -/
def SortedC (l : List Ch) : Prop := l.Pairwise fun a b => ltB a.1 b.1 = true
def plc (l : List Ch) (s : ByteArray) : Nat := l.countP fun c => ltB c.1 s
def hasN (l : List Ch) (s : ByteArray) : Bool := l.any fun c => decide (c.1 = s)
abbrev nmAt (l : List Ch) (i : Nat) : ByteArray := (l.getD i (⟨#[]⟩, 0)).1
theorem getD_get {α : Type} (l : List α) (i : Nat) (d : α) (h : i < l.length) : l.getD i d = l[i] := by rw [List.getD_eq_getElem?_getD, List.getElem?_eq_getElem h]; rfl
theorem plc_boundary (s : ByteArray) : ∀ (l : List Ch) (i : Nat), i ≤ l.length → (∀ t, t < i → ltB (nmAt l t) s = true) → (∀ t, i ≤ t → t < l.length → ltB (nmAt l t) s = false) → plc l s = i
  | [], i, hi, _, _ => by simp at hi; subst hi; rfl
  | a :: r, 0, _, _, h2 => by
    unfold plc
    rw [List.countP_eq_zero]
    intro x hx
    obtain ⟨t, ht, rfl⟩ := List.getElem_of_mem hx
    have := h2 t (Nat.zero_le _) ht
    rw [nmAt, getD_get _ _ _ ht] at this
    simp [this]
  | a :: r, i + 1, hi, h1, h2 => by
    have ha : ltB a.1 s = true := h1 0 (Nat.succ_pos _)
    have hc : plc (a :: r) s = plc r s + 1 := by unfold plc; rw [List.countP_cons, if_pos ha]
    rw [hc]
    congr 1
    exact plc_boundary s r i (by simpa using hi) (fun t ht => h1 (t + 1) (by omega)) (fun t h3 h4 => h2 (t + 1) (by omega) (by simpa using h4))
theorem sorted_mono {l : List Ch} (h : SortedC l) (s : ByteArray) {a b : Nat} (hab : a ≤ b) (hb : b < l.length) (hlt : ltB (nmAt l b) s = true) : ltB (nmAt l a) s = true := by
  rcases Nat.lt_or_ge a b with h1 | h1
  · have := List.pairwise_iff_getElem.1 h a b (by omega) hb h1
    rw [nmAt, getD_get _ _ _ hb] at hlt
    rw [nmAt, getD_get _ _ _ (by omega)]
    exact ltB_trans this hlt
  · rw [show a = b by omega]; exact hlt
theorem hasN_at {l : List Ch} (h : SortedC l) (s : ByteArray) (i : Nat) (hi : i ≤ l.length) (h1 : ∀ t, t < i → ltB (nmAt l t) s = true) (h2 : ∀ t, i ≤ t → t < l.length → ltB (nmAt l t) s = false) :
    hasN l s = (decide (i < l.length) && decide (nmAt l i = s)) := by
  unfold hasN
  by_cases hlt : i < l.length
  · by_cases e : nmAt l i = s
    · rw [decide_eq_true hlt, decide_eq_true e]
      rw [nmAt, getD_get _ _ _ hlt] at e
      exact List.any_eq_true.2 ⟨_, List.getElem_mem hlt, decide_eq_true e⟩
    · rw [decide_eq_true hlt, decide_eq_false e, Bool.and_false, List.any_eq_false]
      intro x hx ex
      obtain ⟨t, ht, rfl⟩ := List.getElem_of_mem hx
      have ex' : nmAt l t = s := by rw [nmAt, getD_get _ _ _ ht]; exact of_decide_eq_true ex
      rcases Nat.lt_trichotomy t i with h3 | h3 | h3
      · have := h1 t h3; rw [ex', ltB_irrefl] at this; cases this
      · exact e (by rw [← h3]; exact ex')
      · have a1 := h2 i (Nat.le_refl _) hlt
        have a2 := List.pairwise_iff_getElem.1 h i t hlt ht h3
        rw [nmAt, getD_get _ _ _ hlt] at a1
        rw [nmAt, getD_get _ _ _ ht] at ex'
        rw [ex'] at a2
        rw [a2] at a1; cases a1
  · rw [decide_eq_false hlt, Bool.false_and, List.any_eq_false]
    intro x hx ex
    obtain ⟨t, ht, rfl⟩ := List.getElem_of_mem hx
    have := h1 t (by omega)
    rw [nmAt, getD_get _ _ _ ht, of_decide_eq_true ex, ltB_irrefl] at this
    cases this
set_option maxRecDepth 100000 in
set_option maxHeartbeats 1000000 in
theorem bsearch_any (A : Option Addr) (n c : Nat) (l : List Ch) (s : ByteArray) (w : World) (hn : l.length = n) (hl : n ≤ 100000) (hr : Reads w w.heap.size 2 A n (cellsC l)) (hs : SortedC l) :
    Calls Tryd.prog 39 #[.slice A n c, .string s, .func (.func 40) #[] #[]] w fun e w' => e = .returned (.tuple #[.int .i64 (plc l s), .bool (hasN l s)]) ∧ Below w.heap.size w w' := by
  have hmono : ∀ {a b : Nat}, a ≤ b → b < n → ltB (nmAt l b) s = true → ltB (nmAt l a) s = true := fun h1 h2 h3 => sorted_mono hs s h1 (by omega) h3
  have hend : ∀ i, i ≤ n → (∀ t, t < i → ltB (nmAt l t) s = true) → (∀ t, i ≤ t → t < n → ltB (nmAt l t) s = false) → plc l s = i ∧ hasN l s = (decide (i < n) && decide (nmAt l i = s)) := by
    intro i h1 h2 h3
    subst hn
    exact ⟨plc_boundary s l i h1 h2 h3, hasN_at hs s i h1 h2 h3⟩
  generalize plc l s = pl at *
  generalize hasN l s = hn2 at *
  have hmono' : ∀ (a b : Nat), a ≤ b → b < n → ltB (nmAt l b) s = true → ltB (nmAt l a) s = true := fun a b => hmono
  have HM := Lib.hid hmono'; have HE := Lib.hid hend; clear hmono hmono' hend hs
  go_enter Tryd.func39, Tryd.ntmps39
  go_wp2_with fail
  go_loopw [9, 10, 11] (fun p q _ wr => ∃ i j : Nat, p = .int .i64 i ∧ q = .int .i64 j ∧ i ≤ j ∧ j ≤ n ∧ Hid (∀ t, t < i → ltB (nmAt l t) s = true) ∧ Hid (∀ t, j ≤ t → t < n → ltB (nmAt l t) s = false) ∧ Below w.heap.size w wr) (fun p q _ _ => (intOf q).toNat - (intOf p).toNat)
  case atStart => exact ⟨0, n, rfl, rfl, by omega, by omega, Lib.hid (fun t h => by omega), Lib.hid (fun t h1 h2 => by omega), Below.refl _ _⟩
  case round =>
    obtain ⟨i, j, rfl, rfl, hij, hj, h1, h2, hb⟩ := hrel
    by_cases hlt : i < j
    · obtain ⟨h, hh⟩ : ∃ h, (i + j) / 2 = h := ⟨_, rfl⟩
      have hh1 : i ≤ h := by omega
      have hh2 : h < j := by omega
      have hsh : (((i : Int) + (j : Int)) / 2 ^ 1) = (h : Int) := by omega
      have hsh2 : (((i : Int) + (j : Int)) / 2) = (h : Int) := by omega
      obtain ⟨ad, rfl, _, q1, q2⟩ := kids_at (hr.below hb) hn (show h < n by omega)
      have hcm := plcmp_any (l.getD h (⟨#[]⟩, 0)) s wr
      have hcn := cmpB_neg (l.getD h (⟨#[]⟩, 0)).1 s
      have hnm : ltB (nmAt l h) s = ltB (l.getD h (⟨#[]⟩, 0)).1 s := rfl
      generalize l.getD h (⟨#[]⟩, 0) = x at *
      obtain ⟨xn, xb⟩ := x
      dsimp only at *
      generalize cmpB xn s = cv at *
      have hhn : (h : Int) < (n : Int) := by omega
      have HN := Lib.hid hnm; clear hnm
      cases hlx : ltB xn s with
      | true =>
        rw [hlx] at hcn
        have g1 : ∀ t, t < h + 1 → ltB (nmAt l t) s = true := fun t ht => HM.out t h (by omega) (by omega) (by rw [HN.out]; exact hlx)
        have G1 := Lib.hid g1; clear g1 hlx hsh hh
        go_wp2_with fail
        refine hcm.mono ?_
        rintro e w1 ⟨rfl, b1⟩
        clear hcm
        go_wp2_with fail
        go_roundw
        case rel => exact ⟨h + 1, j, vint (by omega), rfl, by omega, hj, G1, h2, hb.trans (b1.mono hb.size)⟩
        case measure => simp [intOf]; omega
      | false =>
        rw [hlx] at hcn
        have g1 : ∀ t, h ≤ t → t < n → ltB (nmAt l t) s = false := fun t h3 h4 => by
          rw [Bool.eq_false_iff]; intro h5
          have := HM.out h t h3 h4 h5
          rw [HN.out, hlx] at this; cases this
        have G1 := Lib.hid g1; clear g1 hlx hsh hh
        go_wp2_with fail
        refine hcm.mono ?_
        rintro e w1 ⟨rfl, b1⟩
        clear hcm
        go_wp2_with fail
        go_roundw
        case rel => exact ⟨i, h, rfl, rfl, hh1, by omega, h1, G1, hb.trans (b1.mono hb.size)⟩
        case measure => simp [intOf]; omega
    · obtain rfl : i = j := by omega
      obtain ⟨e1, e2⟩ := HE.out i hj h1.out h2.out
      subst e1
      by_cases hin : pl < n
      · obtain ⟨ad, rfl, _, q1, q2⟩ := kids_at (hr.below hb) hn hin
        have hcm := plcmp_any (l.getD pl (⟨#[]⟩, 0)) s wr
        have hcz := cmpB_zero (l.getD pl (⟨#[]⟩, 0)).1 s
        have hnm : nmAt l pl = (l.getD pl (⟨#[]⟩, 0)).1 := rfl
        rw [hnm, decide_eq_true hin, Bool.true_and] at e2
        clear hnm
        generalize l.getD pl (⟨#[]⟩, 0) = x at *
        obtain ⟨xn, xb⟩ := x
        dsimp only at *
        rw [← e2] at hcz
        have E2 := Lib.hid e2; clear e2
        generalize cmpB xn s = cv at *
        go_wp2_with fail
        refine hcm.mono ?_
        rintro e w1 ⟨rfl, b1⟩
        clear hcm
        go_wp2_with fail
        go_ret2
        exact ⟨rfl, hb.trans (b1.mono hb.size)⟩
      · have hf : hn2 = false := by rw [e2, decide_eq_false hin, Bool.false_and]
        have hnn : pl = n := by omega
        have HF := Lib.hid hf; clear e2 hf
        go_wp2_with fail
        go_ret2
        exact ⟨by rw [HF.out]; rfl, hb⟩
end Go.Proofs.YtglglbbjacgbdaaDoor
