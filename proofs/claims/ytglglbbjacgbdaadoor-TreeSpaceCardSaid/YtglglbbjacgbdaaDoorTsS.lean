import Derived.Test.YtglglbbjacgbdaaDoorTsN
import Derived.Test.YtglglbbjacgbdaaDoorTsR
namespace Go.Proofs.YtglglbbjacgbdaaDoor
open Go.RowKit
set_option linter.unusedVariables false
set_option linter.unusedSimpArgs false

/-! ### unlink on a tree of numbered things -/
theorem sum_le {α : Type} (f : α → Nat) (m : Nat) : ∀ (l : List α), (∀ x ∈ l, f x ≤ m) → (l.map f).sum ≤ m * l.length
  | [], _ => by simp
  | a :: l, h => by
    have h1 := h a (by simp)
    have h2 := sum_le f m l (fun x hx => h x (by simp [hx]))
    rw [List.map_cons, List.sum_cons, List.length_cons, Nat.mul_add]
    omega
theorem names_le {A : TS} {n : Nat} (hi : Inv A n) (b : Nat) : namesOf A n b ≤ 2000 * (n + 4) := by
  have h := sum_le (fun id => cntL (listAt A id) b) 2000 (idsOf n) (fun id _ => by
    refine Nat.le_trans List.countP_le_length ?_
    unfold listAt
    cases hx : A.nd id with
    | none => simp
    | some r => exact (hi.ok.okn _ _ hx).len)
  have hl : (idsOf n).length = n + 4 := by simp [idsOf]
  rw [hl] at h
  exact h
section
variable {w : World} {base g n : Nat} {A A' : TS} {R : List Nat}
theorem unlink_TA (h : TA w base g A R) (hR : ∀ b ∈ R, b < w.heap.size) (hb : base ≤ w.heap.size) (hi : Inv A n) (hl : InvL A n) (hn : n ≤ 100000) (c : CallV) (mx : Int) (hmx : w.cell? ⟨0, 0, none⟩ = some (.int .i64 mx)) (l1 l2 : List ByteArray) (hrd : Reads0 c mx l1 l2)
    (hne : l1 ≠ []) (hln : l1.length ≤ 100000) (hsz1 : ∀ s ∈ l1, s.size ≤ 1000000) (hop : c.op = 4) (er : Int) (he : unlinkT A 0 l1 = (A', er)) :
    Calls Tryd.prog 7 #[.pointer (some ⟨g, 0, none⟩), callV c] w fun e w' => ∃ A2 m k, e = .returned (repV (failR er) (.slice A2 m k)) ∧ TA w' base g A' R ∧ Fr (fun k => base ≤ k ∧ k ∉ R) w w' := by
  obtain ⟨S, loc, vs, h1, h2, h3, h4, h5⟩ := h.ex
  subst h2
  have ho := h1.okT hi.ok
  have hkd := h1.kdT hi.kd
  have hw2 := walkT_rn h1 hi.ok l1 none (fun b e => by cases e)
  rw [Option.map_none] at hw2
  have hl2 := lastT_rn h1 hi.ok l1
  have hdo : Does 13 (loc 0) S vs c l1 l2 (fun S' rp => S' = (unlinkT S (loc 0) l1).1 ∧ rp = failR (unlinkT S (loc 0) l1).2) w.heap.size := by
    intro W vf vt hB hT hS hv1 hv2
    obtain ⟨At_, nt, ct, hvt, _⟩ := hv2
    have fin : Calls Tryd.prog 13 #[.pointer (some ⟨loc 0, 0, none⟩), planV c vf vt] W fun e w' => ∃ vs', e = .returned (failV (unlinkT S (loc 0) l1).2) ∧ Went W w' (loc 0) S vs (unlinkT S (loc 0) l1).1 vs' := by
      by_cases hw : (walkT A 0 none l1).2 = 0
      · obtain ⟨b, r, hbw, hr⟩ := walk_b hi hne hw
        have hS1 := h1.fwd _ _ _ hr
        have hwS : (walkT S (loc 0) none l1).2 = 0 := by rw [hw2]; exact hw
        have hbS : (walkT S (loc 0) none l1).1 = some (loc b) := by rw [hw2, hbw]; rfl
        by_cases hl0 : r.list = []
        · obtain ⟨id, r2, hid, h5', hr2, _, hk, _⟩ := last_b hi hne hbw hw
          have hlk := hl.lc _ _ hr
          have hnm := names_le hi b
          exact unlink_done hT hS ho hkd c vf vt l1 hln hne hsz1 hv1 ⟨At_, nt, ct, hvt⟩ hwS (loc b) (rnR loc r) hbS hS1 (by show rnL loc r.list = []; rw [hl0]; rfl) (rnI loc id) (rnR loc r2) (by rw [hl2, hid]; rfl) (by rw [hl2]; exact h5') (h1.fwd id.1 id.2 r2 hr2) (by rw [hl2, show (rnR loc r2).list = rnL loc r2.list from rfl, rnL_hasN]; exact kid_hasN hk) (rnI_ne h1 hr2 hr (kid_ne hi hr2 hk)) (by show r.links ≤ 1000000000; omega)
        · exact unlink_full hT hS ho hkd c vf vt l1 hln hne hsz1 hv1 ⟨At_, nt, ct, hvt⟩ hwS (loc b) (rnR loc r) hbS hS1 (by show rnL loc r.list ≠ []; simp [rnL, hl0])
      · exact unlink_err hT hS ho hkd c vf vt l1 hln hne hsz1 hv1 ⟨At_, nt, ct, hvt⟩ (by rw [hw2]; exact hw)
    refine fin.mono ?_
    rintro e w' ⟨vs', rfl, hW⟩
    exact ⟨_, vs', _, none, 0, 0, rfl, hW, rfl, rfl⟩
  refine (do_unlink h3 h4 c mx hmx l1 l2 _ hrd hdo (by rw [hop]; rfl) (by rw [hop]; rfl) (by rw [hop]; rfl) (by rw [hop]; rfl) (by rw [hop]; rfl) (by rw [hop]; rfl)).mono ?_
  rintro e w' ⟨S', vs', rp, A2, m, k, rfl, hW, rfl, rfl⟩
  obtain ⟨k1, k3⟩ := unlink_rn h1 hi hne
  rw [he] at k1 k3
  rw [k3]
  exact ⟨A2, m, k, rfl, TA.step h3 h5 hR hb hW k1 rfl⟩
end
end Go.Proofs.YtglglbbjacgbdaaDoor
