import Derived.Test.YtekgoliakgknjaaDiR
import Derived.Test.YtekgoliakgknjaaDiU
namespace Go.Proofs.Ytekgoliakgknjaa
open Go.RowKit
set_option linter.unusedVariables false
attribute [local go_sem] b_max2 b_min2 b_max b_min

section
variable {B w w' : World} {g : Nat} {d d' : DS} {F Z : Nat → Prop}
/-- whose fences are pending: a copy -/
theorem pending_any (h : IsD w g F d) (hpl : d.pend.length ≤ 100000) : Calls Try.prog 22 #[.pointer (some ⟨g, 0, none⟩)] w fun e w' => ∃ v, e = .returned v ∧ w'.ownsRow w.heap.size 3 1 v d.pend.length (d.pend.map (Value.int .i64)) ∧ Below w.heap.size w w' := by
  obtain ⟨vl, vp, kb, cb, cv, hB, _, _, _, _, _, _, _, h9, _⟩ := h.form
  have c3 : w.cell? ⟨g, 3, none⟩ = some vp := by simpa using hB.cell 3
  obtain ⟨i0, hi, hz0, hz1, hz2⟩ := info_parts (show (Try.prog.info? 3).map (fun i => (i.zero, i.size, i.bytes)) = some (some (.int .i64 0), 1, 8) by kernel_rfl)
  have key : Calls Try.prog 53 #[vp] w fun e w' => ∃ v, e = .returned v ∧ w'.ownsRow w.heap.size 3 1 v d.pend.length (d.pend.map (Value.int .i64)) ∧ Below w.heap.size w w' := by
    obtain ⟨h0, ⟨rfl, h1⟩ | ⟨b, o, cap, cur, rfl, h2, h3, h4, h5, h6⟩⟩ := h9
    · refine (slices_Clone_nil 0 0 w).mono ?_
      rintro e w' ⟨rfl, rfl⟩
      rw [List.eq_nil_of_length_eq_zero h1]
      exact ⟨_, rfl, World.ownsRow_nil _ _ _ _, Below.refl _ _⟩
    · refine (slices_Clone i0 _ 1 8 hi hz0 hz1 hz2 rfl (by omega) (fun w => by simp [go_sem]) b o d.pend.length cap (d.pend.map (Value.int .i64)) w (by simp) (by omega) (by omega) ?_ (by simp [Value.oneCell'])).mono ?_
      · intro j u hj
        rw [cell_of_row w b (o + j) cur 3 (0, 0) h2, ← Array.getElem?_toList, ← hj, ← h6, List.getElem?_take, if_pos, List.getElem?_drop]
        have := (List.getElem?_eq_some_iff.1 hj).1
        simpa using this
      · rintro e w' ⟨v, rfl, a1, _, a2⟩
        exact ⟨v, rfl, a1, a2⟩
  clear h9 h hB
  go_enter Try.func22, Try.ntmps22
  go_wp2_with (go_at_call 53; refine key.mono ?_; rintro e w' ⟨v, rfl, k1, k2⟩)
  go_ret
  exact ⟨_, rfl, k1, k2⟩
theorem fPow_ok : ∀ (ms zs : List Int) (d : DS), d.ok → (fPow ms zs d).ok
  | [], _, _, h => h
  | k :: ks, zs, d, h => fPow_ok ks _ _ (fSettle_ok h k _)
/-- picks beside a disk -/
structure PK (B w : World) (Z : Nat → Prop) (A : Option Addr) (n : Nat) (zs : List Int) : Prop where
  len : zs.length = n
  rd : ∃ B', Reads w B' 1 A n (zs.map (Value.int .i64))
  own : 0 < n → ∀ ad, A = some ad → (ad.block < B.heap.size ∨ Z ad.block) ∧ ad.block < w.heap.size
  b : ∀ z ∈ zs, -9223372036854775808 ≤ z ∧ z ≤ 9223372036854775807
theorem PK.picks {A : Option Addr} {n : Nat} {zs : List Int} (h : PK B w Z A n zs) (hF : ∀ k, F k → B.heap.size ≤ k ∧ ¬ Z k) : Picks w F A n zs :=
  ⟨h.len, h.rd, fun h0 ad e => ⟨fun hf => (h.own h0 ad e).1.elim (fun h => by have := (hF _ hf).1; omega) (hF _ hf).2, (h.own h0 ad e).2⟩, h.b⟩
theorem DZ.fence (h : DZ B w g d Z) (k t r : Int) (hl : d.pend.length ≤ 100000) (hr : fFence d k t = (d', r)) :
    Calls Try.prog 20 #[.pointer (some ⟨g, 0, none⟩), .int .i64 k, .int .i64 t] w fun e w' => e = .returned (.int .i64 r) ∧ DZ B w' g d' Z ∧ Keeps Z w w' := by
  obtain ⟨F, h1, h2, h3, h4, h5⟩ := h
  have hok : (fFence d k t).1.ok := by unfold fFence; split; exact h2; dsimp only; split; exact h2; exact h2
  exact (fence_any h1 k t hl).mono fun e w' ⟨e1, e2⟩ => by rw [hr] at e1 e2 hok; exact ⟨e1, e2.dz hok h3 h4 h5⟩
theorem DZ.takes (h : DZ B w g d Z) (A : Option Addr) (n c : Nat) (zs : List Int) (r : Int) (hp : PK B w Z A n zs) (hl : ∀ k, (d.caches k).length ≤ 100000) (hpl : d.pend.length ≤ 100000) (hr : fTakes d zs = (d', r)) :
    Calls Try.prog 24 #[.pointer (some ⟨g, 0, none⟩), .slice A n c] w fun e w' => e = .returned (.int .i64 r) ∧ DZ B w' g d' Z ∧ Keeps Z w w' := by
  obtain ⟨F, h1, h2, h3, h4, h5⟩ := h
  have hok : (fTakes d zs).1.ok := by
    unfold fTakes
    cases d.pend with
    | nil => exact h2
    | cons k l => exact DS.ok_settle (d := (d.setPend l).setKey k false) h2 k _
  exact (takes_any h1 h2 hl A n c zs (hp.picks h4) hpl).mono fun e w' ⟨e1, e2⟩ => by rw [hr] at e1 e2 hok; exact ⟨e1, e2.dz hok h3 h4 h5⟩
theorem DZ.drop (h : DZ B w g d Z) (k : Int) (A : Option Addr) (n c : Nat) (zs : List Int) (hp : PK B w Z A n zs) (hl : (d.caches k).length ≤ 100000) (hr : fSettle d k (pickF zs) = d') :
    Calls Try.prog 25 #[.pointer (some ⟨g, 0, none⟩), .int .i64 k, .slice A n c] w fun e w' => e = .returned (.tuple #[]) ∧ DZ B w' g d' Z ∧ Keeps Z w w' := by
  obtain ⟨F, h1, h2, h3, h4, h5⟩ := h
  exact (drop_any h1 h2 k hl A n c zs (hp.picks h4)).mono fun e w' ⟨e1, e2, e3⟩ => by rw [hr] at e2; exact ⟨e1, (Aft.of_same e2 e3).dz (by rw [← hr]; exact fSettle_ok h2 k _) h3 h4 h5⟩
theorem DZ.swap (h : DZ B w g d Z) (k s : Int) (old now : ByteArray) (r : Int) (hl : (d.caches k).length ≤ 100000) (hr : fSwap d k s old now = (d', r)) :
    Calls Try.prog 18 #[.pointer (some ⟨g, 0, none⟩), .int .i64 k, .int .i64 s, .string old, .string now] w fun e w' => e = .returned (.int .i64 r) ∧ DZ B w' g d' Z ∧ Keeps Z w w' := by
  obtain ⟨F, h1, h2, h3, h4, h5⟩ := h
  exact (swap_any h1 k s old now hl).mono fun e w' ⟨e1, e2, e3⟩ => by rw [hr] at e1 e2; exact ⟨e1, (Aft.of_same e2 e3).dz (by have := DS.ok_swap h2 k s old now; rw [hr] at this; exact this) h3 h4 h5⟩
theorem DZ.reg (h : DZ B w g d Z) (k r : Int) (hr : fReg d k = (d', r)) : Calls Try.prog 12 #[.pointer (some ⟨g, 0, none⟩), .int .i64 k] w fun e w' => e = .returned (.int .i64 r) ∧ DZ B w' g d' Z ∧ Keeps Z w w' := by
  obtain ⟨F, h1, h2, h3, h4, h5⟩ := h
  exact (register_any h1 k).mono fun e w' ⟨e1, e2⟩ => by rw [hr] at e1 e2; exact ⟨e1, e2.dz (by have := DS.ok_reg h2 k; rw [hr] at this; exact this) h3 h4 h5⟩
theorem DZ.power (h : DZ B w g d Z) (hl : ∀ k, (d.caches k).length ≤ 100000) (S : List Int) (hS : ∀ k, d.caches k ≠ [] → k ∈ S) (hb : ∀ k ∈ S, -9223372036854775808 ≤ k ∧ k ≤ 9223372036854775807) (hlS : S.length ≤ 1000)
    (A : Option Addr) (n c : Nat) (zs : List Int) (hp : PK B w Z A n zs) (hc : n ≤ c) (hn : n ≤ 100000) :
    Calls Try.prog 21 #[.pointer (some ⟨g, 0, none⟩), .slice A n c] w fun e w' => e = .returned (.tuple #[]) ∧ ∃ ms : List Int, ms.Pairwise (· < ·) ∧ (∀ k, k ∈ ms ↔ d.caches k ≠ []) ∧ DZ B w' g ((fPow ms zs d).setPend []) Z ∧ Keeps Z w w' := by
  obtain ⟨F, h1, h2, h3, h4, h5⟩ := h
  exact (power_any h1 h2 hl S hS hb hlS A n c zs (hp.picks h4) hc hn).mono fun e w' ⟨e1, ms, m1, m2, e2⟩ => ⟨e1, ms, m1, m2, e2.dz (fPow_ok ms zs d h2) h3 h4 h5⟩
theorem DZ.pending (h : DZ B w g d Z) (hpl : d.pend.length ≤ 100000) : Calls Try.prog 22 #[.pointer (some ⟨g, 0, none⟩)] w fun e w' => ∃ v, e = .returned v ∧ w'.ownsRow w.heap.size 3 1 v d.pend.length (d.pend.map (Value.int .i64)) ∧ DZ B w' g d Z ∧ Keeps Z w w' ∧ Below w.heap.size w w' := by
  have h' := h
  obtain ⟨F, h1, h2, h3, h4, h5⟩ := h
  exact (pending_any h1 hpl).mono fun e w' ⟨v, e1, e2, e3⟩ => ⟨v, e1, e2, (h'.low e3).1, (h'.low e3).2, e3⟩
theorem DZ.registered (h : DZ B w g d Z) (k : Int) (b : Bool) (hb : (d.keys k).getD false = b) : Calls Try.prog 23 #[.pointer (some ⟨g, 0, none⟩), .int .i64 k] w fun e w' => e = .returned (.bool b) ∧ w = w' := by
  obtain ⟨F, h1, _⟩ := h
  rw [← hb]; exact registered_any h1 k
end
end Go.Proofs.Ytekgoliakgknjaa
