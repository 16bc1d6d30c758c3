import Derived.Test.YtekgoliakgknjaaDiW
namespace Go.Proofs.Ytekgoliakgknjaa
open Go.RowKit
set_option linter.unusedVariables false
attribute [local go_sem] b_max2 b_min2 b_max b_min

/-- the first key is fenced for good -/
def QL (L : List ByteArray) : DS := ⟨L, fun j => if j = 1 then some false else K2 j, C0, []⟩
section
variable {L : List ByteArray} {C : List Put}
theorem ql_of (st : Nat → Bool) : fSettle (((PL L C [1]).setPend []).setKey 1 false) 1 st = QL (LP st C L) := by
  unfold fSettle PL HL DS.setCache DS.setLies DS.setKey DS.setPend QL
  congr 1
  funext j
  dsimp only
  by_cases h1 : j = 1
  · rw [if_pos h1]; rfl
  · rw [if_neg h1]
    by_cases h2 : j = 2
    · rw [if_pos h2]; rfl
    · rw [if_neg h2, if_neg h1]; rfl
theorem pl_takes (zs : List Int) : fTakes (PL L C [1]) zs = (QL (LP (pickF zs) C L), 1) := by
  show (fSettle (((PL L C [1]).setPend []).setKey 1 false) 1 (pickF zs), (1 : Int)) = _
  rw [ql_of]
theorem ql_may (hL : L.length = 4) {s : Nat} (hs : s < 4) : fMay (QL L) 1 s false = 14 := by
  unfold fMay
  rw [if_neg (by simp [QL, hL]; omega)]
  rfl
theorem ql_write (hL : L.length = 4) {s : Nat} (hs : s < 4) (b : Nat) : fWrite (QL L) 1 s (sec b) = (QL L, 14) := by
  unfold fWrite
  rw [oddB_sec, ql_may hL hs, if_neg (by omega)]
theorem ql_flush (hL : L.length = 4) : fFlush (QL L) 1 = (QL L, 14) := by
  unfold fFlush
  have e : fMay (QL L) 1 0 false = 14 := ql_may hL (s := 0) (by omega)
  rw [e, if_neg (by omega)]
theorem ql_fence (hL : L.length = 4) : fFence (QL L) 1 2 = (QL L, 14) := by
  unfold fFence
  have e : fMay (QL L) 1 0 false = 14 := ql_may hL (s := 0) (by omega)
  rw [if_neg (by omega), e, if_neg (by omega)]
theorem ql_swap (hL : L.length = 4) {s : Nat} (hs : s < 4) (old : ByteArray) (ho : oddB old = false) (b : Nat) : fSwap (QL L) 1 s old (sec b) = (QL L, 14) := by
  unfold fSwap
  rw [ho, oddB_sec, Bool.or_false, ql_may hL hs, if_pos (by omega)]
theorem ql_read (hL : L.length = 4) {s : Nat} (hs : s < 4) : fRead (QL L) 1 s = (⟨#[]⟩, 14) := by
  unfold fRead
  rw [ql_may hL hs, if_neg (by omega)]
theorem ql_settle (st : Nat → Bool) : fSettle (QL L) 1 st = QL L := by
  unfold fSettle QL DS.setCache DS.setLies
  congr 1
  funext j
  dsimp only
  split <;> rfl
theorem ql_power (ms zs : List Int) (m2 : ∀ k, k ∈ ms ↔ (QL L).caches k ≠ []) : (fPow ms zs (QL L)).setPend [] = QL L := by
  have : ms = [] := by
    cases ms with
    | nil => rfl
    | cons a l => exact absurd ((m2 a).1 (by simp)) (by simp [QL, C0])
  subst this
  rfl
theorem ql_peek (hL : L.length = 4) {s : Nat} (hs : s < 4) : fPeek (QL L) s = L.getD s ⟨#[]⟩ := by
  unfold fPeek
  rw [if_pos (by simp [QL, hL]; omega)]
  rfl
theorem ql_reg (hL : L.length = 4) : fReg (QL L) 1 = (QL L, 13) := by
  unfold fReg
  rw [if_neg (by simp [QL, hL])]
  exact if_pos rfl
end
theorem fillV_set (z : ByteArray) (i n : Nat) (h : i < n) : (fillV z i n).set i (.string z) = fillV z (i + 1) n := by
  unfold fillV
  rw [List.set_append_right _ _ (by simp), List.length_replicate, Nat.sub_self]
  obtain ⟨m, hm⟩ : ∃ m, n - i = m + 1 := ⟨n - i - 1, by omega⟩
  rw [hm, show n - (i + 1) = m by omega, List.replicate_succ, List.set_cons_zero, List.replicate_succ', List.append_assoc]
  rfl
/-- every sector is a whole one -/
def Whole (L : List ByteArray) : Prop := ∀ x ∈ L, oddB x = false
theorem Whole.set {L : List ByteArray} (h : Whole L) (s y : Nat) : Whole (L.set s (sec y)) := by
  intro x hx
  rcases List.mem_or_eq_of_mem_set hx with h1 | h1
  · exact h x h1
  · rw [h1]; exact oddB_sec y
theorem Whole.get {L : List ByteArray} (h : Whole L) {s : Nat} (hs : s < L.length) : oddB (L.getD s ⟨#[]⟩) = false := by
  rw [List.getD_eq_getElem?_getD, List.getElem?_eq_getElem hs]
  exact h _ (List.getElem_mem hs)
section
variable {B w w' : World} {g : Nat} {d d' : DS} {Z Z' : Nat → Prop}
/-- one block more of the law's own -/
theorem DZ.grow (h : DZ B w g d Z) (o : Obj) : DZ B (w.alloc o) g d (fun k => Z k ∨ k = w.heap.size) := by
  obtain ⟨F, h1, h2, h3, h4, h5⟩ := h
  exact ⟨F, h1.alloc o, h2, h3.alloc h3.size o, fun k hk => ⟨(h4 k hk).1, fun e => e.elim (h4 k hk).2 (fun e => by have := h1.fb k hk; omega)⟩, fun z hz => by simp; rcases hz with hz | hz; have := h5 z hz; omega; omega⟩
theorem DZ.less (h : DZ B w g d Z) (hZ : ∀ k, Z' k → Z k) : DZ B w g d Z' := by
  obtain ⟨F, h1, h2, h3, h4, h5⟩ := h
  exact ⟨F, h1, h2, h3, fun k hk => ⟨(h4 k hk).1, fun e => (h4 k hk).2 (hZ k e)⟩, fun z hz => h5 z (hZ z hz)⟩
/-- three picks that have just been written down -/
theorem PK.new (w : World) (hb : Below B.heap.size B w) : PK B (w.alloc (.cells #[.int .i64 1, .int .i64 1, .int .i64 1] 3)) (fun k => Z k ∨ k = w.heap.size) (some ⟨w.heap.size, 0, none⟩) 3 [1, 1, 1] :=
  ⟨rfl, ⟨_, Reads.new w #[.int .i64 1, .int .i64 1, .int .i64 1] 3 3 rfl rfl⟩, fun _ ad e => by
    obtain rfl := Option.some.inj e
    exact ⟨.inr (.inr rfl), by simp⟩, fun z hz => by simp at hz; omega⟩
end
end Go.Proofs.Ytekgoliakgknjaa
