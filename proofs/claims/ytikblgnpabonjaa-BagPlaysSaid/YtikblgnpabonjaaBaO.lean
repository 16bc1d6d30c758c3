import Derived.Test.YtikblgnpabonjaaBaN
namespace Go.Proofs.Ytikblgnpabonjaa
open Go.RowKit
set_option linter.unusedVariables false
attribute [local go_sem] b_max2 b_min2 b_max b_min

theorem i64_and3 (n : Int) : bits .and .i64 n 3 = ((n % 4).toNat : Int) := by
  have h127 : (BitVec.ofInt 64 3).toNat = 2 ^ 2 - 1 := by decide
  have key : (BitVec.ofInt 64 n &&& BitVec.ofInt 64 3).toNat = (n % ((2 ^ 64 : Nat) : Int)).toNat % 2 ^ 2 := by
    rw [BitVec.toNat_and, BitVec.toNat_ofInt, h127, Nat.and_two_pow_sub_one_eq_mod]
  show IntKind.i64.wrap ((BitVec.ofInt 64 n &&& BitVec.ofInt 64 3).toNat : Nat) = _
  rw [key, IntKind.wrap_i64]
  omega
theorem i64_and7 (n : Int) : bits .and .i64 n 7 = ((n % 8).toNat : Int) := by
  have h127 : (BitVec.ofInt 64 7).toNat = 2 ^ 3 - 1 := by decide
  have key : (BitVec.ofInt 64 n &&& BitVec.ofInt 64 7).toNat = (n % ((2 ^ 64 : Nat) : Int)).toNat % 2 ^ 3 := by
    rw [BitVec.toNat_and, BitVec.toNat_ofInt, h127, Nat.and_two_pow_sub_one_eq_mod]
  show IntKind.i64.wrap ((BitVec.ofInt 64 n &&& BitVec.ofInt 64 7).toNat : Nat) = _
  rw [key, IntKind.wrap_i64]
  omega

set_option maxRecDepth 100000 in
set_option maxHeartbeats 400000 in
theorem short_one (s : ByteArray) (n : Nat) (hn : n ≤ 1000) : ∃ s' : ByteArray, s'.size ≤ n ∧ ∀ w, Calls Try.prog 12 #[.string s, .int .i64 n] w fun e w' => e = .returned (.string s') ∧ w = w' := by
  by_cases hlt : n < s.size
  · refine ⟨s.extract 0 n, by simp; omega, fun w => ?_⟩
    go_enter Try.func12, Try.ntmps12
    go_wp2_with fail
    go_ret
    exact ⟨rfl, rfl⟩
  · refine ⟨s, by omega, fun w => ?_⟩
    go_enter Try.func12, Try.ntmps12
    go_wp2_with fail
    go_ret
    exact ⟨rfl, rfl⟩

theorem pcs_at {w : World} {B : Nat} {A : Option Addr} {l : List Pc} (h : Reads w B 3 A l.length (cellsQ l)) {i : Nat} (hi : i < l.length) :
    ∃ ad, A = some ad ∧ ad.block < B ∧ w.cell? (ad.add (i * 3)) = some (.int .i64 ((l[i]).1 : Nat)) ∧ w.cell? ⟨(ad.add (i * 3)).block, (ad.add (i * 3)).off + 1, none⟩ = some (.int .i64 ((l[i]).2.1 : Nat)) ∧ w.cell? ⟨(ad.add (i * 3)).block, (ad.add (i * 3)).off + 2, none⟩ = some (.string (l[i]).2.2) := by
  obtain ⟨h0, h1, h2⟩ := cellsQ_get l i hi
  obtain ⟨ad, e, hadb, hcs⟩ := h.2 (by omega)
  refine ⟨ad, e, hadb, hcs _ _ h0, ?_, ?_⟩
  · rw [← add_field _ _ 1 (by omega)]; exact hcs _ _ h1
  · rw [← add_field _ _ 2 (by omega)]; exact hcs _ _ h2

set_option maxRecDepth 100000 in
set_option maxHeartbeats 1000000 in
theorem same_true {w : World} {A1 A2 : Option Addr} {c1 c2 n : Nat} {l : List Pc} (hn : l.length = n) (h1 : Reads w w.heap.size 3 A1 l.length (cellsQ l)) (h2 : Reads w w.heap.size 3 A2 l.length (cellsQ l)) (hle : l.length ≤ 100000) :
    Calls Try.prog 20 #[.slice A1 n c1, .slice A2 n c2] w fun e w' => e = .returned (.bool true) ∧ Below w.heap.size w w' := by
  subst hn
  go_enter Try.func20, Try.ntmps20
  go_wp2_with fail
  go_loopw [5] (fun p wr => ∃ i : Nat, p = .int .i64 i ∧ i ≤ l.length ∧ Below w.heap.size w wr) (fun p _ => l.length - (intOf p).toNat)
  case atStart => exact ⟨0, rfl, by omega, Below.refl _ _⟩
  case round =>
    obtain ⟨i, rfl, hi, hb⟩ := hrel
    by_cases hlt : i < l.length
    · obtain ⟨ad1, rfl, _, k0, k1, k2⟩ := pcs_at (h1.below hb) hlt
      obtain ⟨ad2, rfl, _, q0, q1, q2⟩ := pcs_at (h2.below hb) hlt
      generalize l[i] = p at *
      clear h1 h2
      go_wp2_with fail
      go_quiet (fail)
      go_wp2_with fail
      go_roundw
      case rel => exact ⟨i + 1, vint (by omega), by omega, bdrewN hb _⟩
      case measure => simp [intOf]; omega
    · go_wp2_with fail
      go_ret
      exact ⟨rfl, hb⟩

/-! ### what goes with a node, in plain lists -/
theorem sum_up (g g' : Nat → Nat) (j : Nat) : ∀ k, j < k → (∀ o, o < k → o ≠ j → g' o = g o) → g' j = g j + 1 → ((List.range k).map g').sum = ((List.range k).map g).sum + 1 := by
  intro k
  induction k with
  | zero => intro h; omega
  | succ k ih =>
    intro hj hs hu
    rw [List.range_succ, List.map_append, List.map_append, List.sum_append, List.sum_append]
    simp only [List.map_cons, List.map_nil, List.sum_cons, List.sum_nil]
    by_cases hjk : j = k
    · subst hjk
      have : (List.range j).map g' = (List.range j).map g := List.map_congr_left fun o ho => hs o (by have := List.mem_range.1 ho; omega) (by have := List.mem_range.1 ho; omega)
      rw [this, hu]; omega
    · rw [ih (by omega) (fun o ho hne => hs o (by omega) hne) hu, hs k (by omega) (fun e => hjk e.symm)]; omega
theorem voidTo_send {Ls : List (List ByteArray)} (h64 : Ls.length = 64) {n f t : Nat} (hn : n < 8) (hf : f < 8) (ht : t < 8) (hne : f ≠ t) (s : ByteArray) :
    (voidTo (Ls.set (f * 8 + t) (lk Ls f t ++ [s])) n 8).2 = (voidTo Ls n 8).2 + if f = n ∨ t = n then 1 else 0 := by
  rw [voidTo_sum (by simpa using h64) hn 8 (by omega), voidTo_sum h64 hn 8 (by omega)]
  have hl : ∀ a b, a < 8 → b < 8 → lk (Ls.set (f * 8 + t) (lk Ls f t ++ [s])) a b = if f = a ∧ t = b then lk Ls f t ++ [s] else lk Ls a b := fun a b ha hb => lk_set h64 hf ht ha hb
  by_cases h1 : f = n
  · subst h1
    rw [if_pos (.inl rfl)]
    refine sum_up _ _ t 8 ht (fun o ho hot => ?_) ?_
    · by_cases hfo : f = o
      · simp only [if_pos hfo]
      · simp only [if_neg hfo]
        rw [hl f o hn ho, hl o f ho hn, if_neg (by omega), if_neg (by omega)]
    · simp only [if_neg hne]
      rw [hl f t hn ht, hl t f ht hn, if_pos ⟨rfl, rfl⟩, if_neg (by omega)]
      simp; omega
  · by_cases h2 : t = n
    · subst h2
      rw [if_pos (.inr rfl)]
      refine sum_up _ _ f 8 hf (fun o ho hot => ?_) ?_
      · by_cases hfo : t = o
        · simp only [if_pos hfo]
        · simp only [if_neg hfo]
          rw [hl t o hn ho, hl o t ho hn, if_neg (by omega), if_neg (by omega)]
      · simp only [if_neg (Ne.symm hne)]
        rw [hl t f hn hf, hl f t hf hn, if_neg (by omega), if_pos ⟨rfl, rfl⟩]
        simp; omega
    · rw [if_neg (by omega), Nat.add_zero]
      congr 1
      apply List.map_congr_left
      intro o ho
      have ho : o < 8 := List.mem_range.1 ho
      by_cases hfo : n = o
      · simp only [if_pos hfo]
      · simp only [if_neg hfo]
        rw [hl n o hn ho, hl o n ho hn, if_neg (by omega), if_neg (by omega)]
theorem lk_zero (a b : Nat) : lk (List.replicate 64 []) a b = [] := by
  unfold lk
  rw [List.getD_eq_getElem?_getD, List.getElem?_replicate]
  split <;> rfl
theorem sum_zero (g : Nat → Nat) : ∀ k, (∀ o, o < k → g o = 0) → ((List.range k).map g).sum = 0 := by
  intro k
  induction k with
  | zero => intro _; rfl
  | succ k ih =>
    intro h
    rw [List.range_succ, List.map_append, List.sum_append, ih (fun o ho => h o (by omega))]
    simp [h k (by omega)]
theorem voidTo_zero {n : Nat} (hn : n < 8) : (voidTo (List.replicate 64 []) n 8).2 = 0 := by
  rw [voidTo_sum (by simp) hn 8 (by omega)]
  refine sum_zero _ 8 fun o _ => ?_
  simp only [lk_zero]; split <;> rfl
theorem voidTo_again {Ls : List (List ByteArray)} (h64 : Ls.length = 64) {n : Nat} (hn : n < 8) : (voidTo (voidTo Ls n 8).1 n 8).2 = 0 := by
  rw [voidTo_sum (by rw [voidTo_len]; exact h64) hn 8 (by omega)]
  refine sum_zero _ 8 fun o ho => ?_
  by_cases hno : n = o
  · rw [if_pos hno]
  · rw [if_neg hno, voidTo_lk h64 hn 8 (by omega) n o hn ho, voidTo_lk h64 hn 8 (by omega) o n ho hn, if_pos (by omega), if_pos (by omega)]; rfl
def keepP (n : Nat) (p : Pc) : Bool := decide (p.1 ≠ n) && decide (p.2.1 ≠ n)
theorem filter_flat {β γ : Type} (f : β → List γ) (q : γ → Bool) (l : List β) : (l.flatMap f).filter q = l.flatMap fun x => (f x).filter q := by
  induction l with
  | nil => rfl
  | cons x l ih => rw [List.flatMap_cons, List.filter_append, ih, List.flatMap_cons]
theorem fAll_void {Ls : List (List ByteArray)} (h64 : Ls.length = 64) {n : Nat} (hn : n < 8) : fAll (voidTo Ls n 8).1 = (fAll Ls).filter (keepP n) := by
  rw [fAll_pairs, fAll_pairs, filter_flat]
  refine flatMap_same _ _ _ fun x hx => ?_
  obtain ⟨hx1, hx2, hx3⟩ := pairs_ok x hx
  unfold rowOf
  rw [voidTo_lk h64 hn 8 (by omega) x.1 x.2 hx1 hx2]
  by_cases hc : x.1 = n ∨ x.2 = n
  · rw [if_pos (by omega)]
    symm
    rw [List.map_nil, List.filter_eq_nil_iff]
    intro p hp
    obtain ⟨s, _, rfl⟩ := List.mem_map.1 hp
    simp [keepP]; omega
  · rw [if_neg (by omega)]
    symm
    rw [List.filter_eq_self]
    intro p hp
    obtain ⟨s, _, rfl⟩ := List.mem_map.1 hp
    simp [keepP]; omega
end Go.Proofs.Ytikblgnpabonjaa
