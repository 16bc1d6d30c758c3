import Derived.Test.YtepmgcgpioljiaaInC
namespace Go.Proofs.Ytepmgcgpioljiaa
open Go.RowKit
attribute [local go_sem] b_max2 b_min2 b_max b_min

theorem flat_get {α : Type} (f : α → List Value) (n : Nat) (hf : ∀ a, (f a).length = n) : ∀ (l : List α) (k j : Nat) (hk : k < l.length), j < n → (l.flatMap f)[k * n + j]? = (f (l[k]'hk))[j]? := by
  intro l
  induction l with
  | nil => intro k j hk; simp at hk
  | cons a l ih =>
    intro k j hk hj
    cases k with
    | zero => simp only [List.flatMap_cons, Nat.zero_mul, Nat.zero_add, List.getElem_cons_zero]; rw [List.getElem?_append_left (by rw [hf]; exact hj)]
    | succ k =>
      simp only [List.flatMap_cons, List.getElem_cons_succ]
      rw [List.getElem?_append_right (by rw [hf, Nat.add_mul]; omega), hf, show (k + 1) * n + j - n = k * n + j by rw [Nat.add_mul]; omega]
      exact ih k j (by simpa using hk) hj
theorem cellsP_get (l : List (Nat × Nat × Nat)) (k : Nat) (hk : k < l.length) : (cellsP l)[k * 3]? = some (.int .i64 (l[k]).1) ∧ (cellsP l)[k * 3 + 1]? = some (.int .i64 (l[k]).2.1) ∧ (cellsP l)[k * 3 + 2]? = some (.int .i64 (l[k]).2.2) := by
  have h := fun j hj => flat_get cell3 3 (fun _ => rfl) l k j hk hj
  exact ⟨h 0 (by omega), h 1 (by omega), h 2 (by omega)⟩
theorem pieces_len (f t : Int) : (pieces f t).length ≤ 6144 := by
  have := pcs_len (min t 6144).toNat _ (min (max f 0) 6144).toNat rfl
  unfold pieces; omega

/-- a row of pieces, at its cells -/
theorem row_cells {w : World} {B g cap : Nat} {l : List (Nat × Nat × Nat)} (hown : w.ownsRow B 27 3 (.slice (some ⟨g, 0, none⟩) l.length cap) l.length (cellsP l)) (k : Nat) (hk : k < l.length) :
    w.cell? ⟨g, k * 3, none⟩ = some (.int .i64 (l[k]).1) ∧ w.cell? ⟨g, k * 3 + 1, none⟩ = some (.int .i64 (l[k]).2.1) ∧ w.cell? ⟨g, k * 3 + 2, none⟩ = some (.int .i64 (l[k]).2.2) := by
  obtain ⟨h0, h1, h2⟩ := cellsP_get l k hk
  exact ⟨(hown.cellAt _ (by omega)).trans h0, (hown.cellAt _ (by omega)).trans h1, (hown.cellAt _ (by omega)).trans h2⟩

set_option maxRecDepth 100000 in
set_option maxHeartbeats 400000 in
theorem law_pieces (a0 a1 a2 : Int) (w : World) (h0 : -9223372036854775808 ≤ a0) (h0' : a0 ≤ 9223372036854775807) (h1 : -9223372036854775808 ≤ a1) (h1' : a1 ≤ 9223372036854775807) (h2 : -9223372036854775808 ≤ a2) (h2' : a2 ≤ 9223372036854775807) :
    Calls Try.prog 3 #[.int .i64 a0, .int .i64 a1, .int .i64 a2] w fun e w' => e = .returned (.bool true) ∧ Below w.heap.size w w' := by
  go_enter Try.func3, Try.ntmps3
  go_wp2_with fail
  refine (awake_any _).mono ?_
  rintro e w1 ⟨rfl, hb1⟩
  go_wp2_with fail
  refine (pieces_any a1 a2 _ h1 h1' h2 h2').mono ?_
  rintro e w2 ⟨v2, rfl, hown2, hb2⟩
  go_wp2_with fail
  refine (rpieces_any a1 a2 _ h1 h1' h2 h2').mono ?_
  rintro e w3 ⟨v3, rfl, hown3, hb3⟩
  have hs1 := hb1.size
  have hs2 := hb2.size
  have hs3 := hb3.size
  have hbw : Below w.heap.size w w3 := (hb1.trans (hb2.mono hs1)).trans (hb3.mono (by omega))
  have hown2' : w3.ownsRow w1.heap.size 27 3 v2 (pieces a1 a2).length (cellsP (pieces a1 a2)) := by
    refine hown2.kept (row := none) ⟨hb3.os, hb3.tape, hb3.output, hs3, fun k hk _ => hb3.block k hk⟩ ?_
    cases v2.ownBlock <;> simp
  clear hown2
  have hlen := pieces_len a1 a2
  generalize pieces a1 a2 = l at *
  obtain ⟨A2, c2, rfl, hc2, hr2⟩ := Reads.of_own hown2'
  obtain ⟨A3, c3, rfl, hc3, hr3⟩ := Reads.of_own hown3
  go_wp2_with fail
  refine (need_any a0 _ h0 h0').mono ?_
  rintro e w4 ⟨rfl, rfl⟩
  go_wp2_with fail
  refine (rneed_any a0 _ h0 h0').mono ?_
  rintro e w4 ⟨rfl, rfl⟩
  go_wp2_with fail
  go_loopw [10] (fun p wr => ∃ k : Nat, p = .int .i64 k ∧ k ≤ l.length ∧ ∃ m, wr = w3.drewN m) (fun p _ => l.length - (intOf p).toNat)
  case atStart => exact ⟨0, rfl, by omega, 0, rfl⟩
  case round =>
    obtain ⟨k, rfl, hk, m, rfl⟩ := hrel
    by_cases hlt : k < l.length
    · obtain ⟨g2, p2, e2, _, _⟩ := hown2'.form (by omega)
      obtain ⟨g3, p3, e3, _, _⟩ := hown3.form (by omega)
      obtain ⟨rfl, rfl⟩ : A2 = some ⟨g2, 0, none⟩ ∧ c2 = p2 := by simpa using e2
      obtain ⟨rfl, rfl⟩ : A3 = some ⟨g3, 0, none⟩ ∧ c3 = p3 := by simpa using e3
      clear e2 e3
      obtain ⟨x0, x1, x2⟩ := row_cells hown2' k hlt
      obtain ⟨y0, y1, y2⟩ := row_cells hown3 k hlt
      go_wp2
      go_quiet (fail)
      go_wp2
      go_roundw
      case rel => 
        exact ⟨k + 1, vint (by omega), by omega, _, rfl⟩
      case measure => simp [intOf]; omega
    · go_wp2
      go_ret
      exact ⟨rfl, bdrewN hbw m⟩
end Go.Proofs.Ytepmgcgpioljiaa
