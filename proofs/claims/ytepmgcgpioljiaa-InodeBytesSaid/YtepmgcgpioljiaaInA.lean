import Derived.Test.YtepmgcgpioljiaaRows
import Derived.Test.YtepmgcgpioljiaaBase
namespace Go.Proofs.Ytepmgcgpioljiaa
open Go.RowKit
attribute [local go_sem] b_max2 b_min2 b_max b_min

theorem info27 : (Try.prog.info? 27).map (fun i => (i.zero, i.size, i.bytes)) = some (some (.agg #[(.int .i64 0), (.int .i64 0), (.int .i64 0)]), 3, 24) := by kernel_rfl

/-- pieces from a to e -/
def pcs (e : Nat) (a : Nat) : List (Nat × Nat × Nat) :=
  if h : a < e then
    (a / 512, a % 512, min (a % 512 + (e - a)) 512) :: pcs e (a + (min (a % 512 + (e - a)) 512 - a % 512))
  else []
termination_by e - a
decreasing_by omega

def cell3 (p : Nat × Nat × Nat) : List Value := [.int .i64 p.1, .int .i64 p.2.1, .int .i64 p.2.2]
def cellsP : List (Nat × Nat × Nat) → List Value := fun l => l.flatMap cell3
theorem cellsP_snoc (l : List (Nat × Nat × Nat)) (p : Nat × Nat × Nat) : cellsP (l ++ [p]) = cellsP l ++ cell3 p := by simp [cellsP]
theorem cellsP_length (l : List (Nat × Nat × Nat)) : (cellsP l).length = l.length * 3 := by
  induction l with
  | nil => rfl
  | cons p l ih => rw [show cellsP (p :: l) = cell3 p ++ cellsP l from rfl, List.length_append, ih, List.length_cons]; simp only [cell3, List.length_cons, List.length_nil]; omega
theorem pcs_step {e a : Nat} (h : a < e) : pcs e a = (a / 512, a % 512, min (a % 512 + (e - a)) 512) :: pcs e (a + (min (a % 512 + (e - a)) 512 - a % 512)) := by
  rw [pcs]; simp [h]
theorem pcs_end {e a : Nat} (h : ¬ a < e) : pcs e a = [] := by rw [pcs]; simp [h]

/-- what inode.Pieces answers -/
def pieces (f t : Int) : List (Nat × Nat × Nat) := pcs (min t 6144).toNat (min (max f 0) 6144).toNat

set_option maxRecDepth 100000 in
set_option maxHeartbeats 400000 in
theorem pieces_any (f t : Int) (w : World) (h0 : -9223372036854775808 ≤ f) (h1 : f ≤ 9223372036854775807) (h2 : -9223372036854775808 ≤ t) (h3 : t ≤ 9223372036854775807) :
    Calls Try.prog 11 #[.int .i64 f, .int .i64 t] w fun e w' => ∃ v, e = .returned v ∧ w'.ownsRow w.heap.size 27 3 v (pieces f t).length (cellsP (pieces f t)) ∧ Below w.heap.size w w' := by
  obtain ⟨i0, hi, hz0, hz1, hz2⟩ := info_parts info27
  go_enter Try.func11, Try.ntmps11
  go_wp2
  go_step3
  go_wp2
  go_step3
  go_wp2
  go_loopw [5, 7] (fun p v wr => ∃ (a : Nat) (l : List (Nat × Nat × Nat)), p = .int .i64 a ∧ l ++ pcs (min t 6144).toNat a = pieces f t ∧ a ≤ 6144 ∧ l.length ≤ a ∧
      wr.ownsRow w.heap.size 27 3 v l.length (cellsP l) ∧ Below w.heap.size w wr) (fun p _ _ => 6144 - (intOf p).toNat)
  case atStart =>
    refine ⟨(min (max f 0) 6144).toNat, [], ?_, rfl, by omega, by simp, World.ownsRow_nil _ _ _ _, Below.refl _ _⟩
    exact vint (by omega)
  case round =>
    obtain ⟨a, l, rfl, hl, ha, hla, hown, hb⟩ := hrel
    have HL := Lib.hid hl; clear hl
    by_cases hlt : (a : Int) < min t 6144
    · go_wp2_with (at_builtin; refine wpList_append_own _ rfl (.tmp 30) (.tmp 32) 23 rfl w.heap.size 27 i0 _ 3 24 Try.underlying23 hi hz0 hz1 hz2 rfl (by decide) _ _ _ rfl ((hown.alloc _).alloc _) ⟨wr.heap.size+1, 0, none⟩ 1 1 [.int .i64 (↑a / 512), .int .i64 (↑a % 512), .int .i64 (min (↑a % 512 + min t 6144 - ↑a) 512)] rfl rfl ?c1 ?c2 ?c3 ?c4 ?c5 ?_)
      case c1 => exact new_cells _ _ _ _ (by simp)
      case c2 => simp [Value.oneCell']
      case c3 => simp only [maxLen]; omega
      case c4 => omega
      case c5 => have := hb.size; simp only [sz_alloc]; omega
      intro v' w1 hown' hgrow _
      have hne : some wr.heap.size ≠ u7.ownBlock := fun e => by have := hown.lt _ e.symm; omega
      have hk1 : w1.cell? ⟨wr.heap.size, 1, none⟩ = some (.int .i64 (↑a % 512)) := hgrow.cell (by simp) hne
      have hk2 : w1.cell? ⟨wr.heap.size, 2, none⟩ = some (.int .i64 (min (↑a % 512 + min t 6144 - ↑a) 512)) := hgrow.cell (by simp) hne
      have hb1 : Below w.heap.size w w1 := ((hb.alloc hb.size _).alloc (by have := hb.size; simp only [sz_alloc]; omega) _).grown hgrow (by have := hb.size; simp only [sz_alloc]; omega) (fun k hk => (hown.lt k hk).1)
      go_wp2
      go_roundw
      case rel =>
        refine ⟨a + (min (a % 512 + ((min t 6144).toNat - a)) 512 - a % 512), l ++ [(a / 512, a % 512, min (a % 512 + ((min t 6144).toNat - a)) 512)], vint (by omega), ?_, by omega, by simp; omega, ?_, hb1⟩
        · rw [← HL.out, List.append_assoc, pcs_step (a := a) (by omega)]; rfl
        · rw [cellsP_snoc, List.length_append]
          have e3 : cell3 (a / 512, a % 512, min (a % 512 + ((min t 6144).toNat - a)) 512) = [.int .i64 (↑a / 512), .int .i64 (↑a % 512), .int .i64 (min (↑a % 512 + min t 6144 - ↑a) 512)] := by
            simp only [cell3]; congr 1; congr 1; congr 1; exact vint (by omega)
          rw [e3]; exact hown'
      case measure => simp [intOf]; omega
    · go_wp2
      try rw [Exit.noGoto_ret]
      go_ret
      have e1 : pieces f t = l := by rw [← HL.out, pcs_end (by omega), List.append_nil]
      rw [e1]
      exact ⟨_, rfl, hown, hb⟩
end Go.Proofs.Ytepmgcgpioljiaa
