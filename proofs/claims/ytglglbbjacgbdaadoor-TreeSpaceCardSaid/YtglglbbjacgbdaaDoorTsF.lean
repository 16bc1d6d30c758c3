import Derived.Test.YtglglbbjacgbdaaDoorTrX
namespace Go.Proofs.YtglglbbjacgbdaaDoor
open Go.RowKit
set_option linter.unusedVariables false
set_option linter.unusedSimpArgs false
attribute [local go_sem] b_max2 b_min2 b_max b_min

/-! ### read: a call's names, or the error ahead of all -/
def readE (c : CallV) : Int :=
  if c.op < 1 ∨ 12 < c.op then 1 else if c.op = 11 ∨ c.op = 12 then 0 else
  if fSplit c.path = none ∨ ((c.op = 3 ∨ c.op = 5) ∧ fSplit c.dest = none) ∨ (c.op ≤ 5 ∧ fSplit c.path = some []) ∨ ((c.op = 3 ∨ c.op = 5) ∧ fSplit c.dest = some []) then 1 else
  if (c.op = 6 ∧ (c.at_ < 0 ∨ c.n < 0 ∨ 6144 < c.n)) ∨ (c.op = 7 ∧ c.at_ < 0) ∨ (c.op = 8 ∧ c.n < 0) then 1 else
  if (c.op = 7 ∧ (6144 < c.at_ ∨ 6144 < c.at_ + c.data.size)) ∨ (c.op = 8 ∧ 6144 < c.n) then 11 else 0
def callA (c : CallV) : Array Value := #[.int .i64 c.op, .string c.path, .string c.dest, .int .i64 c.at_, .int .i64 c.n, .string c.data]
def callV (c : CallV) : Value := .agg #[.int .i64 c.op, .string c.path, .string c.dest, .int .i64 c.at_, .int .i64 c.n, .string c.data]
def plan0 : Array Value := #[.int .i64 0, .string ⟨#[]⟩, .string ⟨#[]⟩, .int .i64 0, .int .i64 0, .string ⟨#[]⟩, .slice none 0 0, .slice none 0 0]
theorem blk_same {w : World} {b i : Nat} {t : TypeId} {cs : Array Value} {v : Value} (h : Blk w b t cs) (hv : cs.setIfInBounds i v = cs) : w.setCell ⟨b, i, none⟩ v = w := by
  rw [setCell_eq_setRow w b i cs t (0, 0) v h, hv]
  exact setRow_self w b cs t (0, 0) h
theorem open3 (w : World) (a b c : Array Value) (ta tb tc : TypeId) : ∃ w0, ((w.alloc (.cells a ta)).alloc (.cells b tb)).alloc (.cells c tc) = w0 ∧ Below w.heap.size w w0 ∧ Blk w0 w.heap.size ta a ∧ Blk w0 (w.heap.size + 1) tb b ∧ Blk w0 (w.heap.size + 1 + 1) tc c := by
  refine ⟨_, rfl, (((Below.refl _ w).alloc (Nat.le_refl _) _).alloc (by simp) _).alloc (by simp; omega) _, ((Blk.new w ta _).alloc _).alloc _, ?_, ?_⟩
  · have := (Blk.new (w.alloc (.cells a ta)) tb b).alloc (.cells c tc)
    rwa [sz_alloc] at this
  · have := Blk.new ((w.alloc (.cells a ta)).alloc (.cells b tb)) tc c
    rwa [sz_alloc, sz_alloc] at this
structure RdAt (w wk : World) (c : CallV) (A : Option Addr) (m k : Nat) (A' : Option Addr) (m' k' : Nat) : Prop where
  b : Below w.heap.size w wk
  k1 : Blk wk w.heap.size 32 (callA c)
  k2 : Blk wk (w.heap.size + 1) 47 plan0
  k4 : Blk wk (w.heap.size + 1 + 1) 47 (planA c A m k A' m' k')
theorem RdAt.go {w wk w' : World} {c : CallV} {A A' : Option Addr} {m k m' k' : Nat} (h : RdAt w wk c A m k A' m' k') (hb : Below wk.heap.size wk w') : RdAt w w' c A m k A' m' k' :=
  ⟨h.b.trans (hb.mono h.b.size), h.k1.below hb h.k1.lt, h.k2.below hb h.k2.lt, h.k4.below hb h.k4.lt⟩
theorem RdAt.set {w wk : World} {c : CallV} {A0 A0' A A' : Option Addr} {m0 k0 m0' k0' m k m' k' : Nat} (h : RdAt w wk c A0 m0 k0 A0' m0' k0') :
    ∃ W, (wk.setCell ⟨w.heap.size + 1 + 1, 6, none⟩ (.slice A m k)).setCell ⟨w.heap.size + 1 + 1, 7, none⟩ (.slice A' m' k') = W ∧ RdAt w W c A m k A' m' k' ∧ Fr (fun j => j = w.heap.size + 1 + 1) wk W := by
  refine ⟨_, rfl, ⟨?_, ?_, ?_, ?_⟩, (Fr.setCell (F := fun j => j = w.heap.size + 1 + 1) _ _ _ _ rfl).trans (Fr.setCell (F := fun j => j = w.heap.size + 1 + 1) _ _ _ _ rfl)⟩
  · exact (h.b.setCell (p := ⟨w.heap.size + 1 + 1, 6, none⟩) (by show w.heap.size ≤ w.heap.size + 1 + 1; omega) _).setCell (p := ⟨w.heap.size + 1 + 1, 7, none⟩) (by show w.heap.size ≤ w.heap.size + 1 + 1; omega) _
  · exact (h.k1.far (p := ⟨w.heap.size + 1 + 1, 6, none⟩) (by show w.heap.size ≠ w.heap.size + 1 + 1; omega) _).far (p := ⟨w.heap.size + 1 + 1, 7, none⟩) (by show w.heap.size ≠ w.heap.size + 1 + 1; omega) _
  · exact (h.k2.far (p := ⟨w.heap.size + 1 + 1, 6, none⟩) (by show w.heap.size + 1 ≠ w.heap.size + 1 + 1; omega) _).far (p := ⟨w.heap.size + 1 + 1, 7, none⟩) (by show w.heap.size + 1 ≠ w.heap.size + 1 + 1; omega) _
  · exact (h.k4.set_ 6 _).set_ 7 _
theorem plan_at {w : World} {b : Nat} {c : CallV} {A A' : Option Addr} {m k m' k' : Nat} (h : Blk w b 47 (planA c A m k A' m' k')) :
    w.cell? ⟨b, 0, none⟩ = some (.int .i64 c.op) ∧ w.cell? ⟨b, 1, none⟩ = some (.string c.path) ∧ w.cell? ⟨b, 2, none⟩ = some (.string c.dest) ∧ w.cell? ⟨b, 3, none⟩ = some (.int .i64 c.at_) ∧ w.cell? ⟨b, 4, none⟩ = some (.int .i64 c.n) ∧ w.cell? ⟨b, 5, none⟩ = some (.string c.data) ∧
      w.cell? ⟨b, 6, none⟩ = some (.slice A m k) ∧ w.cell? ⟨b, 7, none⟩ = some (.slice A' m' k') ∧ ∀ j, w.frozen? ⟨b, j, none⟩ = false := by
  refine ⟨?_, ?_, ?_, ?_, ?_, ?_, ?_, ?_, fun j => h.frozen j⟩ <;> (rw [h.cell]; rfl)
theorem call_at {w : World} {b : Nat} {c : CallV} (h : Blk w b 32 (callA c)) :
    w.cell? ⟨b, 0, none⟩ = some (.int .i64 c.op) ∧ w.cell? ⟨b, 1, none⟩ = some (.string c.path) ∧ w.cell? ⟨b, 2, none⟩ = some (.string c.dest) ∧ w.cell? ⟨b, 3, none⟩ = some (.int .i64 c.at_) ∧ w.cell? ⟨b, 4, none⟩ = some (.int .i64 c.n) ∧ w.cell? ⟨b, 5, none⟩ = some (.string c.data) := by
  refine ⟨?_, ?_, ?_, ?_, ?_, ?_⟩ <;> (rw [h.cell]; rfl)
theorem plan0_at {w : World} {b : Nat} (h : Blk w b 47 plan0) :
    w.cell? ⟨b, 0, none⟩ = some (.int .i64 0) ∧ w.cell? ⟨b, 1, none⟩ = some (.string ⟨#[]⟩) ∧ w.cell? ⟨b, 2, none⟩ = some (.string ⟨#[]⟩) ∧ w.cell? ⟨b, 3, none⟩ = some (.int .i64 0) ∧ w.cell? ⟨b, 4, none⟩ = some (.int .i64 0) ∧ w.cell? ⟨b, 5, none⟩ = some (.string ⟨#[]⟩) ∧
      w.cell? ⟨b, 6, none⟩ = some (.slice none 0 0) ∧ w.cell? ⟨b, 7, none⟩ = some (.slice none 0 0) ∧ ∀ j, w.frozen? ⟨b, j, none⟩ = false := by
  refine ⟨?_, ?_, ?_, ?_, ?_, ?_, ?_, ?_, fun j => h.frozen j⟩ <;> (rw [h.cell]; rfl)
theorem st8 {w wk : World} {c : CallV} {A A' : Option Addr} {m k m' k' : Nat} (h : RdAt w wk c A m k A' m' k') :
    ∃ W, ((((((((wk.setCell ⟨w.heap.size + 1, 0, none⟩ (.int .i64 c.op)).setCell ⟨w.heap.size + 1, 1, none⟩ (.string c.path)).setCell ⟨w.heap.size + 1, 2, none⟩ (.string c.dest)).setCell ⟨w.heap.size + 1, 3, none⟩ (.int .i64 c.at_)).setCell ⟨w.heap.size + 1, 4, none⟩ (.int .i64 c.n)).setCell ⟨w.heap.size + 1, 5, none⟩ (.string c.data)).setCell ⟨w.heap.size + 1, 6, none⟩ (.slice A m k)).setCell ⟨w.heap.size + 1, 7, none⟩ (.slice A' m' k')) = W ∧
      Fr (fun j => j = w.heap.size + 1) wk W ∧ Below w.heap.size w W ∧
      W.cell? ⟨w.heap.size + 1, 0, none⟩ = some (.int .i64 c.op) ∧ W.cell? ⟨w.heap.size + 1, 1, none⟩ = some (.string c.path) ∧ W.cell? ⟨w.heap.size + 1, 2, none⟩ = some (.string c.dest) ∧ W.cell? ⟨w.heap.size + 1, 3, none⟩ = some (.int .i64 c.at_) ∧
      W.cell? ⟨w.heap.size + 1, 4, none⟩ = some (.int .i64 c.n) ∧ W.cell? ⟨w.heap.size + 1, 5, none⟩ = some (.string c.data) ∧ W.cell? ⟨w.heap.size + 1, 6, none⟩ = some (.slice A m k) ∧ W.cell? ⟨w.heap.size + 1, 7, none⟩ = some (.slice A' m' k') := by
  have g0 := h.k2
  unfold plan0 at g0
  have g1 := g0.set_ 0 (.int .i64 c.op)
  change Blk _ _ _ #[.int .i64 c.op, .string ⟨#[]⟩, .string ⟨#[]⟩, .int .i64 0, .int .i64 0, .string ⟨#[]⟩, .slice none 0 0, .slice none 0 0] at g1
  have g2 := g1.set_ 1 (.string c.path)
  change Blk _ _ _ #[.int .i64 c.op, .string c.path, .string ⟨#[]⟩, .int .i64 0, .int .i64 0, .string ⟨#[]⟩, .slice none 0 0, .slice none 0 0] at g2
  have g3 := g2.set_ 2 (.string c.dest)
  change Blk _ _ _ #[.int .i64 c.op, .string c.path, .string c.dest, .int .i64 0, .int .i64 0, .string ⟨#[]⟩, .slice none 0 0, .slice none 0 0] at g3
  have g4 := g3.set_ 3 (.int .i64 c.at_)
  change Blk _ _ _ #[.int .i64 c.op, .string c.path, .string c.dest, .int .i64 c.at_, .int .i64 0, .string ⟨#[]⟩, .slice none 0 0, .slice none 0 0] at g4
  have g5 := g4.set_ 4 (.int .i64 c.n)
  change Blk _ _ _ #[.int .i64 c.op, .string c.path, .string c.dest, .int .i64 c.at_, .int .i64 c.n, .string ⟨#[]⟩, .slice none 0 0, .slice none 0 0] at g5
  have g6 := g5.set_ 5 (.string c.data)
  change Blk _ _ _ #[.int .i64 c.op, .string c.path, .string c.dest, .int .i64 c.at_, .int .i64 c.n, .string c.data, .slice none 0 0, .slice none 0 0] at g6
  have g7 := g6.set_ 6 (.slice A m k)
  change Blk _ _ _ #[.int .i64 c.op, .string c.path, .string c.dest, .int .i64 c.at_, .int .i64 c.n, .string c.data, .slice A m k, .slice none 0 0] at g7
  have g8 := g7.set_ 7 (.slice A' m' k')
  change Blk _ _ _ #[.int .i64 c.op, .string c.path, .string c.dest, .int .i64 c.at_, .int .i64 c.n, .string c.data, .slice A m k, .slice A' m' k'] at g8
  have hb := g8
  have s : ∀ (W : World) j u, Fr (fun j => j = w.heap.size + 1) W (W.setCell ⟨w.heap.size + 1, j, none⟩ u) := fun W j u => Fr.setCell W _ j u rfl
  have hf := ((((((((s wk 0 (.int .i64 c.op)).trans (s _ 1 (.string c.path))).trans (s _ 2 (.string c.dest))).trans (s _ 3 (.int .i64 c.at_))).trans (s _ 4 (.int .i64 c.n))).trans (s _ 5 (.string c.data))).trans (s _ 6 (.slice A m k))).trans (s _ 7 (.slice A' m' k')))
  refine ⟨_, rfl, hf, hf.below h.b (fun k e => by omega), ?_, ?_, ?_, ?_, ?_, ?_, ?_, ?_⟩
  all_goals (rw [hb.cell]; rfl)
section
variable {w : World}
set_option maxRecDepth 100000 in
set_option maxHeartbeats 2000000 in
theorem read_early_lo (c : CallV) (d : decide (c.op < 1) = true) :
    Calls Tryd.prog 10 #[callV c] w fun e w' => e = .returned (.tuple #[planV c (.slice none 0 0) (.slice none 0 0), .int .i64 1]) ∧ Below w.heap.size w w' := by
  unfold callV
  obtain ⟨w0, hw0, b0, k1, k2, k4⟩ := open3 w (callA c) plan0 (planA c none 0 0 none 0 0) 32 47 47
  have R0 : Hid (RdAt w w0 c none 0 0 none 0 0) := Lib.hid ⟨b0, k1, k2, k4⟩
  obtain ⟨a0, a1, a2, a3, a4, a5⟩ := call_at k1
  have y6 : w0.setCell ⟨w.heap.size + 1 + 1, 6, none⟩ (.slice none 0 0) = w0 := blk_same k4 rfl
  have y7 : w0.setCell ⟨w.heap.size + 1 + 1, 7, none⟩ (.slice none 0 0) = w0 := blk_same k4 rfl
  obtain ⟨_, _, _, _, _, _, z6, z7, zf⟩ := plan_at k4
  unfold callA plan0 planA at hw0
  obtain ⟨p0, p1, p2, p3, p4, p5, p6, p7, _⟩ := plan_at k4
  clear b0 k1 k2 k4
  have HH := R0
  obtain ⟨W, hst, hfr, hbw, q0, q1, q2, q3, q4, q5, q6, q7⟩ := st8 R0.out
  obtain ⟨d0, d1, d2', d3', d4', d5, d6, d7, hfz⟩ := plan0_at R0.out.k2
  have HBW := Lib.hid hbw
  clear hfr hbw
  go_enter Tryd.func10, Tryd.ntmps10
  go_wp2_with fail
  refine bodyPost_ret (v := .tuple #[planV c (.slice none 0 0) (.slice none 0 0), .int .i64 1]) (by simp [results, Tryd.results10, go_sem, q0, q1, q2, q3, q4, q5, q6, q7, planV]; try rfl) rfl ?_
  exact ⟨rfl, HBW.out⟩
set_option maxRecDepth 100000 in
set_option maxHeartbeats 2000000 in
theorem read_early_hi (c : CallV) (d : decide (c.op < 1) = false) (d2 : decide (12 < c.op) = true) :
    Calls Tryd.prog 10 #[callV c] w fun e w' => e = .returned (.tuple #[planV c (.slice none 0 0) (.slice none 0 0), .int .i64 1]) ∧ Below w.heap.size w w' := by
  unfold callV
  obtain ⟨w0, hw0, b0, k1, k2, k4⟩ := open3 w (callA c) plan0 (planA c none 0 0 none 0 0) 32 47 47
  have R0 : Hid (RdAt w w0 c none 0 0 none 0 0) := Lib.hid ⟨b0, k1, k2, k4⟩
  obtain ⟨a0, a1, a2, a3, a4, a5⟩ := call_at k1
  have y6 : w0.setCell ⟨w.heap.size + 1 + 1, 6, none⟩ (.slice none 0 0) = w0 := blk_same k4 rfl
  have y7 : w0.setCell ⟨w.heap.size + 1 + 1, 7, none⟩ (.slice none 0 0) = w0 := blk_same k4 rfl
  obtain ⟨_, _, _, _, _, _, z6, z7, zf⟩ := plan_at k4
  unfold callA plan0 planA at hw0
  obtain ⟨p0, p1, p2, p3, p4, p5, p6, p7, _⟩ := plan_at k4
  clear b0 k1 k2 k4
  have HH := R0
  obtain ⟨W, hst, hfr, hbw, q0, q1, q2, q3, q4, q5, q6, q7⟩ := st8 R0.out
  obtain ⟨d0, d1, d2', d3', d4', d5, d6, d7, hfz⟩ := plan0_at R0.out.k2
  have HBW := Lib.hid hbw
  clear hfr hbw
  go_enter Tryd.func10, Tryd.ntmps10
  go_wp2_with fail
  refine bodyPost_ret (v := .tuple #[planV c (.slice none 0 0) (.slice none 0 0), .int .i64 1]) (by simp [results, Tryd.results10, go_sem, q0, q1, q2, q3, q4, q5, q6, q7, planV]; try rfl) rfl ?_
  exact ⟨rfl, HBW.out⟩
set_option maxRecDepth 100000 in
set_option maxHeartbeats 2000000 in
theorem read_early_11 (c : CallV) (d : decide (c.op < 1) = false) (d2 : decide (12 < c.op) = false) (d3 : (c.op == 11) = true) :
    Calls Tryd.prog 10 #[callV c] w fun e w' => e = .returned (.tuple #[planV c (.slice none 0 0) (.slice none 0 0), .int .i64 0]) ∧ Below w.heap.size w w' := by
  unfold callV
  obtain ⟨w0, hw0, b0, k1, k2, k4⟩ := open3 w (callA c) plan0 (planA c none 0 0 none 0 0) 32 47 47
  have R0 : Hid (RdAt w w0 c none 0 0 none 0 0) := Lib.hid ⟨b0, k1, k2, k4⟩
  obtain ⟨a0, a1, a2, a3, a4, a5⟩ := call_at k1
  have y6 : w0.setCell ⟨w.heap.size + 1 + 1, 6, none⟩ (.slice none 0 0) = w0 := blk_same k4 rfl
  have y7 : w0.setCell ⟨w.heap.size + 1 + 1, 7, none⟩ (.slice none 0 0) = w0 := blk_same k4 rfl
  obtain ⟨_, _, _, _, _, _, z6, z7, zf⟩ := plan_at k4
  unfold callA plan0 planA at hw0
  obtain ⟨p0, p1, p2, p3, p4, p5, p6, p7, _⟩ := plan_at k4
  clear b0 k1 k2 k4
  have HH := R0
  obtain ⟨W, hst, hfr, hbw, q0, q1, q2, q3, q4, q5, q6, q7⟩ := st8 R0.out
  obtain ⟨d0, d1, d2', d3', d4', d5, d6, d7, hfz⟩ := plan0_at R0.out.k2
  have HBW := Lib.hid hbw
  clear hfr hbw
  go_enter Tryd.func10, Tryd.ntmps10
  go_wp2_with fail
  refine bodyPost_ret (v := .tuple #[planV c (.slice none 0 0) (.slice none 0 0), .int .i64 0]) (by simp [results, Tryd.results10, go_sem, q0, q1, q2, q3, q4, q5, q6, q7, planV]; try rfl) rfl ?_
  exact ⟨rfl, HBW.out⟩
set_option maxRecDepth 100000 in
set_option maxHeartbeats 2000000 in
theorem read_early_12 (c : CallV) (d : decide (c.op < 1) = false) (d2 : decide (12 < c.op) = false) (d3 : (c.op == 11) = false) (d4 : (c.op == 12) = true) :
    Calls Tryd.prog 10 #[callV c] w fun e w' => e = .returned (.tuple #[planV c (.slice none 0 0) (.slice none 0 0), .int .i64 0]) ∧ Below w.heap.size w w' := by
  unfold callV
  obtain ⟨w0, hw0, b0, k1, k2, k4⟩ := open3 w (callA c) plan0 (planA c none 0 0 none 0 0) 32 47 47
  have R0 : Hid (RdAt w w0 c none 0 0 none 0 0) := Lib.hid ⟨b0, k1, k2, k4⟩
  obtain ⟨a0, a1, a2, a3, a4, a5⟩ := call_at k1
  have y6 : w0.setCell ⟨w.heap.size + 1 + 1, 6, none⟩ (.slice none 0 0) = w0 := blk_same k4 rfl
  have y7 : w0.setCell ⟨w.heap.size + 1 + 1, 7, none⟩ (.slice none 0 0) = w0 := blk_same k4 rfl
  obtain ⟨_, _, _, _, _, _, z6, z7, zf⟩ := plan_at k4
  unfold callA plan0 planA at hw0
  obtain ⟨p0, p1, p2, p3, p4, p5, p6, p7, _⟩ := plan_at k4
  clear b0 k1 k2 k4
  have HH := R0
  obtain ⟨W, hst, hfr, hbw, q0, q1, q2, q3, q4, q5, q6, q7⟩ := st8 R0.out
  obtain ⟨d0, d1, d2', d3', d4', d5, d6, d7, hfz⟩ := plan0_at R0.out.k2
  have HBW := Lib.hid hbw
  clear hfr hbw
  go_enter Tryd.func10, Tryd.ntmps10
  go_wp2_with fail
  refine bodyPost_ret (v := .tuple #[planV c (.slice none 0 0) (.slice none 0 0), .int .i64 0]) (by simp [results, Tryd.results10, go_sem, q0, q1, q2, q3, q4, q5, q6, q7, planV]; try rfl) rfl ?_
  exact ⟨rfl, HBW.out⟩
set_option maxRecDepth 100000 in
set_option maxHeartbeats 4000000 in
theorem read_t1 (c : CallV) (mx : Int) (hmx : w.cell? ⟨0, 0, none⟩ = some (.int .i64 mx)) (d : decide (c.op < 1) = false) (d2 : decide (12 < c.op) = false) (d3 : (c.op == 11) = false) (d4 : (c.op == 12) = false) (t3 : (c.op == 3) = false) (t5 : (c.op == 5) = false) (hp : fSplit c.path = none) :
    Calls Tryd.prog 10 #[callV c] w fun e w' => ∃ vf vt, e = .returned (.tuple #[planV c vf vt, .int .i64 1]) ∧ NmV w' vf ((fSplit c.path).getD []) ∧ NmV w' vt ((fSplit c.dest).getD []) ∧ Below w.heap.size w w' := by
  unfold callV
  obtain ⟨w0, hw0, b0, k1, k2, k4⟩ := open3 w (callA c) plan0 (planA c none 0 0 none 0 0) 32 47 47
  have R0 : Hid (RdAt w w0 c none 0 0 none 0 0) := Lib.hid ⟨b0, k1, k2, k4⟩
  obtain ⟨a0, a1, a2, a3, a4, a5⟩ := call_at k1
  have y6 : w0.setCell ⟨w.heap.size + 1 + 1, 6, none⟩ (.slice none 0 0) = w0 := blk_same k4 rfl
  have y7 : w0.setCell ⟨w.heap.size + 1 + 1, 7, none⟩ (.slice none 0 0) = w0 := blk_same k4 rfl
  obtain ⟨_, _, _, _, _, _, z6, z7, zf⟩ := plan_at k4
  have hm0 : w0.cell? ⟨0, 0, none⟩ = some (.int .i64 mx) := (b0.cell (p := ⟨0, 0, none⟩) (World.block_lt_of_cell? _ _ hmx)).trans hmx
  have hs1 := split_any c.path mx w0 hm0
  have hs2 := fun W (h : W.cell? ⟨0, 0, none⟩ = some (.int .i64 mx)) => split_any c.dest mx W h
  have HZ := Lib.hid (World.block_lt_of_cell? _ _ hmx)
  unfold callA plan0 planA at hw0
  have i1 : (fSplit c.path).isSome = false := by rw [hp]; rfl
  rw [i1] at hs1
  generalize (fSplit c.dest).isSome = i2 at hs2
  generalize hL1 : (fSplit c.path).getD [] = L1 at *
  generalize hL2 : (fSplit c.dest).getD [] = L2 at *
  have HS2 := Lib.hid hs2; have HM0 := Lib.hid hm0
  clear k1 k2 k4 hs2 hm0 hp hL1 hL2 hmx i1
  go_enter Tryd.func10, Tryd.ntmps10
  go_wp2_with fail
  refine hs1.mono ?_
  rintro e w1 ⟨v1, rfl, hv1, hnw1, b1⟩
  have hlt0 := b0.size
  have hk40 := R0.out.k4.lt
  have HNW1 : Hid (∀ ad n c, v1 = .slice (some ad) n c → w.heap.size + 1 + 1 < ad.block) := Lib.hid (fun ad n c e => by have := hnw1 ad n c e; omega)
  have hk41 : w.heap.size + 1 + 1 < w1.heap.size := by have := b1.size; omega
  have R1 := Lib.hid (R0.out.go b1)
  have hm1 : w1.cell? ⟨0, 0, none⟩ = some (.int .i64 mx) := (b1.cell (p := ⟨0, 0, none⟩) (by have := HZ.out; dsimp only at this ⊢; omega)).trans HM0.out
  have hs2 := HS2.out w1 hm1
  obtain ⟨A1, m1, c1, rfl, hl1, hc1, hr1⟩ := hv1
  clear hs1 hm1 HS2 hw0 y6 y7 z6 z7 zf a0 a1 a2 a3 a4 a5 HM0
  obtain ⟨a0, a1, a2, a3, a4, a5⟩ := call_at R1.out.k1
  have HV1 : Hid (NmV w1 (.slice A1 m1 c1) L1) := Lib.hid ⟨A1, m1, c1, rfl, hl1, hc1, hr1⟩
  have HL1 := Lib.hid hl1
  clear b0 b1 hc1 hr1 hl1 hlt0 hk40 hnw1
  go_wp2_with fail
  refine hs2.mono ?_
  rintro e w2 ⟨v2, rfl, hv2, hnw2, b2⟩
  have R2 := Lib.hid (R1.out.go b2)
  have HV12 := Lib.hid (HV1.out.low b2)
  obtain ⟨A2, m2, c2, rfl, hl2, hc2, hr2⟩ := hv2
  have HV2 : Hid (NmV w2 (.slice A2 m2 c2) L2) := Lib.hid ⟨A2, m2, c2, rfl, hl2, hc2, hr2⟩
  obtain ⟨W2, hW2, RD, FD⟩ := R2.out.set (A := A1) (m := m1) (k := c1) (A' := A2) (m' := m2) (k' := c2)
  have HRD := Lib.hid RD
  have HL2 := Lib.hid hl2
  have HNW2 : Hid (∀ ad n c, (Value.slice A2 m2 c2) = .slice (some ad) n c → w.heap.size + 1 + 1 < ad.block) := Lib.hid (fun ad n c e => by have := hnw2 ad n c e; omega)
  clear hs2 a0 a1 a2 a3 a4 a5 b2 hc2 hr2 hl2 hnw2 hk41
  obtain ⟨a0, a1, a2, a3, a4, a5⟩ := call_at RD.k1
  obtain ⟨x0, x1, x2, x3, x4, x5, x6, x7, xz⟩ := plan_at R2.out.k4
  clear RD
  obtain ⟨W, hst, hfr, hbw, q0, q1, q2, q3, q4, q5, q6, q7⟩ := st8 HRD.out
  obtain ⟨e0, e1, e2, e3, e4, e5, e6, e7, hfz⟩ := plan0_at HRD.out.k2
  obtain ⟨p0, p1, p2, p3, p4, p5, p6, p7, _⟩ := plan_at HRD.out.k4
  have HBW := Lib.hid hbw; have HFR := Lib.hid hfr; have HFD := Lib.hid FD
  clear hbw hfr FD
  go_wp2_with fail
  refine bodyPost_ret (v := .tuple #[planV c (.slice A1 m1 c1) (.slice A2 m2 c2), .int .i64 1]) (by simp [results, Tryd.results10, go_sem, q0, q1, q2, q3, q4, q5, q6, q7, planV]; try rfl) rfl ?_
  exact ⟨_, _, rfl, (HV12.out.fr HFD.out (fun ad n c e h => by have := HNW1.out ad n c e; omega)).fr HFR.out (fun ad n c e h => by have := HNW1.out ad n c e; omega), (HV2.out.fr HFD.out (fun ad n c e h => by have := HNW2.out ad n c e; omega)).fr HFR.out (fun ad n c e h => by have := HNW2.out ad n c e; omega), HBW.out⟩
set_option maxRecDepth 100000 in
set_option maxHeartbeats 4000000 in
theorem read_a_nil (c : CallV) (mx : Int) (hmx : w.cell? ⟨0, 0, none⟩ = some (.int .i64 mx)) (d : decide (c.op < 1) = false) (d2 : decide (12 < c.op) = false) (d3 : (c.op == 11) = false) (d4 : (c.op == 12) = false) (t3 : (c.op == 3) = false) (t5 : (c.op == 5) = false) (n5 : decide (c.op ≤ 5) = true) (hp : fSplit c.path = some []) :
    Calls Tryd.prog 10 #[callV c] w fun e w' => ∃ vf vt, e = .returned (.tuple #[planV c vf vt, .int .i64 1]) ∧ NmV w' vf ((fSplit c.path).getD []) ∧ NmV w' vt ((fSplit c.dest).getD []) ∧ Below w.heap.size w w' := by
  unfold callV
  obtain ⟨w0, hw0, b0, k1, k2, k4⟩ := open3 w (callA c) plan0 (planA c none 0 0 none 0 0) 32 47 47
  have R0 : Hid (RdAt w w0 c none 0 0 none 0 0) := Lib.hid ⟨b0, k1, k2, k4⟩
  obtain ⟨a0, a1, a2, a3, a4, a5⟩ := call_at k1
  have y6 : w0.setCell ⟨w.heap.size + 1 + 1, 6, none⟩ (.slice none 0 0) = w0 := blk_same k4 rfl
  have y7 : w0.setCell ⟨w.heap.size + 1 + 1, 7, none⟩ (.slice none 0 0) = w0 := blk_same k4 rfl
  obtain ⟨_, _, _, _, _, _, z6, z7, zf⟩ := plan_at k4
  have hm0 : w0.cell? ⟨0, 0, none⟩ = some (.int .i64 mx) := (b0.cell (p := ⟨0, 0, none⟩) (World.block_lt_of_cell? _ _ hmx)).trans hmx
  have hs1 := split_any c.path mx w0 hm0
  have hs2 := fun W (h : W.cell? ⟨0, 0, none⟩ = some (.int .i64 mx)) => split_any c.dest mx W h
  have HZ := Lib.hid (World.block_lt_of_cell? _ _ hmx)
  unfold callA plan0 planA at hw0
  have i1 : (fSplit c.path).isSome = true := by rw [hp]; rfl
  rw [i1] at hs1
  generalize (fSplit c.dest).isSome = i2 at hs2
  generalize hL1 : (fSplit c.path).getD [] = L1 at *
  generalize hL2 : (fSplit c.dest).getD [] = L2 at *
  have hne1 : L1 = [] := by rw [← hL1, hp]; rfl
  have HS2 := Lib.hid hs2; have HM0 := Lib.hid hm0
  have HN1 := Lib.hid hne1; clear hne1
  clear k1 k2 k4 hs2 hm0 hp hL1 hL2 hmx i1
  go_enter Tryd.func10, Tryd.ntmps10
  go_wp2_with fail
  refine hs1.mono ?_
  rintro e w1 ⟨v1, rfl, hv1, hnw1, b1⟩
  have hlt0 := b0.size
  have hk40 := R0.out.k4.lt
  have HNW1 : Hid (∀ ad n c, v1 = .slice (some ad) n c → w.heap.size + 1 + 1 < ad.block) := Lib.hid (fun ad n c e => by have := hnw1 ad n c e; omega)
  have hk41 : w.heap.size + 1 + 1 < w1.heap.size := by have := b1.size; omega
  have R1 := Lib.hid (R0.out.go b1)
  have hm1 : w1.cell? ⟨0, 0, none⟩ = some (.int .i64 mx) := (b1.cell (p := ⟨0, 0, none⟩) (by have := HZ.out; dsimp only at this ⊢; omega)).trans HM0.out
  have hs2 := HS2.out w1 hm1
  obtain ⟨A1, m1, c1, rfl, hl1, hc1, hr1⟩ := hv1
  clear hs1 hm1 HS2 hw0 y6 y7 z6 z7 zf a0 a1 a2 a3 a4 a5 HM0
  obtain ⟨a0, a1, a2, a3, a4, a5⟩ := call_at R1.out.k1
  have HV1 : Hid (NmV w1 (.slice A1 m1 c1) L1) := Lib.hid ⟨A1, m1, c1, rfl, hl1, hc1, hr1⟩
  have HL1 := Lib.hid hl1
  clear b0 b1 hc1 hr1 hl1 hlt0 hk40 hnw1
  go_wp2_with fail
  refine hs2.mono ?_
  rintro e w2 ⟨v2, rfl, hv2, hnw2, b2⟩
  have R2 := Lib.hid (R1.out.go b2)
  have HV12 := Lib.hid (HV1.out.low b2)
  obtain ⟨A2, m2, c2, rfl, hl2, hc2, hr2⟩ := hv2
  have HV2 : Hid (NmV w2 (.slice A2 m2 c2) L2) := Lib.hid ⟨A2, m2, c2, rfl, hl2, hc2, hr2⟩
  obtain ⟨W2, hW2, RD, FD⟩ := R2.out.set (A := A1) (m := m1) (k := c1) (A' := A2) (m' := m2) (k' := c2)
  have HRD := Lib.hid RD
  have HL2 := Lib.hid hl2
  have HNW2 : Hid (∀ ad n c, (Value.slice A2 m2 c2) = .slice (some ad) n c → w.heap.size + 1 + 1 < ad.block) := Lib.hid (fun ad n c e => by have := hnw2 ad n c e; omega)
  clear hs2 a0 a1 a2 a3 a4 a5 b2 hc2 hr2 hl2 hnw2 hk41
  obtain ⟨a0, a1, a2, a3, a4, a5⟩ := call_at RD.k1
  obtain ⟨x0, x1, x2, x3, x4, x5, x6, x7, xz⟩ := plan_at R2.out.k4
  clear RD
  have z1 : ((m1 : Int) == 0) = true := by have h1 := HL1.out; rw [HN1.out] at h1; simp at h1; simp [← h1]
  obtain ⟨W, hst, hfr, hbw, q0, q1, q2, q3, q4, q5, q6, q7⟩ := st8 HRD.out
  obtain ⟨e0, e1, e2, e3, e4, e5, e6, e7, hfz⟩ := plan0_at HRD.out.k2
  obtain ⟨p0, p1, p2, p3, p4, p5, p6, p7, _⟩ := plan_at HRD.out.k4
  have HBW := Lib.hid hbw; have HFR := Lib.hid hfr; have HFD := Lib.hid FD
  clear hbw hfr FD
  go_wp2_with fail
  refine bodyPost_ret (v := .tuple #[planV c (.slice A1 m1 c1) (.slice A2 m2 c2), .int .i64 1]) (by simp [results, Tryd.results10, go_sem, q0, q1, q2, q3, q4, q5, q6, q7, planV]; try rfl) rfl ?_
  exact ⟨_, _, rfl, (HV12.out.fr HFD.out (fun ad n c e h => by have := HNW1.out ad n c e; omega)).fr HFR.out (fun ad n c e h => by have := HNW1.out ad n c e; omega), (HV2.out.fr HFD.out (fun ad n c e h => by have := HNW2.out ad n c e; omega)).fr HFR.out (fun ad n c e h => by have := HNW2.out ad n c e; omega), HBW.out⟩
set_option maxRecDepth 100000 in
set_option maxHeartbeats 4000000 in
theorem read_a_okNE1 (c : CallV) (mx : Int) (hmx : w.cell? ⟨0, 0, none⟩ = some (.int .i64 mx)) (d : decide (c.op < 1) = false) (d2 : decide (12 < c.op) = false) (d3 : (c.op == 11) = false) (d4 : (c.op == 12) = false) (t3 : (c.op == 3) = false) (t5 : (c.op == 5) = false) (n5 : decide (c.op ≤ 5) = true) (e6 : (c.op == 6) = false) (e7 : (c.op == 7) = false) (e8 : (c.op == 8) = false) (l1 : List ByteArray) (hp : fSplit c.path = some l1) (hn1 : l1 ≠ []) :
    Calls Tryd.prog 10 #[callV c] w fun e w' => ∃ vf vt, e = .returned (.tuple #[planV c vf vt, .int .i64 0]) ∧ NmV w' vf ((fSplit c.path).getD []) ∧ NmV w' vt ((fSplit c.dest).getD []) ∧ Below w.heap.size w w' := by
  unfold callV
  obtain ⟨w0, hw0, b0, k1, k2, k4⟩ := open3 w (callA c) plan0 (planA c none 0 0 none 0 0) 32 47 47
  have R0 : Hid (RdAt w w0 c none 0 0 none 0 0) := Lib.hid ⟨b0, k1, k2, k4⟩
  obtain ⟨a0, a1, a2, a3, a4, a5⟩ := call_at k1
  have y6 : w0.setCell ⟨w.heap.size + 1 + 1, 6, none⟩ (.slice none 0 0) = w0 := blk_same k4 rfl
  have y7 : w0.setCell ⟨w.heap.size + 1 + 1, 7, none⟩ (.slice none 0 0) = w0 := blk_same k4 rfl
  obtain ⟨_, _, _, _, _, _, z6, z7, zf⟩ := plan_at k4
  have hm0 : w0.cell? ⟨0, 0, none⟩ = some (.int .i64 mx) := (b0.cell (p := ⟨0, 0, none⟩) (World.block_lt_of_cell? _ _ hmx)).trans hmx
  have hs1 := split_any c.path mx w0 hm0
  have hs2 := fun W (h : W.cell? ⟨0, 0, none⟩ = some (.int .i64 mx)) => split_any c.dest mx W h
  have HZ := Lib.hid (World.block_lt_of_cell? _ _ hmx)
  unfold callA plan0 planA at hw0
  have i1 : (fSplit c.path).isSome = true := by rw [hp]; rfl
  rw [i1] at hs1
  generalize (fSplit c.dest).isSome = i2 at hs2
  generalize hL1 : (fSplit c.path).getD [] = L1 at *
  generalize hL2 : (fSplit c.dest).getD [] = L2 at *
  have hne1 : L1 ≠ [] := by rw [← hL1, hp]; exact hn1
  have HS2 := Lib.hid hs2; have HM0 := Lib.hid hm0
  have HN1 := Lib.hid hne1; clear hne1
  clear hn1
  clear k1 k2 k4 hs2 hm0 hp hL1 hL2 hmx i1
  go_enter Tryd.func10, Tryd.ntmps10
  go_wp2_with fail
  refine hs1.mono ?_
  rintro e w1 ⟨v1, rfl, hv1, hnw1, b1⟩
  have hlt0 := b0.size
  have hk40 := R0.out.k4.lt
  have HNW1 : Hid (∀ ad n c, v1 = .slice (some ad) n c → w.heap.size + 1 + 1 < ad.block) := Lib.hid (fun ad n c e => by have := hnw1 ad n c e; omega)
  have hk41 : w.heap.size + 1 + 1 < w1.heap.size := by have := b1.size; omega
  have R1 := Lib.hid (R0.out.go b1)
  have hm1 : w1.cell? ⟨0, 0, none⟩ = some (.int .i64 mx) := (b1.cell (p := ⟨0, 0, none⟩) (by have := HZ.out; dsimp only at this ⊢; omega)).trans HM0.out
  have hs2 := HS2.out w1 hm1
  obtain ⟨A1, m1, c1, rfl, hl1, hc1, hr1⟩ := hv1
  clear hs1 hm1 HS2 hw0 y6 y7 z6 z7 zf a0 a1 a2 a3 a4 a5 HM0
  obtain ⟨a0, a1, a2, a3, a4, a5⟩ := call_at R1.out.k1
  have HV1 : Hid (NmV w1 (.slice A1 m1 c1) L1) := Lib.hid ⟨A1, m1, c1, rfl, hl1, hc1, hr1⟩
  have HL1 := Lib.hid hl1
  clear b0 b1 hc1 hr1 hl1 hlt0 hk40 hnw1
  go_wp2_with fail
  refine hs2.mono ?_
  rintro e w2 ⟨v2, rfl, hv2, hnw2, b2⟩
  have R2 := Lib.hid (R1.out.go b2)
  have HV12 := Lib.hid (HV1.out.low b2)
  obtain ⟨A2, m2, c2, rfl, hl2, hc2, hr2⟩ := hv2
  have HV2 : Hid (NmV w2 (.slice A2 m2 c2) L2) := Lib.hid ⟨A2, m2, c2, rfl, hl2, hc2, hr2⟩
  obtain ⟨W2, hW2, RD, FD⟩ := R2.out.set (A := A1) (m := m1) (k := c1) (A' := A2) (m' := m2) (k' := c2)
  have HRD := Lib.hid RD
  have HL2 := Lib.hid hl2
  have HNW2 : Hid (∀ ad n c, (Value.slice A2 m2 c2) = .slice (some ad) n c → w.heap.size + 1 + 1 < ad.block) := Lib.hid (fun ad n c e => by have := hnw2 ad n c e; omega)
  clear hs2 a0 a1 a2 a3 a4 a5 b2 hc2 hr2 hl2 hnw2 hk41
  obtain ⟨a0, a1, a2, a3, a4, a5⟩ := call_at RD.k1
  obtain ⟨x0, x1, x2, x3, x4, x5, x6, x7, xz⟩ := plan_at R2.out.k4
  clear RD
  have z1 : ((m1 : Int) == 0) = false := by have h1 := HL1.out; have := List.length_pos_iff.2 HN1.out; have : (m1 : Int) ≠ 0 := by omega
                                            simpa using this
  obtain ⟨W, hst, hfr, hbw, q0, q1, q2, q3, q4, q5, q6, q7⟩ := st8 HRD.out
  obtain ⟨e0, e1, e2, e3, e4, e5, e6, e7, hfz⟩ := plan0_at HRD.out.k2
  obtain ⟨p0, p1, p2, p3, p4, p5, p6, p7, _⟩ := plan_at HRD.out.k4
  have HBW := Lib.hid hbw; have HFR := Lib.hid hfr; have HFD := Lib.hid FD
  clear hbw hfr FD
  go_wp2_with fail
  refine bodyPost_ret (v := .tuple #[planV c (.slice A1 m1 c1) (.slice A2 m2 c2), .int .i64 0]) (by simp [results, Tryd.results10, go_sem, q0, q1, q2, q3, q4, q5, q6, q7, planV]; try rfl) rfl ?_
  exact ⟨_, _, rfl, (HV12.out.fr HFD.out (fun ad n c e h => by have := HNW1.out ad n c e; omega)).fr HFR.out (fun ad n c e h => by have := HNW1.out ad n c e; omega), (HV2.out.fr HFD.out (fun ad n c e h => by have := HNW2.out ad n c e; omega)).fr HFR.out (fun ad n c e h => by have := HNW2.out ad n c e; omega), HBW.out⟩
set_option maxRecDepth 100000 in
set_option maxHeartbeats 4000000 in
theorem read_c_ok (c : CallV) (mx : Int) (hmx : w.cell? ⟨0, 0, none⟩ = some (.int .i64 mx)) (d : decide (c.op < 1) = false) (d2 : decide (12 < c.op) = false) (d3 : (c.op == 11) = false) (d4 : (c.op == 12) = false) (t3 : (c.op == 3) = false) (t5 : (c.op == 5) = false) (n5 : decide (c.op ≤ 5) = false) (e6 : (c.op == 6) = false) (e7 : (c.op == 7) = false) (e8 : (c.op == 8) = false) (l1 : List ByteArray) (hp : fSplit c.path = some l1) :
    Calls Tryd.prog 10 #[callV c] w fun e w' => ∃ vf vt, e = .returned (.tuple #[planV c vf vt, .int .i64 0]) ∧ NmV w' vf ((fSplit c.path).getD []) ∧ NmV w' vt ((fSplit c.dest).getD []) ∧ Below w.heap.size w w' := by
  unfold callV
  obtain ⟨w0, hw0, b0, k1, k2, k4⟩ := open3 w (callA c) plan0 (planA c none 0 0 none 0 0) 32 47 47
  have R0 : Hid (RdAt w w0 c none 0 0 none 0 0) := Lib.hid ⟨b0, k1, k2, k4⟩
  obtain ⟨a0, a1, a2, a3, a4, a5⟩ := call_at k1
  have y6 : w0.setCell ⟨w.heap.size + 1 + 1, 6, none⟩ (.slice none 0 0) = w0 := blk_same k4 rfl
  have y7 : w0.setCell ⟨w.heap.size + 1 + 1, 7, none⟩ (.slice none 0 0) = w0 := blk_same k4 rfl
  obtain ⟨_, _, _, _, _, _, z6, z7, zf⟩ := plan_at k4
  have hm0 : w0.cell? ⟨0, 0, none⟩ = some (.int .i64 mx) := (b0.cell (p := ⟨0, 0, none⟩) (World.block_lt_of_cell? _ _ hmx)).trans hmx
  have hs1 := split_any c.path mx w0 hm0
  have hs2 := fun W (h : W.cell? ⟨0, 0, none⟩ = some (.int .i64 mx)) => split_any c.dest mx W h
  have HZ := Lib.hid (World.block_lt_of_cell? _ _ hmx)
  unfold callA plan0 planA at hw0
  have i1 : (fSplit c.path).isSome = true := by rw [hp]; rfl
  rw [i1] at hs1
  generalize (fSplit c.dest).isSome = i2 at hs2
  generalize hL1 : (fSplit c.path).getD [] = L1 at *
  generalize hL2 : (fSplit c.dest).getD [] = L2 at *
  have HS2 := Lib.hid hs2; have HM0 := Lib.hid hm0
  clear k1 k2 k4 hs2 hm0 hp hL1 hL2 hmx i1
  go_enter Tryd.func10, Tryd.ntmps10
  go_wp2_with fail
  refine hs1.mono ?_
  rintro e w1 ⟨v1, rfl, hv1, hnw1, b1⟩
  have hlt0 := b0.size
  have hk40 := R0.out.k4.lt
  have HNW1 : Hid (∀ ad n c, v1 = .slice (some ad) n c → w.heap.size + 1 + 1 < ad.block) := Lib.hid (fun ad n c e => by have := hnw1 ad n c e; omega)
  have hk41 : w.heap.size + 1 + 1 < w1.heap.size := by have := b1.size; omega
  have R1 := Lib.hid (R0.out.go b1)
  have hm1 : w1.cell? ⟨0, 0, none⟩ = some (.int .i64 mx) := (b1.cell (p := ⟨0, 0, none⟩) (by have := HZ.out; dsimp only at this ⊢; omega)).trans HM0.out
  have hs2 := HS2.out w1 hm1
  obtain ⟨A1, m1, c1, rfl, hl1, hc1, hr1⟩ := hv1
  clear hs1 hm1 HS2 hw0 y6 y7 z6 z7 zf a0 a1 a2 a3 a4 a5 HM0
  obtain ⟨a0, a1, a2, a3, a4, a5⟩ := call_at R1.out.k1
  have HV1 : Hid (NmV w1 (.slice A1 m1 c1) L1) := Lib.hid ⟨A1, m1, c1, rfl, hl1, hc1, hr1⟩
  have HL1 := Lib.hid hl1
  clear b0 b1 hc1 hr1 hl1 hlt0 hk40 hnw1
  go_wp2_with fail
  refine hs2.mono ?_
  rintro e w2 ⟨v2, rfl, hv2, hnw2, b2⟩
  have R2 := Lib.hid (R1.out.go b2)
  have HV12 := Lib.hid (HV1.out.low b2)
  obtain ⟨A2, m2, c2, rfl, hl2, hc2, hr2⟩ := hv2
  have HV2 : Hid (NmV w2 (.slice A2 m2 c2) L2) := Lib.hid ⟨A2, m2, c2, rfl, hl2, hc2, hr2⟩
  obtain ⟨W2, hW2, RD, FD⟩ := R2.out.set (A := A1) (m := m1) (k := c1) (A' := A2) (m' := m2) (k' := c2)
  have HRD := Lib.hid RD
  have HL2 := Lib.hid hl2
  have HNW2 : Hid (∀ ad n c, (Value.slice A2 m2 c2) = .slice (some ad) n c → w.heap.size + 1 + 1 < ad.block) := Lib.hid (fun ad n c e => by have := hnw2 ad n c e; omega)
  clear hs2 a0 a1 a2 a3 a4 a5 b2 hc2 hr2 hl2 hnw2 hk41
  obtain ⟨a0, a1, a2, a3, a4, a5⟩ := call_at RD.k1
  obtain ⟨x0, x1, x2, x3, x4, x5, x6, x7, xz⟩ := plan_at R2.out.k4
  clear RD
  obtain ⟨W, hst, hfr, hbw, q0, q1, q2, q3, q4, q5, q6, q7⟩ := st8 HRD.out
  obtain ⟨e0, e1, e2, e3, e4, e5, e6, e7, hfz⟩ := plan0_at HRD.out.k2
  obtain ⟨p0, p1, p2, p3, p4, p5, p6, p7, _⟩ := plan_at HRD.out.k4
  have HBW := Lib.hid hbw; have HFR := Lib.hid hfr; have HFD := Lib.hid FD
  clear hbw hfr FD
  go_wp2_with fail
  refine bodyPost_ret (v := .tuple #[planV c (.slice A1 m1 c1) (.slice A2 m2 c2), .int .i64 0]) (by simp [results, Tryd.results10, go_sem, q0, q1, q2, q3, q4, q5, q6, q7, planV]; try rfl) rfl ?_
  exact ⟨_, _, rfl, (HV12.out.fr HFD.out (fun ad n c e h => by have := HNW1.out ad n c e; omega)).fr HFR.out (fun ad n c e h => by have := HNW1.out ad n c e; omega), (HV2.out.fr HFD.out (fun ad n c e h => by have := HNW2.out ad n c e; omega)).fr HFR.out (fun ad n c e h => by have := HNW2.out ad n c e; omega), HBW.out⟩
set_option maxRecDepth 100000 in
set_option maxHeartbeats 4000000 in
theorem read_r_at (c : CallV) (mx : Int) (hmx : w.cell? ⟨0, 0, none⟩ = some (.int .i64 mx)) (d : decide (c.op < 1) = false) (d2 : decide (12 < c.op) = false) (d3 : (c.op == 11) = false) (d4 : (c.op == 12) = false) (t3 : (c.op == 3) = false) (t5 : (c.op == 5) = false) (n5 : decide (c.op ≤ 5) = false) (e6 : (c.op == 6) = true) (f1 : decide (c.at_ < 0) = true) (l1 : List ByteArray) (hp : fSplit c.path = some l1) :
    Calls Tryd.prog 10 #[callV c] w fun e w' => ∃ vf vt, e = .returned (.tuple #[planV c vf vt, .int .i64 1]) ∧ NmV w' vf ((fSplit c.path).getD []) ∧ NmV w' vt ((fSplit c.dest).getD []) ∧ Below w.heap.size w w' := by
  unfold callV
  obtain ⟨w0, hw0, b0, k1, k2, k4⟩ := open3 w (callA c) plan0 (planA c none 0 0 none 0 0) 32 47 47
  have R0 : Hid (RdAt w w0 c none 0 0 none 0 0) := Lib.hid ⟨b0, k1, k2, k4⟩
  obtain ⟨a0, a1, a2, a3, a4, a5⟩ := call_at k1
  have y6 : w0.setCell ⟨w.heap.size + 1 + 1, 6, none⟩ (.slice none 0 0) = w0 := blk_same k4 rfl
  have y7 : w0.setCell ⟨w.heap.size + 1 + 1, 7, none⟩ (.slice none 0 0) = w0 := blk_same k4 rfl
  obtain ⟨_, _, _, _, _, _, z6, z7, zf⟩ := plan_at k4
  have hm0 : w0.cell? ⟨0, 0, none⟩ = some (.int .i64 mx) := (b0.cell (p := ⟨0, 0, none⟩) (World.block_lt_of_cell? _ _ hmx)).trans hmx
  have hs1 := split_any c.path mx w0 hm0
  have hs2 := fun W (h : W.cell? ⟨0, 0, none⟩ = some (.int .i64 mx)) => split_any c.dest mx W h
  have HZ := Lib.hid (World.block_lt_of_cell? _ _ hmx)
  unfold callA plan0 planA at hw0
  have i1 : (fSplit c.path).isSome = true := by rw [hp]; rfl
  rw [i1] at hs1
  generalize (fSplit c.dest).isSome = i2 at hs2
  generalize hL1 : (fSplit c.path).getD [] = L1 at *
  generalize hL2 : (fSplit c.dest).getD [] = L2 at *
  have HS2 := Lib.hid hs2; have HM0 := Lib.hid hm0
  clear k1 k2 k4 hs2 hm0 hp hL1 hL2 hmx i1
  go_enter Tryd.func10, Tryd.ntmps10
  go_wp2_with fail
  refine hs1.mono ?_
  rintro e w1 ⟨v1, rfl, hv1, hnw1, b1⟩
  have hlt0 := b0.size
  have hk40 := R0.out.k4.lt
  have HNW1 : Hid (∀ ad n c, v1 = .slice (some ad) n c → w.heap.size + 1 + 1 < ad.block) := Lib.hid (fun ad n c e => by have := hnw1 ad n c e; omega)
  have hk41 : w.heap.size + 1 + 1 < w1.heap.size := by have := b1.size; omega
  have R1 := Lib.hid (R0.out.go b1)
  have hm1 : w1.cell? ⟨0, 0, none⟩ = some (.int .i64 mx) := (b1.cell (p := ⟨0, 0, none⟩) (by have := HZ.out; dsimp only at this ⊢; omega)).trans HM0.out
  have hs2 := HS2.out w1 hm1
  obtain ⟨A1, m1, c1, rfl, hl1, hc1, hr1⟩ := hv1
  clear hs1 hm1 HS2 hw0 y6 y7 z6 z7 zf a0 a1 a2 a3 a4 a5 HM0
  obtain ⟨a0, a1, a2, a3, a4, a5⟩ := call_at R1.out.k1
  have HV1 : Hid (NmV w1 (.slice A1 m1 c1) L1) := Lib.hid ⟨A1, m1, c1, rfl, hl1, hc1, hr1⟩
  have HL1 := Lib.hid hl1
  clear b0 b1 hc1 hr1 hl1 hlt0 hk40 hnw1
  go_wp2_with fail
  refine hs2.mono ?_
  rintro e w2 ⟨v2, rfl, hv2, hnw2, b2⟩
  have R2 := Lib.hid (R1.out.go b2)
  have HV12 := Lib.hid (HV1.out.low b2)
  obtain ⟨A2, m2, c2, rfl, hl2, hc2, hr2⟩ := hv2
  have HV2 : Hid (NmV w2 (.slice A2 m2 c2) L2) := Lib.hid ⟨A2, m2, c2, rfl, hl2, hc2, hr2⟩
  obtain ⟨W2, hW2, RD, FD⟩ := R2.out.set (A := A1) (m := m1) (k := c1) (A' := A2) (m' := m2) (k' := c2)
  have HRD := Lib.hid RD
  have HL2 := Lib.hid hl2
  have HNW2 : Hid (∀ ad n c, (Value.slice A2 m2 c2) = .slice (some ad) n c → w.heap.size + 1 + 1 < ad.block) := Lib.hid (fun ad n c e => by have := hnw2 ad n c e; omega)
  clear hs2 a0 a1 a2 a3 a4 a5 b2 hc2 hr2 hl2 hnw2 hk41
  obtain ⟨a0, a1, a2, a3, a4, a5⟩ := call_at RD.k1
  obtain ⟨x0, x1, x2, x3, x4, x5, x6, x7, xz⟩ := plan_at R2.out.k4
  clear RD
  obtain ⟨W, hst, hfr, hbw, q0, q1, q2, q3, q4, q5, q6, q7⟩ := st8 HRD.out
  obtain ⟨e0, e1, e2, e3, e4, e5, e6, e7, hfz⟩ := plan0_at HRD.out.k2
  obtain ⟨p0, p1, p2, p3, p4, p5, p6, p7, _⟩ := plan_at HRD.out.k4
  have HBW := Lib.hid hbw; have HFR := Lib.hid hfr; have HFD := Lib.hid FD
  clear hbw hfr FD
  go_wp2_with fail
  refine bodyPost_ret (v := .tuple #[planV c (.slice A1 m1 c1) (.slice A2 m2 c2), .int .i64 1]) (by simp [results, Tryd.results10, go_sem, q0, q1, q2, q3, q4, q5, q6, q7, planV]; try rfl) rfl ?_
  exact ⟨_, _, rfl, (HV12.out.fr HFD.out (fun ad n c e h => by have := HNW1.out ad n c e; omega)).fr HFR.out (fun ad n c e h => by have := HNW1.out ad n c e; omega), (HV2.out.fr HFD.out (fun ad n c e h => by have := HNW2.out ad n c e; omega)).fr HFR.out (fun ad n c e h => by have := HNW2.out ad n c e; omega), HBW.out⟩
set_option maxRecDepth 100000 in
set_option maxHeartbeats 4000000 in
theorem read_r_n0 (c : CallV) (mx : Int) (hmx : w.cell? ⟨0, 0, none⟩ = some (.int .i64 mx)) (d : decide (c.op < 1) = false) (d2 : decide (12 < c.op) = false) (d3 : (c.op == 11) = false) (d4 : (c.op == 12) = false) (t3 : (c.op == 3) = false) (t5 : (c.op == 5) = false) (n5 : decide (c.op ≤ 5) = false) (e6 : (c.op == 6) = true) (f1 : decide (c.at_ < 0) = false) (f2 : decide (c.n < 0) = true) (l1 : List ByteArray) (hp : fSplit c.path = some l1) :
    Calls Tryd.prog 10 #[callV c] w fun e w' => ∃ vf vt, e = .returned (.tuple #[planV c vf vt, .int .i64 1]) ∧ NmV w' vf ((fSplit c.path).getD []) ∧ NmV w' vt ((fSplit c.dest).getD []) ∧ Below w.heap.size w w' := by
  unfold callV
  obtain ⟨w0, hw0, b0, k1, k2, k4⟩ := open3 w (callA c) plan0 (planA c none 0 0 none 0 0) 32 47 47
  have R0 : Hid (RdAt w w0 c none 0 0 none 0 0) := Lib.hid ⟨b0, k1, k2, k4⟩
  obtain ⟨a0, a1, a2, a3, a4, a5⟩ := call_at k1
  have y6 : w0.setCell ⟨w.heap.size + 1 + 1, 6, none⟩ (.slice none 0 0) = w0 := blk_same k4 rfl
  have y7 : w0.setCell ⟨w.heap.size + 1 + 1, 7, none⟩ (.slice none 0 0) = w0 := blk_same k4 rfl
  obtain ⟨_, _, _, _, _, _, z6, z7, zf⟩ := plan_at k4
  have hm0 : w0.cell? ⟨0, 0, none⟩ = some (.int .i64 mx) := (b0.cell (p := ⟨0, 0, none⟩) (World.block_lt_of_cell? _ _ hmx)).trans hmx
  have hs1 := split_any c.path mx w0 hm0
  have hs2 := fun W (h : W.cell? ⟨0, 0, none⟩ = some (.int .i64 mx)) => split_any c.dest mx W h
  have HZ := Lib.hid (World.block_lt_of_cell? _ _ hmx)
  unfold callA plan0 planA at hw0
  have i1 : (fSplit c.path).isSome = true := by rw [hp]; rfl
  rw [i1] at hs1
  generalize (fSplit c.dest).isSome = i2 at hs2
  generalize hL1 : (fSplit c.path).getD [] = L1 at *
  generalize hL2 : (fSplit c.dest).getD [] = L2 at *
  have HS2 := Lib.hid hs2; have HM0 := Lib.hid hm0
  clear k1 k2 k4 hs2 hm0 hp hL1 hL2 hmx i1
  go_enter Tryd.func10, Tryd.ntmps10
  go_wp2_with fail
  refine hs1.mono ?_
  rintro e w1 ⟨v1, rfl, hv1, hnw1, b1⟩
  have hlt0 := b0.size
  have hk40 := R0.out.k4.lt
  have HNW1 : Hid (∀ ad n c, v1 = .slice (some ad) n c → w.heap.size + 1 + 1 < ad.block) := Lib.hid (fun ad n c e => by have := hnw1 ad n c e; omega)
  have hk41 : w.heap.size + 1 + 1 < w1.heap.size := by have := b1.size; omega
  have R1 := Lib.hid (R0.out.go b1)
  have hm1 : w1.cell? ⟨0, 0, none⟩ = some (.int .i64 mx) := (b1.cell (p := ⟨0, 0, none⟩) (by have := HZ.out; dsimp only at this ⊢; omega)).trans HM0.out
  have hs2 := HS2.out w1 hm1
  obtain ⟨A1, m1, c1, rfl, hl1, hc1, hr1⟩ := hv1
  clear hs1 hm1 HS2 hw0 y6 y7 z6 z7 zf a0 a1 a2 a3 a4 a5 HM0
  obtain ⟨a0, a1, a2, a3, a4, a5⟩ := call_at R1.out.k1
  have HV1 : Hid (NmV w1 (.slice A1 m1 c1) L1) := Lib.hid ⟨A1, m1, c1, rfl, hl1, hc1, hr1⟩
  have HL1 := Lib.hid hl1
  clear b0 b1 hc1 hr1 hl1 hlt0 hk40 hnw1
  go_wp2_with fail
  refine hs2.mono ?_
  rintro e w2 ⟨v2, rfl, hv2, hnw2, b2⟩
  have R2 := Lib.hid (R1.out.go b2)
  have HV12 := Lib.hid (HV1.out.low b2)
  obtain ⟨A2, m2, c2, rfl, hl2, hc2, hr2⟩ := hv2
  have HV2 : Hid (NmV w2 (.slice A2 m2 c2) L2) := Lib.hid ⟨A2, m2, c2, rfl, hl2, hc2, hr2⟩
  obtain ⟨W2, hW2, RD, FD⟩ := R2.out.set (A := A1) (m := m1) (k := c1) (A' := A2) (m' := m2) (k' := c2)
  have HRD := Lib.hid RD
  have HL2 := Lib.hid hl2
  have HNW2 : Hid (∀ ad n c, (Value.slice A2 m2 c2) = .slice (some ad) n c → w.heap.size + 1 + 1 < ad.block) := Lib.hid (fun ad n c e => by have := hnw2 ad n c e; omega)
  clear hs2 a0 a1 a2 a3 a4 a5 b2 hc2 hr2 hl2 hnw2 hk41
  obtain ⟨a0, a1, a2, a3, a4, a5⟩ := call_at RD.k1
  obtain ⟨x0, x1, x2, x3, x4, x5, x6, x7, xz⟩ := plan_at R2.out.k4
  clear RD
  obtain ⟨W, hst, hfr, hbw, q0, q1, q2, q3, q4, q5, q6, q7⟩ := st8 HRD.out
  obtain ⟨e0, e1, e2, e3, e4, e5, e6, e7, hfz⟩ := plan0_at HRD.out.k2
  obtain ⟨p0, p1, p2, p3, p4, p5, p6, p7, _⟩ := plan_at HRD.out.k4
  have HBW := Lib.hid hbw; have HFR := Lib.hid hfr; have HFD := Lib.hid FD
  clear hbw hfr FD
  go_wp2_with fail
  refine bodyPost_ret (v := .tuple #[planV c (.slice A1 m1 c1) (.slice A2 m2 c2), .int .i64 1]) (by simp [results, Tryd.results10, go_sem, q0, q1, q2, q3, q4, q5, q6, q7, planV]; try rfl) rfl ?_
  exact ⟨_, _, rfl, (HV12.out.fr HFD.out (fun ad n c e h => by have := HNW1.out ad n c e; omega)).fr HFR.out (fun ad n c e h => by have := HNW1.out ad n c e; omega), (HV2.out.fr HFD.out (fun ad n c e h => by have := HNW2.out ad n c e; omega)).fr HFR.out (fun ad n c e h => by have := HNW2.out ad n c e; omega), HBW.out⟩
set_option maxRecDepth 100000 in
set_option maxHeartbeats 4000000 in
theorem read_r_n1 (c : CallV) (mx : Int) (hmx : w.cell? ⟨0, 0, none⟩ = some (.int .i64 mx)) (d : decide (c.op < 1) = false) (d2 : decide (12 < c.op) = false) (d3 : (c.op == 11) = false) (d4 : (c.op == 12) = false) (t3 : (c.op == 3) = false) (t5 : (c.op == 5) = false) (n5 : decide (c.op ≤ 5) = false) (e6 : (c.op == 6) = true) (f1 : decide (c.at_ < 0) = false) (f2 : decide (c.n < 0) = false) (f3 : decide (6144 < c.n) = true) (l1 : List ByteArray) (hp : fSplit c.path = some l1) :
    Calls Tryd.prog 10 #[callV c] w fun e w' => ∃ vf vt, e = .returned (.tuple #[planV c vf vt, .int .i64 1]) ∧ NmV w' vf ((fSplit c.path).getD []) ∧ NmV w' vt ((fSplit c.dest).getD []) ∧ Below w.heap.size w w' := by
  unfold callV
  obtain ⟨w0, hw0, b0, k1, k2, k4⟩ := open3 w (callA c) plan0 (planA c none 0 0 none 0 0) 32 47 47
  have R0 : Hid (RdAt w w0 c none 0 0 none 0 0) := Lib.hid ⟨b0, k1, k2, k4⟩
  obtain ⟨a0, a1, a2, a3, a4, a5⟩ := call_at k1
  have y6 : w0.setCell ⟨w.heap.size + 1 + 1, 6, none⟩ (.slice none 0 0) = w0 := blk_same k4 rfl
  have y7 : w0.setCell ⟨w.heap.size + 1 + 1, 7, none⟩ (.slice none 0 0) = w0 := blk_same k4 rfl
  obtain ⟨_, _, _, _, _, _, z6, z7, zf⟩ := plan_at k4
  have hm0 : w0.cell? ⟨0, 0, none⟩ = some (.int .i64 mx) := (b0.cell (p := ⟨0, 0, none⟩) (World.block_lt_of_cell? _ _ hmx)).trans hmx
  have hs1 := split_any c.path mx w0 hm0
  have hs2 := fun W (h : W.cell? ⟨0, 0, none⟩ = some (.int .i64 mx)) => split_any c.dest mx W h
  have HZ := Lib.hid (World.block_lt_of_cell? _ _ hmx)
  unfold callA plan0 planA at hw0
  have i1 : (fSplit c.path).isSome = true := by rw [hp]; rfl
  rw [i1] at hs1
  generalize (fSplit c.dest).isSome = i2 at hs2
  generalize hL1 : (fSplit c.path).getD [] = L1 at *
  generalize hL2 : (fSplit c.dest).getD [] = L2 at *
  have HS2 := Lib.hid hs2; have HM0 := Lib.hid hm0
  clear k1 k2 k4 hs2 hm0 hp hL1 hL2 hmx i1
  go_enter Tryd.func10, Tryd.ntmps10
  go_wp2_with fail
  refine hs1.mono ?_
  rintro e w1 ⟨v1, rfl, hv1, hnw1, b1⟩
  have hlt0 := b0.size
  have hk40 := R0.out.k4.lt
  have HNW1 : Hid (∀ ad n c, v1 = .slice (some ad) n c → w.heap.size + 1 + 1 < ad.block) := Lib.hid (fun ad n c e => by have := hnw1 ad n c e; omega)
  have hk41 : w.heap.size + 1 + 1 < w1.heap.size := by have := b1.size; omega
  have R1 := Lib.hid (R0.out.go b1)
  have hm1 : w1.cell? ⟨0, 0, none⟩ = some (.int .i64 mx) := (b1.cell (p := ⟨0, 0, none⟩) (by have := HZ.out; dsimp only at this ⊢; omega)).trans HM0.out
  have hs2 := HS2.out w1 hm1
  obtain ⟨A1, m1, c1, rfl, hl1, hc1, hr1⟩ := hv1
  clear hs1 hm1 HS2 hw0 y6 y7 z6 z7 zf a0 a1 a2 a3 a4 a5 HM0
  obtain ⟨a0, a1, a2, a3, a4, a5⟩ := call_at R1.out.k1
  have HV1 : Hid (NmV w1 (.slice A1 m1 c1) L1) := Lib.hid ⟨A1, m1, c1, rfl, hl1, hc1, hr1⟩
  have HL1 := Lib.hid hl1
  clear b0 b1 hc1 hr1 hl1 hlt0 hk40 hnw1
  go_wp2_with fail
  refine hs2.mono ?_
  rintro e w2 ⟨v2, rfl, hv2, hnw2, b2⟩
  have R2 := Lib.hid (R1.out.go b2)
  have HV12 := Lib.hid (HV1.out.low b2)
  obtain ⟨A2, m2, c2, rfl, hl2, hc2, hr2⟩ := hv2
  have HV2 : Hid (NmV w2 (.slice A2 m2 c2) L2) := Lib.hid ⟨A2, m2, c2, rfl, hl2, hc2, hr2⟩
  obtain ⟨W2, hW2, RD, FD⟩ := R2.out.set (A := A1) (m := m1) (k := c1) (A' := A2) (m' := m2) (k' := c2)
  have HRD := Lib.hid RD
  have HL2 := Lib.hid hl2
  have HNW2 : Hid (∀ ad n c, (Value.slice A2 m2 c2) = .slice (some ad) n c → w.heap.size + 1 + 1 < ad.block) := Lib.hid (fun ad n c e => by have := hnw2 ad n c e; omega)
  clear hs2 a0 a1 a2 a3 a4 a5 b2 hc2 hr2 hl2 hnw2 hk41
  obtain ⟨a0, a1, a2, a3, a4, a5⟩ := call_at RD.k1
  obtain ⟨x0, x1, x2, x3, x4, x5, x6, x7, xz⟩ := plan_at R2.out.k4
  clear RD
  obtain ⟨W, hst, hfr, hbw, q0, q1, q2, q3, q4, q5, q6, q7⟩ := st8 HRD.out
  obtain ⟨e0, e1, e2, e3, e4, e5, e6, e7, hfz⟩ := plan0_at HRD.out.k2
  obtain ⟨p0, p1, p2, p3, p4, p5, p6, p7, _⟩ := plan_at HRD.out.k4
  have HBW := Lib.hid hbw; have HFR := Lib.hid hfr; have HFD := Lib.hid FD
  clear hbw hfr FD
  go_wp2_with fail
  refine bodyPost_ret (v := .tuple #[planV c (.slice A1 m1 c1) (.slice A2 m2 c2), .int .i64 1]) (by simp [results, Tryd.results10, go_sem, q0, q1, q2, q3, q4, q5, q6, q7, planV]; try rfl) rfl ?_
  exact ⟨_, _, rfl, (HV12.out.fr HFD.out (fun ad n c e h => by have := HNW1.out ad n c e; omega)).fr HFR.out (fun ad n c e h => by have := HNW1.out ad n c e; omega), (HV2.out.fr HFD.out (fun ad n c e h => by have := HNW2.out ad n c e; omega)).fr HFR.out (fun ad n c e h => by have := HNW2.out ad n c e; omega), HBW.out⟩
set_option maxRecDepth 100000 in
set_option maxHeartbeats 4000000 in
theorem read_r_ok (c : CallV) (mx : Int) (hmx : w.cell? ⟨0, 0, none⟩ = some (.int .i64 mx)) (d : decide (c.op < 1) = false) (d2 : decide (12 < c.op) = false) (d3 : (c.op == 11) = false) (d4 : (c.op == 12) = false) (t3 : (c.op == 3) = false) (t5 : (c.op == 5) = false) (n5 : decide (c.op ≤ 5) = false) (e6 : (c.op == 6) = true) (e7 : (c.op == 7) = false) (e8 : (c.op == 8) = false) (f1 : decide (c.at_ < 0) = false) (f2 : decide (c.n < 0) = false) (f3 : decide (6144 < c.n) = false) (l1 : List ByteArray) (hp : fSplit c.path = some l1) :
    Calls Tryd.prog 10 #[callV c] w fun e w' => ∃ vf vt, e = .returned (.tuple #[planV c vf vt, .int .i64 0]) ∧ NmV w' vf ((fSplit c.path).getD []) ∧ NmV w' vt ((fSplit c.dest).getD []) ∧ Below w.heap.size w w' := by
  unfold callV
  obtain ⟨w0, hw0, b0, k1, k2, k4⟩ := open3 w (callA c) plan0 (planA c none 0 0 none 0 0) 32 47 47
  have R0 : Hid (RdAt w w0 c none 0 0 none 0 0) := Lib.hid ⟨b0, k1, k2, k4⟩
  obtain ⟨a0, a1, a2, a3, a4, a5⟩ := call_at k1
  have y6 : w0.setCell ⟨w.heap.size + 1 + 1, 6, none⟩ (.slice none 0 0) = w0 := blk_same k4 rfl
  have y7 : w0.setCell ⟨w.heap.size + 1 + 1, 7, none⟩ (.slice none 0 0) = w0 := blk_same k4 rfl
  obtain ⟨_, _, _, _, _, _, z6, z7, zf⟩ := plan_at k4
  have hm0 : w0.cell? ⟨0, 0, none⟩ = some (.int .i64 mx) := (b0.cell (p := ⟨0, 0, none⟩) (World.block_lt_of_cell? _ _ hmx)).trans hmx
  have hs1 := split_any c.path mx w0 hm0
  have hs2 := fun W (h : W.cell? ⟨0, 0, none⟩ = some (.int .i64 mx)) => split_any c.dest mx W h
  have HZ := Lib.hid (World.block_lt_of_cell? _ _ hmx)
  unfold callA plan0 planA at hw0
  have i1 : (fSplit c.path).isSome = true := by rw [hp]; rfl
  rw [i1] at hs1
  generalize (fSplit c.dest).isSome = i2 at hs2
  generalize hL1 : (fSplit c.path).getD [] = L1 at *
  generalize hL2 : (fSplit c.dest).getD [] = L2 at *
  have HS2 := Lib.hid hs2; have HM0 := Lib.hid hm0
  clear k1 k2 k4 hs2 hm0 hp hL1 hL2 hmx i1
  go_enter Tryd.func10, Tryd.ntmps10
  go_wp2_with fail
  refine hs1.mono ?_
  rintro e w1 ⟨v1, rfl, hv1, hnw1, b1⟩
  have hlt0 := b0.size
  have hk40 := R0.out.k4.lt
  have HNW1 : Hid (∀ ad n c, v1 = .slice (some ad) n c → w.heap.size + 1 + 1 < ad.block) := Lib.hid (fun ad n c e => by have := hnw1 ad n c e; omega)
  have hk41 : w.heap.size + 1 + 1 < w1.heap.size := by have := b1.size; omega
  have R1 := Lib.hid (R0.out.go b1)
  have hm1 : w1.cell? ⟨0, 0, none⟩ = some (.int .i64 mx) := (b1.cell (p := ⟨0, 0, none⟩) (by have := HZ.out; dsimp only at this ⊢; omega)).trans HM0.out
  have hs2 := HS2.out w1 hm1
  obtain ⟨A1, m1, c1, rfl, hl1, hc1, hr1⟩ := hv1
  clear hs1 hm1 HS2 hw0 y6 y7 z6 z7 zf a0 a1 a2 a3 a4 a5 HM0
  obtain ⟨a0, a1, a2, a3, a4, a5⟩ := call_at R1.out.k1
  have HV1 : Hid (NmV w1 (.slice A1 m1 c1) L1) := Lib.hid ⟨A1, m1, c1, rfl, hl1, hc1, hr1⟩
  have HL1 := Lib.hid hl1
  clear b0 b1 hc1 hr1 hl1 hlt0 hk40 hnw1
  go_wp2_with fail
  refine hs2.mono ?_
  rintro e w2 ⟨v2, rfl, hv2, hnw2, b2⟩
  have R2 := Lib.hid (R1.out.go b2)
  have HV12 := Lib.hid (HV1.out.low b2)
  obtain ⟨A2, m2, c2, rfl, hl2, hc2, hr2⟩ := hv2
  have HV2 : Hid (NmV w2 (.slice A2 m2 c2) L2) := Lib.hid ⟨A2, m2, c2, rfl, hl2, hc2, hr2⟩
  obtain ⟨W2, hW2, RD, FD⟩ := R2.out.set (A := A1) (m := m1) (k := c1) (A' := A2) (m' := m2) (k' := c2)
  have HRD := Lib.hid RD
  have HL2 := Lib.hid hl2
  have HNW2 : Hid (∀ ad n c, (Value.slice A2 m2 c2) = .slice (some ad) n c → w.heap.size + 1 + 1 < ad.block) := Lib.hid (fun ad n c e => by have := hnw2 ad n c e; omega)
  clear hs2 a0 a1 a2 a3 a4 a5 b2 hc2 hr2 hl2 hnw2 hk41
  obtain ⟨a0, a1, a2, a3, a4, a5⟩ := call_at RD.k1
  obtain ⟨x0, x1, x2, x3, x4, x5, x6, x7, xz⟩ := plan_at R2.out.k4
  clear RD
  obtain ⟨W, hst, hfr, hbw, q0, q1, q2, q3, q4, q5, q6, q7⟩ := st8 HRD.out
  obtain ⟨e0, e1, e2, e3, e4, e5, e6, e7, hfz⟩ := plan0_at HRD.out.k2
  obtain ⟨p0, p1, p2, p3, p4, p5, p6, p7, _⟩ := plan_at HRD.out.k4
  have HBW := Lib.hid hbw; have HFR := Lib.hid hfr; have HFD := Lib.hid FD
  clear hbw hfr FD
  go_wp2_with fail
  refine bodyPost_ret (v := .tuple #[planV c (.slice A1 m1 c1) (.slice A2 m2 c2), .int .i64 0]) (by simp [results, Tryd.results10, go_sem, q0, q1, q2, q3, q4, q5, q6, q7, planV]; try rfl) rfl ?_
  exact ⟨_, _, rfl, (HV12.out.fr HFD.out (fun ad n c e h => by have := HNW1.out ad n c e; omega)).fr HFR.out (fun ad n c e h => by have := HNW1.out ad n c e; omega), (HV2.out.fr HFD.out (fun ad n c e h => by have := HNW2.out ad n c e; omega)).fr HFR.out (fun ad n c e h => by have := HNW2.out ad n c e; omega), HBW.out⟩
set_option maxRecDepth 100000 in
set_option maxHeartbeats 4000000 in
theorem read_w_at (c : CallV) (mx : Int) (hmx : w.cell? ⟨0, 0, none⟩ = some (.int .i64 mx)) (d : decide (c.op < 1) = false) (d2 : decide (12 < c.op) = false) (d3 : (c.op == 11) = false) (d4 : (c.op == 12) = false) (t3 : (c.op == 3) = false) (t5 : (c.op == 5) = false) (n5 : decide (c.op ≤ 5) = false) (e6 : (c.op == 6) = false) (e7 : (c.op == 7) = true) (f1 : decide (c.at_ < 0) = true) (l1 : List ByteArray) (hp : fSplit c.path = some l1) :
    Calls Tryd.prog 10 #[callV c] w fun e w' => ∃ vf vt, e = .returned (.tuple #[planV c vf vt, .int .i64 1]) ∧ NmV w' vf ((fSplit c.path).getD []) ∧ NmV w' vt ((fSplit c.dest).getD []) ∧ Below w.heap.size w w' := by
  unfold callV
  obtain ⟨w0, hw0, b0, k1, k2, k4⟩ := open3 w (callA c) plan0 (planA c none 0 0 none 0 0) 32 47 47
  have R0 : Hid (RdAt w w0 c none 0 0 none 0 0) := Lib.hid ⟨b0, k1, k2, k4⟩
  obtain ⟨a0, a1, a2, a3, a4, a5⟩ := call_at k1
  have y6 : w0.setCell ⟨w.heap.size + 1 + 1, 6, none⟩ (.slice none 0 0) = w0 := blk_same k4 rfl
  have y7 : w0.setCell ⟨w.heap.size + 1 + 1, 7, none⟩ (.slice none 0 0) = w0 := blk_same k4 rfl
  obtain ⟨_, _, _, _, _, _, z6, z7, zf⟩ := plan_at k4
  have hm0 : w0.cell? ⟨0, 0, none⟩ = some (.int .i64 mx) := (b0.cell (p := ⟨0, 0, none⟩) (World.block_lt_of_cell? _ _ hmx)).trans hmx
  have hs1 := split_any c.path mx w0 hm0
  have hs2 := fun W (h : W.cell? ⟨0, 0, none⟩ = some (.int .i64 mx)) => split_any c.dest mx W h
  have HZ := Lib.hid (World.block_lt_of_cell? _ _ hmx)
  unfold callA plan0 planA at hw0
  have i1 : (fSplit c.path).isSome = true := by rw [hp]; rfl
  rw [i1] at hs1
  generalize (fSplit c.dest).isSome = i2 at hs2
  generalize hL1 : (fSplit c.path).getD [] = L1 at *
  generalize hL2 : (fSplit c.dest).getD [] = L2 at *
  have HS2 := Lib.hid hs2; have HM0 := Lib.hid hm0
  clear k1 k2 k4 hs2 hm0 hp hL1 hL2 hmx i1
  go_enter Tryd.func10, Tryd.ntmps10
  go_wp2_with fail
  refine hs1.mono ?_
  rintro e w1 ⟨v1, rfl, hv1, hnw1, b1⟩
  have hlt0 := b0.size
  have hk40 := R0.out.k4.lt
  have HNW1 : Hid (∀ ad n c, v1 = .slice (some ad) n c → w.heap.size + 1 + 1 < ad.block) := Lib.hid (fun ad n c e => by have := hnw1 ad n c e; omega)
  have hk41 : w.heap.size + 1 + 1 < w1.heap.size := by have := b1.size; omega
  have R1 := Lib.hid (R0.out.go b1)
  have hm1 : w1.cell? ⟨0, 0, none⟩ = some (.int .i64 mx) := (b1.cell (p := ⟨0, 0, none⟩) (by have := HZ.out; dsimp only at this ⊢; omega)).trans HM0.out
  have hs2 := HS2.out w1 hm1
  obtain ⟨A1, m1, c1, rfl, hl1, hc1, hr1⟩ := hv1
  clear hs1 hm1 HS2 hw0 y6 y7 z6 z7 zf a0 a1 a2 a3 a4 a5 HM0
  obtain ⟨a0, a1, a2, a3, a4, a5⟩ := call_at R1.out.k1
  have HV1 : Hid (NmV w1 (.slice A1 m1 c1) L1) := Lib.hid ⟨A1, m1, c1, rfl, hl1, hc1, hr1⟩
  have HL1 := Lib.hid hl1
  clear b0 b1 hc1 hr1 hl1 hlt0 hk40 hnw1
  go_wp2_with fail
  refine hs2.mono ?_
  rintro e w2 ⟨v2, rfl, hv2, hnw2, b2⟩
  have R2 := Lib.hid (R1.out.go b2)
  have HV12 := Lib.hid (HV1.out.low b2)
  obtain ⟨A2, m2, c2, rfl, hl2, hc2, hr2⟩ := hv2
  have HV2 : Hid (NmV w2 (.slice A2 m2 c2) L2) := Lib.hid ⟨A2, m2, c2, rfl, hl2, hc2, hr2⟩
  obtain ⟨W2, hW2, RD, FD⟩ := R2.out.set (A := A1) (m := m1) (k := c1) (A' := A2) (m' := m2) (k' := c2)
  have HRD := Lib.hid RD
  have HL2 := Lib.hid hl2
  have HNW2 : Hid (∀ ad n c, (Value.slice A2 m2 c2) = .slice (some ad) n c → w.heap.size + 1 + 1 < ad.block) := Lib.hid (fun ad n c e => by have := hnw2 ad n c e; omega)
  clear hs2 a0 a1 a2 a3 a4 a5 b2 hc2 hr2 hl2 hnw2 hk41
  obtain ⟨a0, a1, a2, a3, a4, a5⟩ := call_at RD.k1
  obtain ⟨x0, x1, x2, x3, x4, x5, x6, x7, xz⟩ := plan_at R2.out.k4
  clear RD
  obtain ⟨W, hst, hfr, hbw, q0, q1, q2, q3, q4, q5, q6, q7⟩ := st8 HRD.out
  obtain ⟨e0, e1, e2, e3, e4, e5, e6, e7, hfz⟩ := plan0_at HRD.out.k2
  obtain ⟨p0, p1, p2, p3, p4, p5, p6, p7, _⟩ := plan_at HRD.out.k4
  have HBW := Lib.hid hbw; have HFR := Lib.hid hfr; have HFD := Lib.hid FD
  clear hbw hfr FD
  go_wp2_with fail
  refine bodyPost_ret (v := .tuple #[planV c (.slice A1 m1 c1) (.slice A2 m2 c2), .int .i64 1]) (by simp [results, Tryd.results10, go_sem, q0, q1, q2, q3, q4, q5, q6, q7, planV]; try rfl) rfl ?_
  exact ⟨_, _, rfl, (HV12.out.fr HFD.out (fun ad n c e h => by have := HNW1.out ad n c e; omega)).fr HFR.out (fun ad n c e h => by have := HNW1.out ad n c e; omega), (HV2.out.fr HFD.out (fun ad n c e h => by have := HNW2.out ad n c e; omega)).fr HFR.out (fun ad n c e h => by have := HNW2.out ad n c e; omega), HBW.out⟩
set_option maxRecDepth 100000 in
set_option maxHeartbeats 4000000 in
theorem read_w_a1 (c : CallV) (mx : Int) (hmx : w.cell? ⟨0, 0, none⟩ = some (.int .i64 mx)) (d : decide (c.op < 1) = false) (d2 : decide (12 < c.op) = false) (d3 : (c.op == 11) = false) (d4 : (c.op == 12) = false) (t3 : (c.op == 3) = false) (t5 : (c.op == 5) = false) (n5 : decide (c.op ≤ 5) = false) (e6 : (c.op == 6) = false) (e7 : (c.op == 7) = true) (e8 : (c.op == 8) = false) (f1 : decide (c.at_ < 0) = false) (f4 : decide (6144 < c.at_) = true) (l1 : List ByteArray) (hp : fSplit c.path = some l1) :
    Calls Tryd.prog 10 #[callV c] w fun e w' => ∃ vf vt, e = .returned (.tuple #[planV c vf vt, .int .i64 11]) ∧ NmV w' vf ((fSplit c.path).getD []) ∧ NmV w' vt ((fSplit c.dest).getD []) ∧ Below w.heap.size w w' := by
  unfold callV
  obtain ⟨w0, hw0, b0, k1, k2, k4⟩ := open3 w (callA c) plan0 (planA c none 0 0 none 0 0) 32 47 47
  have R0 : Hid (RdAt w w0 c none 0 0 none 0 0) := Lib.hid ⟨b0, k1, k2, k4⟩
  obtain ⟨a0, a1, a2, a3, a4, a5⟩ := call_at k1
  have y6 : w0.setCell ⟨w.heap.size + 1 + 1, 6, none⟩ (.slice none 0 0) = w0 := blk_same k4 rfl
  have y7 : w0.setCell ⟨w.heap.size + 1 + 1, 7, none⟩ (.slice none 0 0) = w0 := blk_same k4 rfl
  obtain ⟨_, _, _, _, _, _, z6, z7, zf⟩ := plan_at k4
  have hm0 : w0.cell? ⟨0, 0, none⟩ = some (.int .i64 mx) := (b0.cell (p := ⟨0, 0, none⟩) (World.block_lt_of_cell? _ _ hmx)).trans hmx
  have hs1 := split_any c.path mx w0 hm0
  have hs2 := fun W (h : W.cell? ⟨0, 0, none⟩ = some (.int .i64 mx)) => split_any c.dest mx W h
  have HZ := Lib.hid (World.block_lt_of_cell? _ _ hmx)
  unfold callA plan0 planA at hw0
  have i1 : (fSplit c.path).isSome = true := by rw [hp]; rfl
  rw [i1] at hs1
  generalize (fSplit c.dest).isSome = i2 at hs2
  generalize hL1 : (fSplit c.path).getD [] = L1 at *
  generalize hL2 : (fSplit c.dest).getD [] = L2 at *
  have HS2 := Lib.hid hs2; have HM0 := Lib.hid hm0
  clear k1 k2 k4 hs2 hm0 hp hL1 hL2 hmx i1
  go_enter Tryd.func10, Tryd.ntmps10
  go_wp2_with fail
  refine hs1.mono ?_
  rintro e w1 ⟨v1, rfl, hv1, hnw1, b1⟩
  have hlt0 := b0.size
  have hk40 := R0.out.k4.lt
  have HNW1 : Hid (∀ ad n c, v1 = .slice (some ad) n c → w.heap.size + 1 + 1 < ad.block) := Lib.hid (fun ad n c e => by have := hnw1 ad n c e; omega)
  have hk41 : w.heap.size + 1 + 1 < w1.heap.size := by have := b1.size; omega
  have R1 := Lib.hid (R0.out.go b1)
  have hm1 : w1.cell? ⟨0, 0, none⟩ = some (.int .i64 mx) := (b1.cell (p := ⟨0, 0, none⟩) (by have := HZ.out; dsimp only at this ⊢; omega)).trans HM0.out
  have hs2 := HS2.out w1 hm1
  obtain ⟨A1, m1, c1, rfl, hl1, hc1, hr1⟩ := hv1
  clear hs1 hm1 HS2 hw0 y6 y7 z6 z7 zf a0 a1 a2 a3 a4 a5 HM0
  obtain ⟨a0, a1, a2, a3, a4, a5⟩ := call_at R1.out.k1
  have HV1 : Hid (NmV w1 (.slice A1 m1 c1) L1) := Lib.hid ⟨A1, m1, c1, rfl, hl1, hc1, hr1⟩
  have HL1 := Lib.hid hl1
  clear b0 b1 hc1 hr1 hl1 hlt0 hk40 hnw1
  go_wp2_with fail
  refine hs2.mono ?_
  rintro e w2 ⟨v2, rfl, hv2, hnw2, b2⟩
  have R2 := Lib.hid (R1.out.go b2)
  have HV12 := Lib.hid (HV1.out.low b2)
  obtain ⟨A2, m2, c2, rfl, hl2, hc2, hr2⟩ := hv2
  have HV2 : Hid (NmV w2 (.slice A2 m2 c2) L2) := Lib.hid ⟨A2, m2, c2, rfl, hl2, hc2, hr2⟩
  obtain ⟨W2, hW2, RD, FD⟩ := R2.out.set (A := A1) (m := m1) (k := c1) (A' := A2) (m' := m2) (k' := c2)
  have HRD := Lib.hid RD
  have HL2 := Lib.hid hl2
  have HNW2 : Hid (∀ ad n c, (Value.slice A2 m2 c2) = .slice (some ad) n c → w.heap.size + 1 + 1 < ad.block) := Lib.hid (fun ad n c e => by have := hnw2 ad n c e; omega)
  clear hs2 a0 a1 a2 a3 a4 a5 b2 hc2 hr2 hl2 hnw2 hk41
  obtain ⟨a0, a1, a2, a3, a4, a5⟩ := call_at RD.k1
  obtain ⟨x0, x1, x2, x3, x4, x5, x6, x7, xz⟩ := plan_at R2.out.k4
  clear RD
  obtain ⟨W, hst, hfr, hbw, q0, q1, q2, q3, q4, q5, q6, q7⟩ := st8 HRD.out
  obtain ⟨e0, e1, e2, e3, e4, e5, e6, e7, hfz⟩ := plan0_at HRD.out.k2
  obtain ⟨p0, p1, p2, p3, p4, p5, p6, p7, _⟩ := plan_at HRD.out.k4
  have HBW := Lib.hid hbw; have HFR := Lib.hid hfr; have HFD := Lib.hid FD
  clear hbw hfr FD
  go_wp2_with fail
  refine bodyPost_ret (v := .tuple #[planV c (.slice A1 m1 c1) (.slice A2 m2 c2), .int .i64 11]) (by simp [results, Tryd.results10, go_sem, q0, q1, q2, q3, q4, q5, q6, q7, planV]; try rfl) rfl ?_
  exact ⟨_, _, rfl, (HV12.out.fr HFD.out (fun ad n c e h => by have := HNW1.out ad n c e; omega)).fr HFR.out (fun ad n c e h => by have := HNW1.out ad n c e; omega), (HV2.out.fr HFD.out (fun ad n c e h => by have := HNW2.out ad n c e; omega)).fr HFR.out (fun ad n c e h => by have := HNW2.out ad n c e; omega), HBW.out⟩
set_option maxRecDepth 100000 in
set_option maxHeartbeats 4000000 in
theorem read_w_s1 (c : CallV) (mx : Int) (hmx : w.cell? ⟨0, 0, none⟩ = some (.int .i64 mx)) (d : decide (c.op < 1) = false) (d2 : decide (12 < c.op) = false) (d3 : (c.op == 11) = false) (d4 : (c.op == 12) = false) (t3 : (c.op == 3) = false) (t5 : (c.op == 5) = false) (n5 : decide (c.op ≤ 5) = false) (e6 : (c.op == 6) = false) (e7 : (c.op == 7) = true) (e8 : (c.op == 8) = false) (f1 : decide (c.at_ < 0) = false) (f4 : decide (6144 < c.at_) = false) (f5 : decide (6144 < c.at_ + (c.data.size : Int)) = true) (hw : IntKind.i64.wrap (c.at_ + (c.data.size : Int)) = c.at_ + c.data.size) (l1 : List ByteArray) (hp : fSplit c.path = some l1) :
    Calls Tryd.prog 10 #[callV c] w fun e w' => ∃ vf vt, e = .returned (.tuple #[planV c vf vt, .int .i64 11]) ∧ NmV w' vf ((fSplit c.path).getD []) ∧ NmV w' vt ((fSplit c.dest).getD []) ∧ Below w.heap.size w w' := by
  unfold callV
  obtain ⟨w0, hw0, b0, k1, k2, k4⟩ := open3 w (callA c) plan0 (planA c none 0 0 none 0 0) 32 47 47
  have R0 : Hid (RdAt w w0 c none 0 0 none 0 0) := Lib.hid ⟨b0, k1, k2, k4⟩
  obtain ⟨a0, a1, a2, a3, a4, a5⟩ := call_at k1
  have y6 : w0.setCell ⟨w.heap.size + 1 + 1, 6, none⟩ (.slice none 0 0) = w0 := blk_same k4 rfl
  have y7 : w0.setCell ⟨w.heap.size + 1 + 1, 7, none⟩ (.slice none 0 0) = w0 := blk_same k4 rfl
  obtain ⟨_, _, _, _, _, _, z6, z7, zf⟩ := plan_at k4
  have hm0 : w0.cell? ⟨0, 0, none⟩ = some (.int .i64 mx) := (b0.cell (p := ⟨0, 0, none⟩) (World.block_lt_of_cell? _ _ hmx)).trans hmx
  have hs1 := split_any c.path mx w0 hm0
  have hs2 := fun W (h : W.cell? ⟨0, 0, none⟩ = some (.int .i64 mx)) => split_any c.dest mx W h
  have HZ := Lib.hid (World.block_lt_of_cell? _ _ hmx)
  unfold callA plan0 planA at hw0
  have i1 : (fSplit c.path).isSome = true := by rw [hp]; rfl
  rw [i1] at hs1
  generalize (fSplit c.dest).isSome = i2 at hs2
  generalize hL1 : (fSplit c.path).getD [] = L1 at *
  generalize hL2 : (fSplit c.dest).getD [] = L2 at *
  have HS2 := Lib.hid hs2; have HM0 := Lib.hid hm0
  clear k1 k2 k4 hs2 hm0 hp hL1 hL2 hmx i1
  go_enter Tryd.func10, Tryd.ntmps10
  go_wp2_with fail
  refine hs1.mono ?_
  rintro e w1 ⟨v1, rfl, hv1, hnw1, b1⟩
  have hlt0 := b0.size
  have hk40 := R0.out.k4.lt
  have HNW1 : Hid (∀ ad n c, v1 = .slice (some ad) n c → w.heap.size + 1 + 1 < ad.block) := Lib.hid (fun ad n c e => by have := hnw1 ad n c e; omega)
  have hk41 : w.heap.size + 1 + 1 < w1.heap.size := by have := b1.size; omega
  have R1 := Lib.hid (R0.out.go b1)
  have hm1 : w1.cell? ⟨0, 0, none⟩ = some (.int .i64 mx) := (b1.cell (p := ⟨0, 0, none⟩) (by have := HZ.out; dsimp only at this ⊢; omega)).trans HM0.out
  have hs2 := HS2.out w1 hm1
  obtain ⟨A1, m1, c1, rfl, hl1, hc1, hr1⟩ := hv1
  clear hs1 hm1 HS2 hw0 y6 y7 z6 z7 zf a0 a1 a2 a3 a4 a5 HM0
  obtain ⟨a0, a1, a2, a3, a4, a5⟩ := call_at R1.out.k1
  have HV1 : Hid (NmV w1 (.slice A1 m1 c1) L1) := Lib.hid ⟨A1, m1, c1, rfl, hl1, hc1, hr1⟩
  have HL1 := Lib.hid hl1
  clear b0 b1 hc1 hr1 hl1 hlt0 hk40 hnw1
  go_wp2_with fail
  refine hs2.mono ?_
  rintro e w2 ⟨v2, rfl, hv2, hnw2, b2⟩
  have R2 := Lib.hid (R1.out.go b2)
  have HV12 := Lib.hid (HV1.out.low b2)
  obtain ⟨A2, m2, c2, rfl, hl2, hc2, hr2⟩ := hv2
  have HV2 : Hid (NmV w2 (.slice A2 m2 c2) L2) := Lib.hid ⟨A2, m2, c2, rfl, hl2, hc2, hr2⟩
  obtain ⟨W2, hW2, RD, FD⟩ := R2.out.set (A := A1) (m := m1) (k := c1) (A' := A2) (m' := m2) (k' := c2)
  have HRD := Lib.hid RD
  have HL2 := Lib.hid hl2
  have HNW2 : Hid (∀ ad n c, (Value.slice A2 m2 c2) = .slice (some ad) n c → w.heap.size + 1 + 1 < ad.block) := Lib.hid (fun ad n c e => by have := hnw2 ad n c e; omega)
  clear hs2 a0 a1 a2 a3 a4 a5 b2 hc2 hr2 hl2 hnw2 hk41
  obtain ⟨a0, a1, a2, a3, a4, a5⟩ := call_at RD.k1
  obtain ⟨x0, x1, x2, x3, x4, x5, x6, x7, xz⟩ := plan_at R2.out.k4
  clear RD
  obtain ⟨W, hst, hfr, hbw, q0, q1, q2, q3, q4, q5, q6, q7⟩ := st8 HRD.out
  obtain ⟨e0, e1, e2, e3, e4, e5, e6, e7, hfz⟩ := plan0_at HRD.out.k2
  obtain ⟨p0, p1, p2, p3, p4, p5, p6, p7, _⟩ := plan_at HRD.out.k4
  have HBW := Lib.hid hbw; have HFR := Lib.hid hfr; have HFD := Lib.hid FD
  clear hbw hfr FD
  go_wp2_with fail
  refine bodyPost_ret (v := .tuple #[planV c (.slice A1 m1 c1) (.slice A2 m2 c2), .int .i64 11]) (by simp [results, Tryd.results10, go_sem, q0, q1, q2, q3, q4, q5, q6, q7, planV]; try rfl) rfl ?_
  exact ⟨_, _, rfl, (HV12.out.fr HFD.out (fun ad n c e h => by have := HNW1.out ad n c e; omega)).fr HFR.out (fun ad n c e h => by have := HNW1.out ad n c e; omega), (HV2.out.fr HFD.out (fun ad n c e h => by have := HNW2.out ad n c e; omega)).fr HFR.out (fun ad n c e h => by have := HNW2.out ad n c e; omega), HBW.out⟩
set_option maxRecDepth 100000 in
set_option maxHeartbeats 4000000 in
theorem read_w_ok (c : CallV) (mx : Int) (hmx : w.cell? ⟨0, 0, none⟩ = some (.int .i64 mx)) (d : decide (c.op < 1) = false) (d2 : decide (12 < c.op) = false) (d3 : (c.op == 11) = false) (d4 : (c.op == 12) = false) (t3 : (c.op == 3) = false) (t5 : (c.op == 5) = false) (n5 : decide (c.op ≤ 5) = false) (e6 : (c.op == 6) = false) (e7 : (c.op == 7) = true) (e8 : (c.op == 8) = false) (f1 : decide (c.at_ < 0) = false) (f4 : decide (6144 < c.at_) = false) (f5 : decide (6144 < c.at_ + (c.data.size : Int)) = false) (hw : IntKind.i64.wrap (c.at_ + (c.data.size : Int)) = c.at_ + c.data.size) (l1 : List ByteArray) (hp : fSplit c.path = some l1) :
    Calls Tryd.prog 10 #[callV c] w fun e w' => ∃ vf vt, e = .returned (.tuple #[planV c vf vt, .int .i64 0]) ∧ NmV w' vf ((fSplit c.path).getD []) ∧ NmV w' vt ((fSplit c.dest).getD []) ∧ Below w.heap.size w w' := by
  unfold callV
  obtain ⟨w0, hw0, b0, k1, k2, k4⟩ := open3 w (callA c) plan0 (planA c none 0 0 none 0 0) 32 47 47
  have R0 : Hid (RdAt w w0 c none 0 0 none 0 0) := Lib.hid ⟨b0, k1, k2, k4⟩
  obtain ⟨a0, a1, a2, a3, a4, a5⟩ := call_at k1
  have y6 : w0.setCell ⟨w.heap.size + 1 + 1, 6, none⟩ (.slice none 0 0) = w0 := blk_same k4 rfl
  have y7 : w0.setCell ⟨w.heap.size + 1 + 1, 7, none⟩ (.slice none 0 0) = w0 := blk_same k4 rfl
  obtain ⟨_, _, _, _, _, _, z6, z7, zf⟩ := plan_at k4
  have hm0 : w0.cell? ⟨0, 0, none⟩ = some (.int .i64 mx) := (b0.cell (p := ⟨0, 0, none⟩) (World.block_lt_of_cell? _ _ hmx)).trans hmx
  have hs1 := split_any c.path mx w0 hm0
  have hs2 := fun W (h : W.cell? ⟨0, 0, none⟩ = some (.int .i64 mx)) => split_any c.dest mx W h
  have HZ := Lib.hid (World.block_lt_of_cell? _ _ hmx)
  unfold callA plan0 planA at hw0
  have i1 : (fSplit c.path).isSome = true := by rw [hp]; rfl
  rw [i1] at hs1
  generalize (fSplit c.dest).isSome = i2 at hs2
  generalize hL1 : (fSplit c.path).getD [] = L1 at *
  generalize hL2 : (fSplit c.dest).getD [] = L2 at *
  have HS2 := Lib.hid hs2; have HM0 := Lib.hid hm0
  clear k1 k2 k4 hs2 hm0 hp hL1 hL2 hmx i1
  go_enter Tryd.func10, Tryd.ntmps10
  go_wp2_with fail
  refine hs1.mono ?_
  rintro e w1 ⟨v1, rfl, hv1, hnw1, b1⟩
  have hlt0 := b0.size
  have hk40 := R0.out.k4.lt
  have HNW1 : Hid (∀ ad n c, v1 = .slice (some ad) n c → w.heap.size + 1 + 1 < ad.block) := Lib.hid (fun ad n c e => by have := hnw1 ad n c e; omega)
  have hk41 : w.heap.size + 1 + 1 < w1.heap.size := by have := b1.size; omega
  have R1 := Lib.hid (R0.out.go b1)
  have hm1 : w1.cell? ⟨0, 0, none⟩ = some (.int .i64 mx) := (b1.cell (p := ⟨0, 0, none⟩) (by have := HZ.out; dsimp only at this ⊢; omega)).trans HM0.out
  have hs2 := HS2.out w1 hm1
  obtain ⟨A1, m1, c1, rfl, hl1, hc1, hr1⟩ := hv1
  clear hs1 hm1 HS2 hw0 y6 y7 z6 z7 zf a0 a1 a2 a3 a4 a5 HM0
  obtain ⟨a0, a1, a2, a3, a4, a5⟩ := call_at R1.out.k1
  have HV1 : Hid (NmV w1 (.slice A1 m1 c1) L1) := Lib.hid ⟨A1, m1, c1, rfl, hl1, hc1, hr1⟩
  have HL1 := Lib.hid hl1
  clear b0 b1 hc1 hr1 hl1 hlt0 hk40 hnw1
  go_wp2_with fail
  refine hs2.mono ?_
  rintro e w2 ⟨v2, rfl, hv2, hnw2, b2⟩
  have R2 := Lib.hid (R1.out.go b2)
  have HV12 := Lib.hid (HV1.out.low b2)
  obtain ⟨A2, m2, c2, rfl, hl2, hc2, hr2⟩ := hv2
  have HV2 : Hid (NmV w2 (.slice A2 m2 c2) L2) := Lib.hid ⟨A2, m2, c2, rfl, hl2, hc2, hr2⟩
  obtain ⟨W2, hW2, RD, FD⟩ := R2.out.set (A := A1) (m := m1) (k := c1) (A' := A2) (m' := m2) (k' := c2)
  have HRD := Lib.hid RD
  have HL2 := Lib.hid hl2
  have HNW2 : Hid (∀ ad n c, (Value.slice A2 m2 c2) = .slice (some ad) n c → w.heap.size + 1 + 1 < ad.block) := Lib.hid (fun ad n c e => by have := hnw2 ad n c e; omega)
  clear hs2 a0 a1 a2 a3 a4 a5 b2 hc2 hr2 hl2 hnw2 hk41
  obtain ⟨a0, a1, a2, a3, a4, a5⟩ := call_at RD.k1
  obtain ⟨x0, x1, x2, x3, x4, x5, x6, x7, xz⟩ := plan_at R2.out.k4
  clear RD
  obtain ⟨W, hst, hfr, hbw, q0, q1, q2, q3, q4, q5, q6, q7⟩ := st8 HRD.out
  obtain ⟨e0, e1, e2, e3, e4, e5, e6, e7, hfz⟩ := plan0_at HRD.out.k2
  obtain ⟨p0, p1, p2, p3, p4, p5, p6, p7, _⟩ := plan_at HRD.out.k4
  have HBW := Lib.hid hbw; have HFR := Lib.hid hfr; have HFD := Lib.hid FD
  clear hbw hfr FD
  go_wp2_with fail
  refine bodyPost_ret (v := .tuple #[planV c (.slice A1 m1 c1) (.slice A2 m2 c2), .int .i64 0]) (by simp [results, Tryd.results10, go_sem, q0, q1, q2, q3, q4, q5, q6, q7, planV]; try rfl) rfl ?_
  exact ⟨_, _, rfl, (HV12.out.fr HFD.out (fun ad n c e h => by have := HNW1.out ad n c e; omega)).fr HFR.out (fun ad n c e h => by have := HNW1.out ad n c e; omega), (HV2.out.fr HFD.out (fun ad n c e h => by have := HNW2.out ad n c e; omega)).fr HFR.out (fun ad n c e h => by have := HNW2.out ad n c e; omega), HBW.out⟩
set_option maxRecDepth 100000 in
set_option maxHeartbeats 4000000 in
theorem read_u_n0 (c : CallV) (mx : Int) (hmx : w.cell? ⟨0, 0, none⟩ = some (.int .i64 mx)) (d : decide (c.op < 1) = false) (d2 : decide (12 < c.op) = false) (d3 : (c.op == 11) = false) (d4 : (c.op == 12) = false) (t3 : (c.op == 3) = false) (t5 : (c.op == 5) = false) (n5 : decide (c.op ≤ 5) = false) (e6 : (c.op == 6) = false) (e7 : (c.op == 7) = false) (e8 : (c.op == 8) = true) (f2 : decide (c.n < 0) = true) (l1 : List ByteArray) (hp : fSplit c.path = some l1) :
    Calls Tryd.prog 10 #[callV c] w fun e w' => ∃ vf vt, e = .returned (.tuple #[planV c vf vt, .int .i64 1]) ∧ NmV w' vf ((fSplit c.path).getD []) ∧ NmV w' vt ((fSplit c.dest).getD []) ∧ Below w.heap.size w w' := by
  unfold callV
  obtain ⟨w0, hw0, b0, k1, k2, k4⟩ := open3 w (callA c) plan0 (planA c none 0 0 none 0 0) 32 47 47
  have R0 : Hid (RdAt w w0 c none 0 0 none 0 0) := Lib.hid ⟨b0, k1, k2, k4⟩
  obtain ⟨a0, a1, a2, a3, a4, a5⟩ := call_at k1
  have y6 : w0.setCell ⟨w.heap.size + 1 + 1, 6, none⟩ (.slice none 0 0) = w0 := blk_same k4 rfl
  have y7 : w0.setCell ⟨w.heap.size + 1 + 1, 7, none⟩ (.slice none 0 0) = w0 := blk_same k4 rfl
  obtain ⟨_, _, _, _, _, _, z6, z7, zf⟩ := plan_at k4
  have hm0 : w0.cell? ⟨0, 0, none⟩ = some (.int .i64 mx) := (b0.cell (p := ⟨0, 0, none⟩) (World.block_lt_of_cell? _ _ hmx)).trans hmx
  have hs1 := split_any c.path mx w0 hm0
  have hs2 := fun W (h : W.cell? ⟨0, 0, none⟩ = some (.int .i64 mx)) => split_any c.dest mx W h
  have HZ := Lib.hid (World.block_lt_of_cell? _ _ hmx)
  unfold callA plan0 planA at hw0
  have i1 : (fSplit c.path).isSome = true := by rw [hp]; rfl
  rw [i1] at hs1
  generalize (fSplit c.dest).isSome = i2 at hs2
  generalize hL1 : (fSplit c.path).getD [] = L1 at *
  generalize hL2 : (fSplit c.dest).getD [] = L2 at *
  have HS2 := Lib.hid hs2; have HM0 := Lib.hid hm0
  clear k1 k2 k4 hs2 hm0 hp hL1 hL2 hmx i1
  go_enter Tryd.func10, Tryd.ntmps10
  go_wp2_with fail
  refine hs1.mono ?_
  rintro e w1 ⟨v1, rfl, hv1, hnw1, b1⟩
  have hlt0 := b0.size
  have hk40 := R0.out.k4.lt
  have HNW1 : Hid (∀ ad n c, v1 = .slice (some ad) n c → w.heap.size + 1 + 1 < ad.block) := Lib.hid (fun ad n c e => by have := hnw1 ad n c e; omega)
  have hk41 : w.heap.size + 1 + 1 < w1.heap.size := by have := b1.size; omega
  have R1 := Lib.hid (R0.out.go b1)
  have hm1 : w1.cell? ⟨0, 0, none⟩ = some (.int .i64 mx) := (b1.cell (p := ⟨0, 0, none⟩) (by have := HZ.out; dsimp only at this ⊢; omega)).trans HM0.out
  have hs2 := HS2.out w1 hm1
  obtain ⟨A1, m1, c1, rfl, hl1, hc1, hr1⟩ := hv1
  clear hs1 hm1 HS2 hw0 y6 y7 z6 z7 zf a0 a1 a2 a3 a4 a5 HM0
  obtain ⟨a0, a1, a2, a3, a4, a5⟩ := call_at R1.out.k1
  have HV1 : Hid (NmV w1 (.slice A1 m1 c1) L1) := Lib.hid ⟨A1, m1, c1, rfl, hl1, hc1, hr1⟩
  have HL1 := Lib.hid hl1
  clear b0 b1 hc1 hr1 hl1 hlt0 hk40 hnw1
  go_wp2_with fail
  refine hs2.mono ?_
  rintro e w2 ⟨v2, rfl, hv2, hnw2, b2⟩
  have R2 := Lib.hid (R1.out.go b2)
  have HV12 := Lib.hid (HV1.out.low b2)
  obtain ⟨A2, m2, c2, rfl, hl2, hc2, hr2⟩ := hv2
  have HV2 : Hid (NmV w2 (.slice A2 m2 c2) L2) := Lib.hid ⟨A2, m2, c2, rfl, hl2, hc2, hr2⟩
  obtain ⟨W2, hW2, RD, FD⟩ := R2.out.set (A := A1) (m := m1) (k := c1) (A' := A2) (m' := m2) (k' := c2)
  have HRD := Lib.hid RD
  have HL2 := Lib.hid hl2
  have HNW2 : Hid (∀ ad n c, (Value.slice A2 m2 c2) = .slice (some ad) n c → w.heap.size + 1 + 1 < ad.block) := Lib.hid (fun ad n c e => by have := hnw2 ad n c e; omega)
  clear hs2 a0 a1 a2 a3 a4 a5 b2 hc2 hr2 hl2 hnw2 hk41
  obtain ⟨a0, a1, a2, a3, a4, a5⟩ := call_at RD.k1
  obtain ⟨x0, x1, x2, x3, x4, x5, x6, x7, xz⟩ := plan_at R2.out.k4
  clear RD
  obtain ⟨W, hst, hfr, hbw, q0, q1, q2, q3, q4, q5, q6, q7⟩ := st8 HRD.out
  obtain ⟨e0, e1, e2, e3, e4, e5, e6, e7, hfz⟩ := plan0_at HRD.out.k2
  obtain ⟨p0, p1, p2, p3, p4, p5, p6, p7, _⟩ := plan_at HRD.out.k4
  have HBW := Lib.hid hbw; have HFR := Lib.hid hfr; have HFD := Lib.hid FD
  clear hbw hfr FD
  go_wp2_with fail
  refine bodyPost_ret (v := .tuple #[planV c (.slice A1 m1 c1) (.slice A2 m2 c2), .int .i64 1]) (by simp [results, Tryd.results10, go_sem, q0, q1, q2, q3, q4, q5, q6, q7, planV]; try rfl) rfl ?_
  exact ⟨_, _, rfl, (HV12.out.fr HFD.out (fun ad n c e h => by have := HNW1.out ad n c e; omega)).fr HFR.out (fun ad n c e h => by have := HNW1.out ad n c e; omega), (HV2.out.fr HFD.out (fun ad n c e h => by have := HNW2.out ad n c e; omega)).fr HFR.out (fun ad n c e h => by have := HNW2.out ad n c e; omega), HBW.out⟩
set_option maxRecDepth 100000 in
set_option maxHeartbeats 4000000 in
theorem read_u_n1 (c : CallV) (mx : Int) (hmx : w.cell? ⟨0, 0, none⟩ = some (.int .i64 mx)) (d : decide (c.op < 1) = false) (d2 : decide (12 < c.op) = false) (d3 : (c.op == 11) = false) (d4 : (c.op == 12) = false) (t3 : (c.op == 3) = false) (t5 : (c.op == 5) = false) (n5 : decide (c.op ≤ 5) = false) (e6 : (c.op == 6) = false) (e7 : (c.op == 7) = false) (e8 : (c.op == 8) = true) (f2 : decide (c.n < 0) = false) (f3 : decide (6144 < c.n) = true) (l1 : List ByteArray) (hp : fSplit c.path = some l1) :
    Calls Tryd.prog 10 #[callV c] w fun e w' => ∃ vf vt, e = .returned (.tuple #[planV c vf vt, .int .i64 11]) ∧ NmV w' vf ((fSplit c.path).getD []) ∧ NmV w' vt ((fSplit c.dest).getD []) ∧ Below w.heap.size w w' := by
  unfold callV
  obtain ⟨w0, hw0, b0, k1, k2, k4⟩ := open3 w (callA c) plan0 (planA c none 0 0 none 0 0) 32 47 47
  have R0 : Hid (RdAt w w0 c none 0 0 none 0 0) := Lib.hid ⟨b0, k1, k2, k4⟩
  obtain ⟨a0, a1, a2, a3, a4, a5⟩ := call_at k1
  have y6 : w0.setCell ⟨w.heap.size + 1 + 1, 6, none⟩ (.slice none 0 0) = w0 := blk_same k4 rfl
  have y7 : w0.setCell ⟨w.heap.size + 1 + 1, 7, none⟩ (.slice none 0 0) = w0 := blk_same k4 rfl
  obtain ⟨_, _, _, _, _, _, z6, z7, zf⟩ := plan_at k4
  have hm0 : w0.cell? ⟨0, 0, none⟩ = some (.int .i64 mx) := (b0.cell (p := ⟨0, 0, none⟩) (World.block_lt_of_cell? _ _ hmx)).trans hmx
  have hs1 := split_any c.path mx w0 hm0
  have hs2 := fun W (h : W.cell? ⟨0, 0, none⟩ = some (.int .i64 mx)) => split_any c.dest mx W h
  have HZ := Lib.hid (World.block_lt_of_cell? _ _ hmx)
  unfold callA plan0 planA at hw0
  have i1 : (fSplit c.path).isSome = true := by rw [hp]; rfl
  rw [i1] at hs1
  generalize (fSplit c.dest).isSome = i2 at hs2
  generalize hL1 : (fSplit c.path).getD [] = L1 at *
  generalize hL2 : (fSplit c.dest).getD [] = L2 at *
  have HS2 := Lib.hid hs2; have HM0 := Lib.hid hm0
  clear k1 k2 k4 hs2 hm0 hp hL1 hL2 hmx i1
  go_enter Tryd.func10, Tryd.ntmps10
  go_wp2_with fail
  refine hs1.mono ?_
  rintro e w1 ⟨v1, rfl, hv1, hnw1, b1⟩
  have hlt0 := b0.size
  have hk40 := R0.out.k4.lt
  have HNW1 : Hid (∀ ad n c, v1 = .slice (some ad) n c → w.heap.size + 1 + 1 < ad.block) := Lib.hid (fun ad n c e => by have := hnw1 ad n c e; omega)
  have hk41 : w.heap.size + 1 + 1 < w1.heap.size := by have := b1.size; omega
  have R1 := Lib.hid (R0.out.go b1)
  have hm1 : w1.cell? ⟨0, 0, none⟩ = some (.int .i64 mx) := (b1.cell (p := ⟨0, 0, none⟩) (by have := HZ.out; dsimp only at this ⊢; omega)).trans HM0.out
  have hs2 := HS2.out w1 hm1
  obtain ⟨A1, m1, c1, rfl, hl1, hc1, hr1⟩ := hv1
  clear hs1 hm1 HS2 hw0 y6 y7 z6 z7 zf a0 a1 a2 a3 a4 a5 HM0
  obtain ⟨a0, a1, a2, a3, a4, a5⟩ := call_at R1.out.k1
  have HV1 : Hid (NmV w1 (.slice A1 m1 c1) L1) := Lib.hid ⟨A1, m1, c1, rfl, hl1, hc1, hr1⟩
  have HL1 := Lib.hid hl1
  clear b0 b1 hc1 hr1 hl1 hlt0 hk40 hnw1
  go_wp2_with fail
  refine hs2.mono ?_
  rintro e w2 ⟨v2, rfl, hv2, hnw2, b2⟩
  have R2 := Lib.hid (R1.out.go b2)
  have HV12 := Lib.hid (HV1.out.low b2)
  obtain ⟨A2, m2, c2, rfl, hl2, hc2, hr2⟩ := hv2
  have HV2 : Hid (NmV w2 (.slice A2 m2 c2) L2) := Lib.hid ⟨A2, m2, c2, rfl, hl2, hc2, hr2⟩
  obtain ⟨W2, hW2, RD, FD⟩ := R2.out.set (A := A1) (m := m1) (k := c1) (A' := A2) (m' := m2) (k' := c2)
  have HRD := Lib.hid RD
  have HL2 := Lib.hid hl2
  have HNW2 : Hid (∀ ad n c, (Value.slice A2 m2 c2) = .slice (some ad) n c → w.heap.size + 1 + 1 < ad.block) := Lib.hid (fun ad n c e => by have := hnw2 ad n c e; omega)
  clear hs2 a0 a1 a2 a3 a4 a5 b2 hc2 hr2 hl2 hnw2 hk41
  obtain ⟨a0, a1, a2, a3, a4, a5⟩ := call_at RD.k1
  obtain ⟨x0, x1, x2, x3, x4, x5, x6, x7, xz⟩ := plan_at R2.out.k4
  clear RD
  obtain ⟨W, hst, hfr, hbw, q0, q1, q2, q3, q4, q5, q6, q7⟩ := st8 HRD.out
  obtain ⟨e0, e1, e2, e3, e4, e5, e6, e7, hfz⟩ := plan0_at HRD.out.k2
  obtain ⟨p0, p1, p2, p3, p4, p5, p6, p7, _⟩ := plan_at HRD.out.k4
  have HBW := Lib.hid hbw; have HFR := Lib.hid hfr; have HFD := Lib.hid FD
  clear hbw hfr FD
  go_wp2_with fail
  refine bodyPost_ret (v := .tuple #[planV c (.slice A1 m1 c1) (.slice A2 m2 c2), .int .i64 11]) (by simp [results, Tryd.results10, go_sem, q0, q1, q2, q3, q4, q5, q6, q7, planV]; try rfl) rfl ?_
  exact ⟨_, _, rfl, (HV12.out.fr HFD.out (fun ad n c e h => by have := HNW1.out ad n c e; omega)).fr HFR.out (fun ad n c e h => by have := HNW1.out ad n c e; omega), (HV2.out.fr HFD.out (fun ad n c e h => by have := HNW2.out ad n c e; omega)).fr HFR.out (fun ad n c e h => by have := HNW2.out ad n c e; omega), HBW.out⟩
set_option maxRecDepth 100000 in
set_option maxHeartbeats 4000000 in
theorem read_u_ok (c : CallV) (mx : Int) (hmx : w.cell? ⟨0, 0, none⟩ = some (.int .i64 mx)) (d : decide (c.op < 1) = false) (d2 : decide (12 < c.op) = false) (d3 : (c.op == 11) = false) (d4 : (c.op == 12) = false) (t3 : (c.op == 3) = false) (t5 : (c.op == 5) = false) (n5 : decide (c.op ≤ 5) = false) (e6 : (c.op == 6) = false) (e7 : (c.op == 7) = false) (e8 : (c.op == 8) = true) (f2 : decide (c.n < 0) = false) (f3 : decide (6144 < c.n) = false) (l1 : List ByteArray) (hp : fSplit c.path = some l1) :
    Calls Tryd.prog 10 #[callV c] w fun e w' => ∃ vf vt, e = .returned (.tuple #[planV c vf vt, .int .i64 0]) ∧ NmV w' vf ((fSplit c.path).getD []) ∧ NmV w' vt ((fSplit c.dest).getD []) ∧ Below w.heap.size w w' := by
  unfold callV
  obtain ⟨w0, hw0, b0, k1, k2, k4⟩ := open3 w (callA c) plan0 (planA c none 0 0 none 0 0) 32 47 47
  have R0 : Hid (RdAt w w0 c none 0 0 none 0 0) := Lib.hid ⟨b0, k1, k2, k4⟩
  obtain ⟨a0, a1, a2, a3, a4, a5⟩ := call_at k1
  have y6 : w0.setCell ⟨w.heap.size + 1 + 1, 6, none⟩ (.slice none 0 0) = w0 := blk_same k4 rfl
  have y7 : w0.setCell ⟨w.heap.size + 1 + 1, 7, none⟩ (.slice none 0 0) = w0 := blk_same k4 rfl
  obtain ⟨_, _, _, _, _, _, z6, z7, zf⟩ := plan_at k4
  have hm0 : w0.cell? ⟨0, 0, none⟩ = some (.int .i64 mx) := (b0.cell (p := ⟨0, 0, none⟩) (World.block_lt_of_cell? _ _ hmx)).trans hmx
  have hs1 := split_any c.path mx w0 hm0
  have hs2 := fun W (h : W.cell? ⟨0, 0, none⟩ = some (.int .i64 mx)) => split_any c.dest mx W h
  have HZ := Lib.hid (World.block_lt_of_cell? _ _ hmx)
  unfold callA plan0 planA at hw0
  have i1 : (fSplit c.path).isSome = true := by rw [hp]; rfl
  rw [i1] at hs1
  generalize (fSplit c.dest).isSome = i2 at hs2
  generalize hL1 : (fSplit c.path).getD [] = L1 at *
  generalize hL2 : (fSplit c.dest).getD [] = L2 at *
  have HS2 := Lib.hid hs2; have HM0 := Lib.hid hm0
  clear k1 k2 k4 hs2 hm0 hp hL1 hL2 hmx i1
  go_enter Tryd.func10, Tryd.ntmps10
  go_wp2_with fail
  refine hs1.mono ?_
  rintro e w1 ⟨v1, rfl, hv1, hnw1, b1⟩
  have hlt0 := b0.size
  have hk40 := R0.out.k4.lt
  have HNW1 : Hid (∀ ad n c, v1 = .slice (some ad) n c → w.heap.size + 1 + 1 < ad.block) := Lib.hid (fun ad n c e => by have := hnw1 ad n c e; omega)
  have hk41 : w.heap.size + 1 + 1 < w1.heap.size := by have := b1.size; omega
  have R1 := Lib.hid (R0.out.go b1)
  have hm1 : w1.cell? ⟨0, 0, none⟩ = some (.int .i64 mx) := (b1.cell (p := ⟨0, 0, none⟩) (by have := HZ.out; dsimp only at this ⊢; omega)).trans HM0.out
  have hs2 := HS2.out w1 hm1
  obtain ⟨A1, m1, c1, rfl, hl1, hc1, hr1⟩ := hv1
  clear hs1 hm1 HS2 hw0 y6 y7 z6 z7 zf a0 a1 a2 a3 a4 a5 HM0
  obtain ⟨a0, a1, a2, a3, a4, a5⟩ := call_at R1.out.k1
  have HV1 : Hid (NmV w1 (.slice A1 m1 c1) L1) := Lib.hid ⟨A1, m1, c1, rfl, hl1, hc1, hr1⟩
  have HL1 := Lib.hid hl1
  clear b0 b1 hc1 hr1 hl1 hlt0 hk40 hnw1
  go_wp2_with fail
  refine hs2.mono ?_
  rintro e w2 ⟨v2, rfl, hv2, hnw2, b2⟩
  have R2 := Lib.hid (R1.out.go b2)
  have HV12 := Lib.hid (HV1.out.low b2)
  obtain ⟨A2, m2, c2, rfl, hl2, hc2, hr2⟩ := hv2
  have HV2 : Hid (NmV w2 (.slice A2 m2 c2) L2) := Lib.hid ⟨A2, m2, c2, rfl, hl2, hc2, hr2⟩
  obtain ⟨W2, hW2, RD, FD⟩ := R2.out.set (A := A1) (m := m1) (k := c1) (A' := A2) (m' := m2) (k' := c2)
  have HRD := Lib.hid RD
  have HL2 := Lib.hid hl2
  have HNW2 : Hid (∀ ad n c, (Value.slice A2 m2 c2) = .slice (some ad) n c → w.heap.size + 1 + 1 < ad.block) := Lib.hid (fun ad n c e => by have := hnw2 ad n c e; omega)
  clear hs2 a0 a1 a2 a3 a4 a5 b2 hc2 hr2 hl2 hnw2 hk41
  obtain ⟨a0, a1, a2, a3, a4, a5⟩ := call_at RD.k1
  obtain ⟨x0, x1, x2, x3, x4, x5, x6, x7, xz⟩ := plan_at R2.out.k4
  clear RD
  obtain ⟨W, hst, hfr, hbw, q0, q1, q2, q3, q4, q5, q6, q7⟩ := st8 HRD.out
  obtain ⟨e0, e1, e2, e3, e4, e5, e6, e7, hfz⟩ := plan0_at HRD.out.k2
  obtain ⟨p0, p1, p2, p3, p4, p5, p6, p7, _⟩ := plan_at HRD.out.k4
  have HBW := Lib.hid hbw; have HFR := Lib.hid hfr; have HFD := Lib.hid FD
  clear hbw hfr FD
  go_wp2_with fail
  refine bodyPost_ret (v := .tuple #[planV c (.slice A1 m1 c1) (.slice A2 m2 c2), .int .i64 0]) (by simp [results, Tryd.results10, go_sem, q0, q1, q2, q3, q4, q5, q6, q7, planV]; try rfl) rfl ?_
  exact ⟨_, _, rfl, (HV12.out.fr HFD.out (fun ad n c e h => by have := HNW1.out ad n c e; omega)).fr HFR.out (fun ad n c e h => by have := HNW1.out ad n c e; omega), (HV2.out.fr HFD.out (fun ad n c e h => by have := HNW2.out ad n c e; omega)).fr HFR.out (fun ad n c e h => by have := HNW2.out ad n c e; omega), HBW.out⟩
set_option maxRecDepth 100000 in
set_option maxHeartbeats 4000000 in
theorem read_b1_3 (c : CallV) (mx : Int) (hmx : w.cell? ⟨0, 0, none⟩ = some (.int .i64 mx)) (d : decide (c.op < 1) = false) (d2 : decide (12 < c.op) = false) (d3 : (c.op == 11) = false) (d4 : (c.op == 12) = false) (t3 : (c.op == 3) = true) (hp : fSplit c.path = none) :
    Calls Tryd.prog 10 #[callV c] w fun e w' => ∃ vf vt, e = .returned (.tuple #[planV c vf vt, .int .i64 1]) ∧ NmV w' vf ((fSplit c.path).getD []) ∧ NmV w' vt ((fSplit c.dest).getD []) ∧ Below w.heap.size w w' := by
  unfold callV
  obtain ⟨w0, hw0, b0, k1, k2, k4⟩ := open3 w (callA c) plan0 (planA c none 0 0 none 0 0) 32 47 47
  have R0 : Hid (RdAt w w0 c none 0 0 none 0 0) := Lib.hid ⟨b0, k1, k2, k4⟩
  obtain ⟨a0, a1, a2, a3, a4, a5⟩ := call_at k1
  have y6 : w0.setCell ⟨w.heap.size + 1 + 1, 6, none⟩ (.slice none 0 0) = w0 := blk_same k4 rfl
  have y7 : w0.setCell ⟨w.heap.size + 1 + 1, 7, none⟩ (.slice none 0 0) = w0 := blk_same k4 rfl
  obtain ⟨_, _, _, _, _, _, z6, z7, zf⟩ := plan_at k4
  have hm0 : w0.cell? ⟨0, 0, none⟩ = some (.int .i64 mx) := (b0.cell (p := ⟨0, 0, none⟩) (World.block_lt_of_cell? _ _ hmx)).trans hmx
  have hs1 := split_any c.path mx w0 hm0
  have hs2 := fun W (h : W.cell? ⟨0, 0, none⟩ = some (.int .i64 mx)) => split_any c.dest mx W h
  have HZ := Lib.hid (World.block_lt_of_cell? _ _ hmx)
  unfold callA plan0 planA at hw0
  have i1 : (fSplit c.path).isSome = false := by rw [hp]; rfl
  rw [i1] at hs1
  generalize (fSplit c.dest).isSome = i2 at hs2
  generalize hL1 : (fSplit c.path).getD [] = L1 at *
  generalize hL2 : (fSplit c.dest).getD [] = L2 at *
  have HS2 := Lib.hid hs2; have HM0 := Lib.hid hm0
  clear k1 k2 k4 hs2 hm0 hp hL1 hL2 hmx i1
  go_enter Tryd.func10, Tryd.ntmps10
  go_wp2_with fail
  refine hs1.mono ?_
  rintro e w1 ⟨v1, rfl, hv1, hnw1, b1⟩
  have hlt0 := b0.size
  have hk40 := R0.out.k4.lt
  have HNW1 : Hid (∀ ad n c, v1 = .slice (some ad) n c → w.heap.size + 1 + 1 < ad.block) := Lib.hid (fun ad n c e => by have := hnw1 ad n c e; omega)
  have hk41 : w.heap.size + 1 + 1 < w1.heap.size := by have := b1.size; omega
  have R1 := Lib.hid (R0.out.go b1)
  have hm1 : w1.cell? ⟨0, 0, none⟩ = some (.int .i64 mx) := (b1.cell (p := ⟨0, 0, none⟩) (by have := HZ.out; dsimp only at this ⊢; omega)).trans HM0.out
  have hs2 := HS2.out w1 hm1
  obtain ⟨A1, m1, c1, rfl, hl1, hc1, hr1⟩ := hv1
  clear hs1 hm1 HS2 hw0 y6 y7 z6 z7 zf a0 a1 a2 a3 a4 a5 HM0
  obtain ⟨a0, a1, a2, a3, a4, a5⟩ := call_at R1.out.k1
  have HV1 : Hid (NmV w1 (.slice A1 m1 c1) L1) := Lib.hid ⟨A1, m1, c1, rfl, hl1, hc1, hr1⟩
  have HL1 := Lib.hid hl1
  clear b0 b1 hc1 hr1 hl1 hlt0 hk40 hnw1
  go_wp2_with fail
  refine hs2.mono ?_
  rintro e w2 ⟨v2, rfl, hv2, hnw2, b2⟩
  have R2 := Lib.hid (R1.out.go b2)
  have HV12 := Lib.hid (HV1.out.low b2)
  obtain ⟨A2, m2, c2, rfl, hl2, hc2, hr2⟩ := hv2
  have HV2 : Hid (NmV w2 (.slice A2 m2 c2) L2) := Lib.hid ⟨A2, m2, c2, rfl, hl2, hc2, hr2⟩
  obtain ⟨W2, hW2, RD, FD⟩ := R2.out.set (A := A1) (m := m1) (k := c1) (A' := A2) (m' := m2) (k' := c2)
  have HRD := Lib.hid RD
  have HL2 := Lib.hid hl2
  have HNW2 : Hid (∀ ad n c, (Value.slice A2 m2 c2) = .slice (some ad) n c → w.heap.size + 1 + 1 < ad.block) := Lib.hid (fun ad n c e => by have := hnw2 ad n c e; omega)
  clear hs2 a0 a1 a2 a3 a4 a5 b2 hc2 hr2 hl2 hnw2 hk41
  obtain ⟨a0, a1, a2, a3, a4, a5⟩ := call_at RD.k1
  obtain ⟨x0, x1, x2, x3, x4, x5, x6, x7, xz⟩ := plan_at R2.out.k4
  clear RD
  obtain ⟨W, hst, hfr, hbw, q0, q1, q2, q3, q4, q5, q6, q7⟩ := st8 HRD.out
  obtain ⟨e0, e1, e2, e3, e4, e5, e6, e7, hfz⟩ := plan0_at HRD.out.k2
  obtain ⟨p0, p1, p2, p3, p4, p5, p6, p7, _⟩ := plan_at HRD.out.k4
  have HBW := Lib.hid hbw; have HFR := Lib.hid hfr; have HFD := Lib.hid FD
  clear hbw hfr FD
  go_wp2_with fail
  refine bodyPost_ret (v := .tuple #[planV c (.slice A1 m1 c1) (.slice A2 m2 c2), .int .i64 1]) (by simp [results, Tryd.results10, go_sem, q0, q1, q2, q3, q4, q5, q6, q7, planV]; try rfl) rfl ?_
  exact ⟨_, _, rfl, (HV12.out.fr HFD.out (fun ad n c e h => by have := HNW1.out ad n c e; omega)).fr HFR.out (fun ad n c e h => by have := HNW1.out ad n c e; omega), (HV2.out.fr HFD.out (fun ad n c e h => by have := HNW2.out ad n c e; omega)).fr HFR.out (fun ad n c e h => by have := HNW2.out ad n c e; omega), HBW.out⟩
set_option maxRecDepth 100000 in
set_option maxHeartbeats 4000000 in
theorem read_b2_3 (c : CallV) (mx : Int) (hmx : w.cell? ⟨0, 0, none⟩ = some (.int .i64 mx)) (d : decide (c.op < 1) = false) (d2 : decide (12 < c.op) = false) (d3 : (c.op == 11) = false) (d4 : (c.op == 12) = false) (t3 : (c.op == 3) = true) (l1 : List ByteArray) (hp : fSplit c.path = some l1) (hd : fSplit c.dest = none) :
    Calls Tryd.prog 10 #[callV c] w fun e w' => ∃ vf vt, e = .returned (.tuple #[planV c vf vt, .int .i64 1]) ∧ NmV w' vf ((fSplit c.path).getD []) ∧ NmV w' vt ((fSplit c.dest).getD []) ∧ Below w.heap.size w w' := by
  unfold callV
  obtain ⟨w0, hw0, b0, k1, k2, k4⟩ := open3 w (callA c) plan0 (planA c none 0 0 none 0 0) 32 47 47
  have R0 : Hid (RdAt w w0 c none 0 0 none 0 0) := Lib.hid ⟨b0, k1, k2, k4⟩
  obtain ⟨a0, a1, a2, a3, a4, a5⟩ := call_at k1
  have y6 : w0.setCell ⟨w.heap.size + 1 + 1, 6, none⟩ (.slice none 0 0) = w0 := blk_same k4 rfl
  have y7 : w0.setCell ⟨w.heap.size + 1 + 1, 7, none⟩ (.slice none 0 0) = w0 := blk_same k4 rfl
  obtain ⟨_, _, _, _, _, _, z6, z7, zf⟩ := plan_at k4
  have hm0 : w0.cell? ⟨0, 0, none⟩ = some (.int .i64 mx) := (b0.cell (p := ⟨0, 0, none⟩) (World.block_lt_of_cell? _ _ hmx)).trans hmx
  have hs1 := split_any c.path mx w0 hm0
  have hs2 := fun W (h : W.cell? ⟨0, 0, none⟩ = some (.int .i64 mx)) => split_any c.dest mx W h
  have HZ := Lib.hid (World.block_lt_of_cell? _ _ hmx)
  unfold callA plan0 planA at hw0
  have i1 : (fSplit c.path).isSome = true := by rw [hp]; rfl
  have i2 : (fSplit c.dest).isSome = false := by rw [hd]; rfl
  rw [i1] at hs1
  rw [i2] at hs2
  generalize hL1 : (fSplit c.path).getD [] = L1 at *
  generalize hL2 : (fSplit c.dest).getD [] = L2 at *
  have HS2 := Lib.hid hs2; have HM0 := Lib.hid hm0
  clear k1 k2 k4 hs2 hm0 hp hL1 hL2 hmx i1 i2 hd
  go_enter Tryd.func10, Tryd.ntmps10
  go_wp2_with fail
  refine hs1.mono ?_
  rintro e w1 ⟨v1, rfl, hv1, hnw1, b1⟩
  have hlt0 := b0.size
  have hk40 := R0.out.k4.lt
  have HNW1 : Hid (∀ ad n c, v1 = .slice (some ad) n c → w.heap.size + 1 + 1 < ad.block) := Lib.hid (fun ad n c e => by have := hnw1 ad n c e; omega)
  have hk41 : w.heap.size + 1 + 1 < w1.heap.size := by have := b1.size; omega
  have R1 := Lib.hid (R0.out.go b1)
  have hm1 : w1.cell? ⟨0, 0, none⟩ = some (.int .i64 mx) := (b1.cell (p := ⟨0, 0, none⟩) (by have := HZ.out; dsimp only at this ⊢; omega)).trans HM0.out
  have hs2 := HS2.out w1 hm1
  obtain ⟨A1, m1, c1, rfl, hl1, hc1, hr1⟩ := hv1
  clear hs1 hm1 HS2 hw0 y6 y7 z6 z7 zf a0 a1 a2 a3 a4 a5 HM0
  obtain ⟨a0, a1, a2, a3, a4, a5⟩ := call_at R1.out.k1
  have HV1 : Hid (NmV w1 (.slice A1 m1 c1) L1) := Lib.hid ⟨A1, m1, c1, rfl, hl1, hc1, hr1⟩
  have HL1 := Lib.hid hl1
  clear b0 b1 hc1 hr1 hl1 hlt0 hk40 hnw1
  go_wp2_with fail
  refine hs2.mono ?_
  rintro e w2 ⟨v2, rfl, hv2, hnw2, b2⟩
  have R2 := Lib.hid (R1.out.go b2)
  have HV12 := Lib.hid (HV1.out.low b2)
  obtain ⟨A2, m2, c2, rfl, hl2, hc2, hr2⟩ := hv2
  have HV2 : Hid (NmV w2 (.slice A2 m2 c2) L2) := Lib.hid ⟨A2, m2, c2, rfl, hl2, hc2, hr2⟩
  obtain ⟨W2, hW2, RD, FD⟩ := R2.out.set (A := A1) (m := m1) (k := c1) (A' := A2) (m' := m2) (k' := c2)
  have HRD := Lib.hid RD
  have HL2 := Lib.hid hl2
  have HNW2 : Hid (∀ ad n c, (Value.slice A2 m2 c2) = .slice (some ad) n c → w.heap.size + 1 + 1 < ad.block) := Lib.hid (fun ad n c e => by have := hnw2 ad n c e; omega)
  clear hs2 a0 a1 a2 a3 a4 a5 b2 hc2 hr2 hl2 hnw2 hk41
  obtain ⟨a0, a1, a2, a3, a4, a5⟩ := call_at RD.k1
  obtain ⟨x0, x1, x2, x3, x4, x5, x6, x7, xz⟩ := plan_at R2.out.k4
  clear RD
  obtain ⟨W, hst, hfr, hbw, q0, q1, q2, q3, q4, q5, q6, q7⟩ := st8 HRD.out
  obtain ⟨e0, e1, e2, e3, e4, e5, e6, e7, hfz⟩ := plan0_at HRD.out.k2
  obtain ⟨p0, p1, p2, p3, p4, p5, p6, p7, _⟩ := plan_at HRD.out.k4
  have HBW := Lib.hid hbw; have HFR := Lib.hid hfr; have HFD := Lib.hid FD
  clear hbw hfr FD
  go_wp2_with fail
  refine bodyPost_ret (v := .tuple #[planV c (.slice A1 m1 c1) (.slice A2 m2 c2), .int .i64 1]) (by simp [results, Tryd.results10, go_sem, q0, q1, q2, q3, q4, q5, q6, q7, planV]; try rfl) rfl ?_
  exact ⟨_, _, rfl, (HV12.out.fr HFD.out (fun ad n c e h => by have := HNW1.out ad n c e; omega)).fr HFR.out (fun ad n c e h => by have := HNW1.out ad n c e; omega), (HV2.out.fr HFD.out (fun ad n c e h => by have := HNW2.out ad n c e; omega)).fr HFR.out (fun ad n c e h => by have := HNW2.out ad n c e; omega), HBW.out⟩
set_option maxRecDepth 100000 in
set_option maxHeartbeats 4000000 in
theorem read_b3_3 (c : CallV) (mx : Int) (hmx : w.cell? ⟨0, 0, none⟩ = some (.int .i64 mx)) (d : decide (c.op < 1) = false) (d2 : decide (12 < c.op) = false) (d3 : (c.op == 11) = false) (d4 : (c.op == 12) = false) (t3 : (c.op == 3) = true) (n5 : decide (c.op ≤ 5) = true) (l2 : List ByteArray) (hp : fSplit c.path = some []) (hd : fSplit c.dest = some l2) :
    Calls Tryd.prog 10 #[callV c] w fun e w' => ∃ vf vt, e = .returned (.tuple #[planV c vf vt, .int .i64 1]) ∧ NmV w' vf ((fSplit c.path).getD []) ∧ NmV w' vt ((fSplit c.dest).getD []) ∧ Below w.heap.size w w' := by
  unfold callV
  obtain ⟨w0, hw0, b0, k1, k2, k4⟩ := open3 w (callA c) plan0 (planA c none 0 0 none 0 0) 32 47 47
  have R0 : Hid (RdAt w w0 c none 0 0 none 0 0) := Lib.hid ⟨b0, k1, k2, k4⟩
  obtain ⟨a0, a1, a2, a3, a4, a5⟩ := call_at k1
  have y6 : w0.setCell ⟨w.heap.size + 1 + 1, 6, none⟩ (.slice none 0 0) = w0 := blk_same k4 rfl
  have y7 : w0.setCell ⟨w.heap.size + 1 + 1, 7, none⟩ (.slice none 0 0) = w0 := blk_same k4 rfl
  obtain ⟨_, _, _, _, _, _, z6, z7, zf⟩ := plan_at k4
  have hm0 : w0.cell? ⟨0, 0, none⟩ = some (.int .i64 mx) := (b0.cell (p := ⟨0, 0, none⟩) (World.block_lt_of_cell? _ _ hmx)).trans hmx
  have hs1 := split_any c.path mx w0 hm0
  have hs2 := fun W (h : W.cell? ⟨0, 0, none⟩ = some (.int .i64 mx)) => split_any c.dest mx W h
  have HZ := Lib.hid (World.block_lt_of_cell? _ _ hmx)
  unfold callA plan0 planA at hw0
  have i1 : (fSplit c.path).isSome = true := by rw [hp]; rfl
  have i2 : (fSplit c.dest).isSome = true := by rw [hd]; rfl
  rw [i1] at hs1
  rw [i2] at hs2
  generalize hL1 : (fSplit c.path).getD [] = L1 at *
  generalize hL2 : (fSplit c.dest).getD [] = L2 at *
  have hne1 : L1 = [] := by rw [← hL1, hp]; rfl
  have HS2 := Lib.hid hs2; have HM0 := Lib.hid hm0
  have HN1 := Lib.hid hne1; clear hne1
  clear k1 k2 k4 hs2 hm0 hp hL1 hL2 hmx i1 i2 hd
  go_enter Tryd.func10, Tryd.ntmps10
  go_wp2_with fail
  refine hs1.mono ?_
  rintro e w1 ⟨v1, rfl, hv1, hnw1, b1⟩
  have hlt0 := b0.size
  have hk40 := R0.out.k4.lt
  have HNW1 : Hid (∀ ad n c, v1 = .slice (some ad) n c → w.heap.size + 1 + 1 < ad.block) := Lib.hid (fun ad n c e => by have := hnw1 ad n c e; omega)
  have hk41 : w.heap.size + 1 + 1 < w1.heap.size := by have := b1.size; omega
  have R1 := Lib.hid (R0.out.go b1)
  have hm1 : w1.cell? ⟨0, 0, none⟩ = some (.int .i64 mx) := (b1.cell (p := ⟨0, 0, none⟩) (by have := HZ.out; dsimp only at this ⊢; omega)).trans HM0.out
  have hs2 := HS2.out w1 hm1
  obtain ⟨A1, m1, c1, rfl, hl1, hc1, hr1⟩ := hv1
  clear hs1 hm1 HS2 hw0 y6 y7 z6 z7 zf a0 a1 a2 a3 a4 a5 HM0
  obtain ⟨a0, a1, a2, a3, a4, a5⟩ := call_at R1.out.k1
  have HV1 : Hid (NmV w1 (.slice A1 m1 c1) L1) := Lib.hid ⟨A1, m1, c1, rfl, hl1, hc1, hr1⟩
  have HL1 := Lib.hid hl1
  clear b0 b1 hc1 hr1 hl1 hlt0 hk40 hnw1
  go_wp2_with fail
  refine hs2.mono ?_
  rintro e w2 ⟨v2, rfl, hv2, hnw2, b2⟩
  have R2 := Lib.hid (R1.out.go b2)
  have HV12 := Lib.hid (HV1.out.low b2)
  obtain ⟨A2, m2, c2, rfl, hl2, hc2, hr2⟩ := hv2
  have HV2 : Hid (NmV w2 (.slice A2 m2 c2) L2) := Lib.hid ⟨A2, m2, c2, rfl, hl2, hc2, hr2⟩
  obtain ⟨W2, hW2, RD, FD⟩ := R2.out.set (A := A1) (m := m1) (k := c1) (A' := A2) (m' := m2) (k' := c2)
  have HRD := Lib.hid RD
  have HL2 := Lib.hid hl2
  have HNW2 : Hid (∀ ad n c, (Value.slice A2 m2 c2) = .slice (some ad) n c → w.heap.size + 1 + 1 < ad.block) := Lib.hid (fun ad n c e => by have := hnw2 ad n c e; omega)
  clear hs2 a0 a1 a2 a3 a4 a5 b2 hc2 hr2 hl2 hnw2 hk41
  obtain ⟨a0, a1, a2, a3, a4, a5⟩ := call_at RD.k1
  obtain ⟨x0, x1, x2, x3, x4, x5, x6, x7, xz⟩ := plan_at R2.out.k4
  clear RD
  have z1 : ((m1 : Int) == 0) = true := by have h1 := HL1.out; rw [HN1.out] at h1; simp at h1; simp [← h1]
  obtain ⟨W, hst, hfr, hbw, q0, q1, q2, q3, q4, q5, q6, q7⟩ := st8 HRD.out
  obtain ⟨e0, e1, e2, e3, e4, e5, e6, e7, hfz⟩ := plan0_at HRD.out.k2
  obtain ⟨p0, p1, p2, p3, p4, p5, p6, p7, _⟩ := plan_at HRD.out.k4
  have HBW := Lib.hid hbw; have HFR := Lib.hid hfr; have HFD := Lib.hid FD
  clear hbw hfr FD
  go_wp2_with fail
  refine bodyPost_ret (v := .tuple #[planV c (.slice A1 m1 c1) (.slice A2 m2 c2), .int .i64 1]) (by simp [results, Tryd.results10, go_sem, q0, q1, q2, q3, q4, q5, q6, q7, planV]; try rfl) rfl ?_
  exact ⟨_, _, rfl, (HV12.out.fr HFD.out (fun ad n c e h => by have := HNW1.out ad n c e; omega)).fr HFR.out (fun ad n c e h => by have := HNW1.out ad n c e; omega), (HV2.out.fr HFD.out (fun ad n c e h => by have := HNW2.out ad n c e; omega)).fr HFR.out (fun ad n c e h => by have := HNW2.out ad n c e; omega), HBW.out⟩
set_option maxRecDepth 100000 in
set_option maxHeartbeats 4000000 in
theorem read_b4_3NE1 (c : CallV) (mx : Int) (hmx : w.cell? ⟨0, 0, none⟩ = some (.int .i64 mx)) (d : decide (c.op < 1) = false) (d2 : decide (12 < c.op) = false) (d3 : (c.op == 11) = false) (d4 : (c.op == 12) = false) (t3 : (c.op == 3) = true) (n5 : decide (c.op ≤ 5) = true) (l1 : List ByteArray) (hp : fSplit c.path = some l1) (hd : fSplit c.dest = some []) (hn1 : l1 ≠ []) :
    Calls Tryd.prog 10 #[callV c] w fun e w' => ∃ vf vt, e = .returned (.tuple #[planV c vf vt, .int .i64 1]) ∧ NmV w' vf ((fSplit c.path).getD []) ∧ NmV w' vt ((fSplit c.dest).getD []) ∧ Below w.heap.size w w' := by
  unfold callV
  obtain ⟨w0, hw0, b0, k1, k2, k4⟩ := open3 w (callA c) plan0 (planA c none 0 0 none 0 0) 32 47 47
  have R0 : Hid (RdAt w w0 c none 0 0 none 0 0) := Lib.hid ⟨b0, k1, k2, k4⟩
  obtain ⟨a0, a1, a2, a3, a4, a5⟩ := call_at k1
  have y6 : w0.setCell ⟨w.heap.size + 1 + 1, 6, none⟩ (.slice none 0 0) = w0 := blk_same k4 rfl
  have y7 : w0.setCell ⟨w.heap.size + 1 + 1, 7, none⟩ (.slice none 0 0) = w0 := blk_same k4 rfl
  obtain ⟨_, _, _, _, _, _, z6, z7, zf⟩ := plan_at k4
  have hm0 : w0.cell? ⟨0, 0, none⟩ = some (.int .i64 mx) := (b0.cell (p := ⟨0, 0, none⟩) (World.block_lt_of_cell? _ _ hmx)).trans hmx
  have hs1 := split_any c.path mx w0 hm0
  have hs2 := fun W (h : W.cell? ⟨0, 0, none⟩ = some (.int .i64 mx)) => split_any c.dest mx W h
  have HZ := Lib.hid (World.block_lt_of_cell? _ _ hmx)
  unfold callA plan0 planA at hw0
  have i1 : (fSplit c.path).isSome = true := by rw [hp]; rfl
  have i2 : (fSplit c.dest).isSome = true := by rw [hd]; rfl
  rw [i1] at hs1
  rw [i2] at hs2
  generalize hL1 : (fSplit c.path).getD [] = L1 at *
  generalize hL2 : (fSplit c.dest).getD [] = L2 at *
  have hne1 : L1 ≠ [] := by rw [← hL1, hp]; exact hn1
  have hne2 : L2 = [] := by rw [← hL2, hd]; rfl
  have HS2 := Lib.hid hs2; have HM0 := Lib.hid hm0
  have HN1 := Lib.hid hne1; clear hne1
  have HN2 := Lib.hid hne2; clear hne2
  clear hn1
  clear k1 k2 k4 hs2 hm0 hp hL1 hL2 hmx i1 i2 hd
  go_enter Tryd.func10, Tryd.ntmps10
  go_wp2_with fail
  refine hs1.mono ?_
  rintro e w1 ⟨v1, rfl, hv1, hnw1, b1⟩
  have hlt0 := b0.size
  have hk40 := R0.out.k4.lt
  have HNW1 : Hid (∀ ad n c, v1 = .slice (some ad) n c → w.heap.size + 1 + 1 < ad.block) := Lib.hid (fun ad n c e => by have := hnw1 ad n c e; omega)
  have hk41 : w.heap.size + 1 + 1 < w1.heap.size := by have := b1.size; omega
  have R1 := Lib.hid (R0.out.go b1)
  have hm1 : w1.cell? ⟨0, 0, none⟩ = some (.int .i64 mx) := (b1.cell (p := ⟨0, 0, none⟩) (by have := HZ.out; dsimp only at this ⊢; omega)).trans HM0.out
  have hs2 := HS2.out w1 hm1
  obtain ⟨A1, m1, c1, rfl, hl1, hc1, hr1⟩ := hv1
  clear hs1 hm1 HS2 hw0 y6 y7 z6 z7 zf a0 a1 a2 a3 a4 a5 HM0
  obtain ⟨a0, a1, a2, a3, a4, a5⟩ := call_at R1.out.k1
  have HV1 : Hid (NmV w1 (.slice A1 m1 c1) L1) := Lib.hid ⟨A1, m1, c1, rfl, hl1, hc1, hr1⟩
  have HL1 := Lib.hid hl1
  clear b0 b1 hc1 hr1 hl1 hlt0 hk40 hnw1
  go_wp2_with fail
  refine hs2.mono ?_
  rintro e w2 ⟨v2, rfl, hv2, hnw2, b2⟩
  have R2 := Lib.hid (R1.out.go b2)
  have HV12 := Lib.hid (HV1.out.low b2)
  obtain ⟨A2, m2, c2, rfl, hl2, hc2, hr2⟩ := hv2
  have HV2 : Hid (NmV w2 (.slice A2 m2 c2) L2) := Lib.hid ⟨A2, m2, c2, rfl, hl2, hc2, hr2⟩
  obtain ⟨W2, hW2, RD, FD⟩ := R2.out.set (A := A1) (m := m1) (k := c1) (A' := A2) (m' := m2) (k' := c2)
  have HRD := Lib.hid RD
  have HL2 := Lib.hid hl2
  have HNW2 : Hid (∀ ad n c, (Value.slice A2 m2 c2) = .slice (some ad) n c → w.heap.size + 1 + 1 < ad.block) := Lib.hid (fun ad n c e => by have := hnw2 ad n c e; omega)
  clear hs2 a0 a1 a2 a3 a4 a5 b2 hc2 hr2 hl2 hnw2 hk41
  obtain ⟨a0, a1, a2, a3, a4, a5⟩ := call_at RD.k1
  obtain ⟨x0, x1, x2, x3, x4, x5, x6, x7, xz⟩ := plan_at R2.out.k4
  clear RD
  have z1 : ((m1 : Int) == 0) = false := by have h1 := HL1.out; have := List.length_pos_iff.2 HN1.out; have : (m1 : Int) ≠ 0 := by omega
                                            simpa using this
  have z2 : ((m2 : Int) == 0) = true := by have h1 := HL2.out; rw [HN2.out] at h1; simp at h1; simp [← h1]
  obtain ⟨W, hst, hfr, hbw, q0, q1, q2, q3, q4, q5, q6, q7⟩ := st8 HRD.out
  obtain ⟨e0, e1, e2, e3, e4, e5, e6, e7, hfz⟩ := plan0_at HRD.out.k2
  obtain ⟨p0, p1, p2, p3, p4, p5, p6, p7, _⟩ := plan_at HRD.out.k4
  have HBW := Lib.hid hbw; have HFR := Lib.hid hfr; have HFD := Lib.hid FD
  clear hbw hfr FD
  go_wp2_with fail
  refine bodyPost_ret (v := .tuple #[planV c (.slice A1 m1 c1) (.slice A2 m2 c2), .int .i64 1]) (by simp [results, Tryd.results10, go_sem, q0, q1, q2, q3, q4, q5, q6, q7, planV]; try rfl) rfl ?_
  exact ⟨_, _, rfl, (HV12.out.fr HFD.out (fun ad n c e h => by have := HNW1.out ad n c e; omega)).fr HFR.out (fun ad n c e h => by have := HNW1.out ad n c e; omega), (HV2.out.fr HFD.out (fun ad n c e h => by have := HNW2.out ad n c e; omega)).fr HFR.out (fun ad n c e h => by have := HNW2.out ad n c e; omega), HBW.out⟩
set_option maxRecDepth 100000 in
set_option maxHeartbeats 4000000 in
theorem read_b5_3NE1 (c : CallV) (mx : Int) (hmx : w.cell? ⟨0, 0, none⟩ = some (.int .i64 mx)) (d : decide (c.op < 1) = false) (d2 : decide (12 < c.op) = false) (d3 : (c.op == 11) = false) (d4 : (c.op == 12) = false) (t3 : (c.op == 3) = true) (n5 : decide (c.op ≤ 5) = true) (e6 : (c.op == 6) = false) (e7 : (c.op == 7) = false) (e8 : (c.op == 8) = false) (l1 : List ByteArray) (l2 : List ByteArray) (hp : fSplit c.path = some l1) (hd : fSplit c.dest = some l2) (hn1 : l1 ≠ []) (hn2 : l2 ≠ []) :
    Calls Tryd.prog 10 #[callV c] w fun e w' => ∃ vf vt, e = .returned (.tuple #[planV c vf vt, .int .i64 0]) ∧ NmV w' vf ((fSplit c.path).getD []) ∧ NmV w' vt ((fSplit c.dest).getD []) ∧ Below w.heap.size w w' := by
  unfold callV
  obtain ⟨w0, hw0, b0, k1, k2, k4⟩ := open3 w (callA c) plan0 (planA c none 0 0 none 0 0) 32 47 47
  have R0 : Hid (RdAt w w0 c none 0 0 none 0 0) := Lib.hid ⟨b0, k1, k2, k4⟩
  obtain ⟨a0, a1, a2, a3, a4, a5⟩ := call_at k1
  have y6 : w0.setCell ⟨w.heap.size + 1 + 1, 6, none⟩ (.slice none 0 0) = w0 := blk_same k4 rfl
  have y7 : w0.setCell ⟨w.heap.size + 1 + 1, 7, none⟩ (.slice none 0 0) = w0 := blk_same k4 rfl
  obtain ⟨_, _, _, _, _, _, z6, z7, zf⟩ := plan_at k4
  have hm0 : w0.cell? ⟨0, 0, none⟩ = some (.int .i64 mx) := (b0.cell (p := ⟨0, 0, none⟩) (World.block_lt_of_cell? _ _ hmx)).trans hmx
  have hs1 := split_any c.path mx w0 hm0
  have hs2 := fun W (h : W.cell? ⟨0, 0, none⟩ = some (.int .i64 mx)) => split_any c.dest mx W h
  have HZ := Lib.hid (World.block_lt_of_cell? _ _ hmx)
  unfold callA plan0 planA at hw0
  have i1 : (fSplit c.path).isSome = true := by rw [hp]; rfl
  have i2 : (fSplit c.dest).isSome = true := by rw [hd]; rfl
  rw [i1] at hs1
  rw [i2] at hs2
  generalize hL1 : (fSplit c.path).getD [] = L1 at *
  generalize hL2 : (fSplit c.dest).getD [] = L2 at *
  have hne1 : L1 ≠ [] := by rw [← hL1, hp]; exact hn1
  have hne2 : L2 ≠ [] := by rw [← hL2, hd]; exact hn2
  have HS2 := Lib.hid hs2; have HM0 := Lib.hid hm0
  have HN1 := Lib.hid hne1; clear hne1
  have HN2 := Lib.hid hne2; clear hne2
  clear hn1
  clear hn2
  clear k1 k2 k4 hs2 hm0 hp hL1 hL2 hmx i1 i2 hd
  go_enter Tryd.func10, Tryd.ntmps10
  go_wp2_with fail
  refine hs1.mono ?_
  rintro e w1 ⟨v1, rfl, hv1, hnw1, b1⟩
  have hlt0 := b0.size
  have hk40 := R0.out.k4.lt
  have HNW1 : Hid (∀ ad n c, v1 = .slice (some ad) n c → w.heap.size + 1 + 1 < ad.block) := Lib.hid (fun ad n c e => by have := hnw1 ad n c e; omega)
  have hk41 : w.heap.size + 1 + 1 < w1.heap.size := by have := b1.size; omega
  have R1 := Lib.hid (R0.out.go b1)
  have hm1 : w1.cell? ⟨0, 0, none⟩ = some (.int .i64 mx) := (b1.cell (p := ⟨0, 0, none⟩) (by have := HZ.out; dsimp only at this ⊢; omega)).trans HM0.out
  have hs2 := HS2.out w1 hm1
  obtain ⟨A1, m1, c1, rfl, hl1, hc1, hr1⟩ := hv1
  clear hs1 hm1 HS2 hw0 y6 y7 z6 z7 zf a0 a1 a2 a3 a4 a5 HM0
  obtain ⟨a0, a1, a2, a3, a4, a5⟩ := call_at R1.out.k1
  have HV1 : Hid (NmV w1 (.slice A1 m1 c1) L1) := Lib.hid ⟨A1, m1, c1, rfl, hl1, hc1, hr1⟩
  have HL1 := Lib.hid hl1
  clear b0 b1 hc1 hr1 hl1 hlt0 hk40 hnw1
  go_wp2_with fail
  refine hs2.mono ?_
  rintro e w2 ⟨v2, rfl, hv2, hnw2, b2⟩
  have R2 := Lib.hid (R1.out.go b2)
  have HV12 := Lib.hid (HV1.out.low b2)
  obtain ⟨A2, m2, c2, rfl, hl2, hc2, hr2⟩ := hv2
  have HV2 : Hid (NmV w2 (.slice A2 m2 c2) L2) := Lib.hid ⟨A2, m2, c2, rfl, hl2, hc2, hr2⟩
  obtain ⟨W2, hW2, RD, FD⟩ := R2.out.set (A := A1) (m := m1) (k := c1) (A' := A2) (m' := m2) (k' := c2)
  have HRD := Lib.hid RD
  have HL2 := Lib.hid hl2
  have HNW2 : Hid (∀ ad n c, (Value.slice A2 m2 c2) = .slice (some ad) n c → w.heap.size + 1 + 1 < ad.block) := Lib.hid (fun ad n c e => by have := hnw2 ad n c e; omega)
  clear hs2 a0 a1 a2 a3 a4 a5 b2 hc2 hr2 hl2 hnw2 hk41
  obtain ⟨a0, a1, a2, a3, a4, a5⟩ := call_at RD.k1
  obtain ⟨x0, x1, x2, x3, x4, x5, x6, x7, xz⟩ := plan_at R2.out.k4
  clear RD
  have z1 : ((m1 : Int) == 0) = false := by have h1 := HL1.out; have := List.length_pos_iff.2 HN1.out; have : (m1 : Int) ≠ 0 := by omega
                                            simpa using this
  have z2 : ((m2 : Int) == 0) = false := by have h1 := HL2.out; have := List.length_pos_iff.2 HN2.out; have : (m2 : Int) ≠ 0 := by omega
                                            simpa using this
  obtain ⟨W, hst, hfr, hbw, q0, q1, q2, q3, q4, q5, q6, q7⟩ := st8 HRD.out
  obtain ⟨e0, e1, e2, e3, e4, e5, e6, e7, hfz⟩ := plan0_at HRD.out.k2
  obtain ⟨p0, p1, p2, p3, p4, p5, p6, p7, _⟩ := plan_at HRD.out.k4
  have HBW := Lib.hid hbw; have HFR := Lib.hid hfr; have HFD := Lib.hid FD
  clear hbw hfr FD
  go_wp2_with fail
  refine bodyPost_ret (v := .tuple #[planV c (.slice A1 m1 c1) (.slice A2 m2 c2), .int .i64 0]) (by simp [results, Tryd.results10, go_sem, q0, q1, q2, q3, q4, q5, q6, q7, planV]; try rfl) rfl ?_
  exact ⟨_, _, rfl, (HV12.out.fr HFD.out (fun ad n c e h => by have := HNW1.out ad n c e; omega)).fr HFR.out (fun ad n c e h => by have := HNW1.out ad n c e; omega), (HV2.out.fr HFD.out (fun ad n c e h => by have := HNW2.out ad n c e; omega)).fr HFR.out (fun ad n c e h => by have := HNW2.out ad n c e; omega), HBW.out⟩
set_option maxRecDepth 100000 in
set_option maxHeartbeats 4000000 in
theorem read_b1_5 (c : CallV) (mx : Int) (hmx : w.cell? ⟨0, 0, none⟩ = some (.int .i64 mx)) (d : decide (c.op < 1) = false) (d2 : decide (12 < c.op) = false) (d3 : (c.op == 11) = false) (d4 : (c.op == 12) = false) (t3 : (c.op == 3) = false) (t5 : (c.op == 5) = true) (hp : fSplit c.path = none) :
    Calls Tryd.prog 10 #[callV c] w fun e w' => ∃ vf vt, e = .returned (.tuple #[planV c vf vt, .int .i64 1]) ∧ NmV w' vf ((fSplit c.path).getD []) ∧ NmV w' vt ((fSplit c.dest).getD []) ∧ Below w.heap.size w w' := by
  unfold callV
  obtain ⟨w0, hw0, b0, k1, k2, k4⟩ := open3 w (callA c) plan0 (planA c none 0 0 none 0 0) 32 47 47
  have R0 : Hid (RdAt w w0 c none 0 0 none 0 0) := Lib.hid ⟨b0, k1, k2, k4⟩
  obtain ⟨a0, a1, a2, a3, a4, a5⟩ := call_at k1
  have y6 : w0.setCell ⟨w.heap.size + 1 + 1, 6, none⟩ (.slice none 0 0) = w0 := blk_same k4 rfl
  have y7 : w0.setCell ⟨w.heap.size + 1 + 1, 7, none⟩ (.slice none 0 0) = w0 := blk_same k4 rfl
  obtain ⟨_, _, _, _, _, _, z6, z7, zf⟩ := plan_at k4
  have hm0 : w0.cell? ⟨0, 0, none⟩ = some (.int .i64 mx) := (b0.cell (p := ⟨0, 0, none⟩) (World.block_lt_of_cell? _ _ hmx)).trans hmx
  have hs1 := split_any c.path mx w0 hm0
  have hs2 := fun W (h : W.cell? ⟨0, 0, none⟩ = some (.int .i64 mx)) => split_any c.dest mx W h
  have HZ := Lib.hid (World.block_lt_of_cell? _ _ hmx)
  unfold callA plan0 planA at hw0
  have i1 : (fSplit c.path).isSome = false := by rw [hp]; rfl
  rw [i1] at hs1
  generalize (fSplit c.dest).isSome = i2 at hs2
  generalize hL1 : (fSplit c.path).getD [] = L1 at *
  generalize hL2 : (fSplit c.dest).getD [] = L2 at *
  have HS2 := Lib.hid hs2; have HM0 := Lib.hid hm0
  clear k1 k2 k4 hs2 hm0 hp hL1 hL2 hmx i1
  go_enter Tryd.func10, Tryd.ntmps10
  go_wp2_with fail
  refine hs1.mono ?_
  rintro e w1 ⟨v1, rfl, hv1, hnw1, b1⟩
  have hlt0 := b0.size
  have hk40 := R0.out.k4.lt
  have HNW1 : Hid (∀ ad n c, v1 = .slice (some ad) n c → w.heap.size + 1 + 1 < ad.block) := Lib.hid (fun ad n c e => by have := hnw1 ad n c e; omega)
  have hk41 : w.heap.size + 1 + 1 < w1.heap.size := by have := b1.size; omega
  have R1 := Lib.hid (R0.out.go b1)
  have hm1 : w1.cell? ⟨0, 0, none⟩ = some (.int .i64 mx) := (b1.cell (p := ⟨0, 0, none⟩) (by have := HZ.out; dsimp only at this ⊢; omega)).trans HM0.out
  have hs2 := HS2.out w1 hm1
  obtain ⟨A1, m1, c1, rfl, hl1, hc1, hr1⟩ := hv1
  clear hs1 hm1 HS2 hw0 y6 y7 z6 z7 zf a0 a1 a2 a3 a4 a5 HM0
  obtain ⟨a0, a1, a2, a3, a4, a5⟩ := call_at R1.out.k1
  have HV1 : Hid (NmV w1 (.slice A1 m1 c1) L1) := Lib.hid ⟨A1, m1, c1, rfl, hl1, hc1, hr1⟩
  have HL1 := Lib.hid hl1
  clear b0 b1 hc1 hr1 hl1 hlt0 hk40 hnw1
  go_wp2_with fail
  refine hs2.mono ?_
  rintro e w2 ⟨v2, rfl, hv2, hnw2, b2⟩
  have R2 := Lib.hid (R1.out.go b2)
  have HV12 := Lib.hid (HV1.out.low b2)
  obtain ⟨A2, m2, c2, rfl, hl2, hc2, hr2⟩ := hv2
  have HV2 : Hid (NmV w2 (.slice A2 m2 c2) L2) := Lib.hid ⟨A2, m2, c2, rfl, hl2, hc2, hr2⟩
  obtain ⟨W2, hW2, RD, FD⟩ := R2.out.set (A := A1) (m := m1) (k := c1) (A' := A2) (m' := m2) (k' := c2)
  have HRD := Lib.hid RD
  have HL2 := Lib.hid hl2
  have HNW2 : Hid (∀ ad n c, (Value.slice A2 m2 c2) = .slice (some ad) n c → w.heap.size + 1 + 1 < ad.block) := Lib.hid (fun ad n c e => by have := hnw2 ad n c e; omega)
  clear hs2 a0 a1 a2 a3 a4 a5 b2 hc2 hr2 hl2 hnw2 hk41
  obtain ⟨a0, a1, a2, a3, a4, a5⟩ := call_at RD.k1
  obtain ⟨x0, x1, x2, x3, x4, x5, x6, x7, xz⟩ := plan_at R2.out.k4
  clear RD
  obtain ⟨W, hst, hfr, hbw, q0, q1, q2, q3, q4, q5, q6, q7⟩ := st8 HRD.out
  obtain ⟨e0, e1, e2, e3, e4, e5, e6, e7, hfz⟩ := plan0_at HRD.out.k2
  obtain ⟨p0, p1, p2, p3, p4, p5, p6, p7, _⟩ := plan_at HRD.out.k4
  have HBW := Lib.hid hbw; have HFR := Lib.hid hfr; have HFD := Lib.hid FD
  clear hbw hfr FD
  go_wp2_with fail
  refine bodyPost_ret (v := .tuple #[planV c (.slice A1 m1 c1) (.slice A2 m2 c2), .int .i64 1]) (by simp [results, Tryd.results10, go_sem, q0, q1, q2, q3, q4, q5, q6, q7, planV]; try rfl) rfl ?_
  exact ⟨_, _, rfl, (HV12.out.fr HFD.out (fun ad n c e h => by have := HNW1.out ad n c e; omega)).fr HFR.out (fun ad n c e h => by have := HNW1.out ad n c e; omega), (HV2.out.fr HFD.out (fun ad n c e h => by have := HNW2.out ad n c e; omega)).fr HFR.out (fun ad n c e h => by have := HNW2.out ad n c e; omega), HBW.out⟩
set_option maxRecDepth 100000 in
set_option maxHeartbeats 4000000 in
theorem read_b2_5 (c : CallV) (mx : Int) (hmx : w.cell? ⟨0, 0, none⟩ = some (.int .i64 mx)) (d : decide (c.op < 1) = false) (d2 : decide (12 < c.op) = false) (d3 : (c.op == 11) = false) (d4 : (c.op == 12) = false) (t3 : (c.op == 3) = false) (t5 : (c.op == 5) = true) (l1 : List ByteArray) (hp : fSplit c.path = some l1) (hd : fSplit c.dest = none) :
    Calls Tryd.prog 10 #[callV c] w fun e w' => ∃ vf vt, e = .returned (.tuple #[planV c vf vt, .int .i64 1]) ∧ NmV w' vf ((fSplit c.path).getD []) ∧ NmV w' vt ((fSplit c.dest).getD []) ∧ Below w.heap.size w w' := by
  unfold callV
  obtain ⟨w0, hw0, b0, k1, k2, k4⟩ := open3 w (callA c) plan0 (planA c none 0 0 none 0 0) 32 47 47
  have R0 : Hid (RdAt w w0 c none 0 0 none 0 0) := Lib.hid ⟨b0, k1, k2, k4⟩
  obtain ⟨a0, a1, a2, a3, a4, a5⟩ := call_at k1
  have y6 : w0.setCell ⟨w.heap.size + 1 + 1, 6, none⟩ (.slice none 0 0) = w0 := blk_same k4 rfl
  have y7 : w0.setCell ⟨w.heap.size + 1 + 1, 7, none⟩ (.slice none 0 0) = w0 := blk_same k4 rfl
  obtain ⟨_, _, _, _, _, _, z6, z7, zf⟩ := plan_at k4
  have hm0 : w0.cell? ⟨0, 0, none⟩ = some (.int .i64 mx) := (b0.cell (p := ⟨0, 0, none⟩) (World.block_lt_of_cell? _ _ hmx)).trans hmx
  have hs1 := split_any c.path mx w0 hm0
  have hs2 := fun W (h : W.cell? ⟨0, 0, none⟩ = some (.int .i64 mx)) => split_any c.dest mx W h
  have HZ := Lib.hid (World.block_lt_of_cell? _ _ hmx)
  unfold callA plan0 planA at hw0
  have i1 : (fSplit c.path).isSome = true := by rw [hp]; rfl
  have i2 : (fSplit c.dest).isSome = false := by rw [hd]; rfl
  rw [i1] at hs1
  rw [i2] at hs2
  generalize hL1 : (fSplit c.path).getD [] = L1 at *
  generalize hL2 : (fSplit c.dest).getD [] = L2 at *
  have HS2 := Lib.hid hs2; have HM0 := Lib.hid hm0
  clear k1 k2 k4 hs2 hm0 hp hL1 hL2 hmx i1 i2 hd
  go_enter Tryd.func10, Tryd.ntmps10
  go_wp2_with fail
  refine hs1.mono ?_
  rintro e w1 ⟨v1, rfl, hv1, hnw1, b1⟩
  have hlt0 := b0.size
  have hk40 := R0.out.k4.lt
  have HNW1 : Hid (∀ ad n c, v1 = .slice (some ad) n c → w.heap.size + 1 + 1 < ad.block) := Lib.hid (fun ad n c e => by have := hnw1 ad n c e; omega)
  have hk41 : w.heap.size + 1 + 1 < w1.heap.size := by have := b1.size; omega
  have R1 := Lib.hid (R0.out.go b1)
  have hm1 : w1.cell? ⟨0, 0, none⟩ = some (.int .i64 mx) := (b1.cell (p := ⟨0, 0, none⟩) (by have := HZ.out; dsimp only at this ⊢; omega)).trans HM0.out
  have hs2 := HS2.out w1 hm1
  obtain ⟨A1, m1, c1, rfl, hl1, hc1, hr1⟩ := hv1
  clear hs1 hm1 HS2 hw0 y6 y7 z6 z7 zf a0 a1 a2 a3 a4 a5 HM0
  obtain ⟨a0, a1, a2, a3, a4, a5⟩ := call_at R1.out.k1
  have HV1 : Hid (NmV w1 (.slice A1 m1 c1) L1) := Lib.hid ⟨A1, m1, c1, rfl, hl1, hc1, hr1⟩
  have HL1 := Lib.hid hl1
  clear b0 b1 hc1 hr1 hl1 hlt0 hk40 hnw1
  go_wp2_with fail
  refine hs2.mono ?_
  rintro e w2 ⟨v2, rfl, hv2, hnw2, b2⟩
  have R2 := Lib.hid (R1.out.go b2)
  have HV12 := Lib.hid (HV1.out.low b2)
  obtain ⟨A2, m2, c2, rfl, hl2, hc2, hr2⟩ := hv2
  have HV2 : Hid (NmV w2 (.slice A2 m2 c2) L2) := Lib.hid ⟨A2, m2, c2, rfl, hl2, hc2, hr2⟩
  obtain ⟨W2, hW2, RD, FD⟩ := R2.out.set (A := A1) (m := m1) (k := c1) (A' := A2) (m' := m2) (k' := c2)
  have HRD := Lib.hid RD
  have HL2 := Lib.hid hl2
  have HNW2 : Hid (∀ ad n c, (Value.slice A2 m2 c2) = .slice (some ad) n c → w.heap.size + 1 + 1 < ad.block) := Lib.hid (fun ad n c e => by have := hnw2 ad n c e; omega)
  clear hs2 a0 a1 a2 a3 a4 a5 b2 hc2 hr2 hl2 hnw2 hk41
  obtain ⟨a0, a1, a2, a3, a4, a5⟩ := call_at RD.k1
  obtain ⟨x0, x1, x2, x3, x4, x5, x6, x7, xz⟩ := plan_at R2.out.k4
  clear RD
  obtain ⟨W, hst, hfr, hbw, q0, q1, q2, q3, q4, q5, q6, q7⟩ := st8 HRD.out
  obtain ⟨e0, e1, e2, e3, e4, e5, e6, e7, hfz⟩ := plan0_at HRD.out.k2
  obtain ⟨p0, p1, p2, p3, p4, p5, p6, p7, _⟩ := plan_at HRD.out.k4
  have HBW := Lib.hid hbw; have HFR := Lib.hid hfr; have HFD := Lib.hid FD
  clear hbw hfr FD
  go_wp2_with fail
  refine bodyPost_ret (v := .tuple #[planV c (.slice A1 m1 c1) (.slice A2 m2 c2), .int .i64 1]) (by simp [results, Tryd.results10, go_sem, q0, q1, q2, q3, q4, q5, q6, q7, planV]; try rfl) rfl ?_
  exact ⟨_, _, rfl, (HV12.out.fr HFD.out (fun ad n c e h => by have := HNW1.out ad n c e; omega)).fr HFR.out (fun ad n c e h => by have := HNW1.out ad n c e; omega), (HV2.out.fr HFD.out (fun ad n c e h => by have := HNW2.out ad n c e; omega)).fr HFR.out (fun ad n c e h => by have := HNW2.out ad n c e; omega), HBW.out⟩
set_option maxRecDepth 100000 in
set_option maxHeartbeats 4000000 in
theorem read_b3_5 (c : CallV) (mx : Int) (hmx : w.cell? ⟨0, 0, none⟩ = some (.int .i64 mx)) (d : decide (c.op < 1) = false) (d2 : decide (12 < c.op) = false) (d3 : (c.op == 11) = false) (d4 : (c.op == 12) = false) (t3 : (c.op == 3) = false) (t5 : (c.op == 5) = true) (n5 : decide (c.op ≤ 5) = true) (l2 : List ByteArray) (hp : fSplit c.path = some []) (hd : fSplit c.dest = some l2) :
    Calls Tryd.prog 10 #[callV c] w fun e w' => ∃ vf vt, e = .returned (.tuple #[planV c vf vt, .int .i64 1]) ∧ NmV w' vf ((fSplit c.path).getD []) ∧ NmV w' vt ((fSplit c.dest).getD []) ∧ Below w.heap.size w w' := by
  unfold callV
  obtain ⟨w0, hw0, b0, k1, k2, k4⟩ := open3 w (callA c) plan0 (planA c none 0 0 none 0 0) 32 47 47
  have R0 : Hid (RdAt w w0 c none 0 0 none 0 0) := Lib.hid ⟨b0, k1, k2, k4⟩
  obtain ⟨a0, a1, a2, a3, a4, a5⟩ := call_at k1
  have y6 : w0.setCell ⟨w.heap.size + 1 + 1, 6, none⟩ (.slice none 0 0) = w0 := blk_same k4 rfl
  have y7 : w0.setCell ⟨w.heap.size + 1 + 1, 7, none⟩ (.slice none 0 0) = w0 := blk_same k4 rfl
  obtain ⟨_, _, _, _, _, _, z6, z7, zf⟩ := plan_at k4
  have hm0 : w0.cell? ⟨0, 0, none⟩ = some (.int .i64 mx) := (b0.cell (p := ⟨0, 0, none⟩) (World.block_lt_of_cell? _ _ hmx)).trans hmx
  have hs1 := split_any c.path mx w0 hm0
  have hs2 := fun W (h : W.cell? ⟨0, 0, none⟩ = some (.int .i64 mx)) => split_any c.dest mx W h
  have HZ := Lib.hid (World.block_lt_of_cell? _ _ hmx)
  unfold callA plan0 planA at hw0
  have i1 : (fSplit c.path).isSome = true := by rw [hp]; rfl
  have i2 : (fSplit c.dest).isSome = true := by rw [hd]; rfl
  rw [i1] at hs1
  rw [i2] at hs2
  generalize hL1 : (fSplit c.path).getD [] = L1 at *
  generalize hL2 : (fSplit c.dest).getD [] = L2 at *
  have hne1 : L1 = [] := by rw [← hL1, hp]; rfl
  have HS2 := Lib.hid hs2; have HM0 := Lib.hid hm0
  have HN1 := Lib.hid hne1; clear hne1
  clear k1 k2 k4 hs2 hm0 hp hL1 hL2 hmx i1 i2 hd
  go_enter Tryd.func10, Tryd.ntmps10
  go_wp2_with fail
  refine hs1.mono ?_
  rintro e w1 ⟨v1, rfl, hv1, hnw1, b1⟩
  have hlt0 := b0.size
  have hk40 := R0.out.k4.lt
  have HNW1 : Hid (∀ ad n c, v1 = .slice (some ad) n c → w.heap.size + 1 + 1 < ad.block) := Lib.hid (fun ad n c e => by have := hnw1 ad n c e; omega)
  have hk41 : w.heap.size + 1 + 1 < w1.heap.size := by have := b1.size; omega
  have R1 := Lib.hid (R0.out.go b1)
  have hm1 : w1.cell? ⟨0, 0, none⟩ = some (.int .i64 mx) := (b1.cell (p := ⟨0, 0, none⟩) (by have := HZ.out; dsimp only at this ⊢; omega)).trans HM0.out
  have hs2 := HS2.out w1 hm1
  obtain ⟨A1, m1, c1, rfl, hl1, hc1, hr1⟩ := hv1
  clear hs1 hm1 HS2 hw0 y6 y7 z6 z7 zf a0 a1 a2 a3 a4 a5 HM0
  obtain ⟨a0, a1, a2, a3, a4, a5⟩ := call_at R1.out.k1
  have HV1 : Hid (NmV w1 (.slice A1 m1 c1) L1) := Lib.hid ⟨A1, m1, c1, rfl, hl1, hc1, hr1⟩
  have HL1 := Lib.hid hl1
  clear b0 b1 hc1 hr1 hl1 hlt0 hk40 hnw1
  go_wp2_with fail
  refine hs2.mono ?_
  rintro e w2 ⟨v2, rfl, hv2, hnw2, b2⟩
  have R2 := Lib.hid (R1.out.go b2)
  have HV12 := Lib.hid (HV1.out.low b2)
  obtain ⟨A2, m2, c2, rfl, hl2, hc2, hr2⟩ := hv2
  have HV2 : Hid (NmV w2 (.slice A2 m2 c2) L2) := Lib.hid ⟨A2, m2, c2, rfl, hl2, hc2, hr2⟩
  obtain ⟨W2, hW2, RD, FD⟩ := R2.out.set (A := A1) (m := m1) (k := c1) (A' := A2) (m' := m2) (k' := c2)
  have HRD := Lib.hid RD
  have HL2 := Lib.hid hl2
  have HNW2 : Hid (∀ ad n c, (Value.slice A2 m2 c2) = .slice (some ad) n c → w.heap.size + 1 + 1 < ad.block) := Lib.hid (fun ad n c e => by have := hnw2 ad n c e; omega)
  clear hs2 a0 a1 a2 a3 a4 a5 b2 hc2 hr2 hl2 hnw2 hk41
  obtain ⟨a0, a1, a2, a3, a4, a5⟩ := call_at RD.k1
  obtain ⟨x0, x1, x2, x3, x4, x5, x6, x7, xz⟩ := plan_at R2.out.k4
  clear RD
  have z1 : ((m1 : Int) == 0) = true := by have h1 := HL1.out; rw [HN1.out] at h1; simp at h1; simp [← h1]
  obtain ⟨W, hst, hfr, hbw, q0, q1, q2, q3, q4, q5, q6, q7⟩ := st8 HRD.out
  obtain ⟨e0, e1, e2, e3, e4, e5, e6, e7, hfz⟩ := plan0_at HRD.out.k2
  obtain ⟨p0, p1, p2, p3, p4, p5, p6, p7, _⟩ := plan_at HRD.out.k4
  have HBW := Lib.hid hbw; have HFR := Lib.hid hfr; have HFD := Lib.hid FD
  clear hbw hfr FD
  go_wp2_with fail
  refine bodyPost_ret (v := .tuple #[planV c (.slice A1 m1 c1) (.slice A2 m2 c2), .int .i64 1]) (by simp [results, Tryd.results10, go_sem, q0, q1, q2, q3, q4, q5, q6, q7, planV]; try rfl) rfl ?_
  exact ⟨_, _, rfl, (HV12.out.fr HFD.out (fun ad n c e h => by have := HNW1.out ad n c e; omega)).fr HFR.out (fun ad n c e h => by have := HNW1.out ad n c e; omega), (HV2.out.fr HFD.out (fun ad n c e h => by have := HNW2.out ad n c e; omega)).fr HFR.out (fun ad n c e h => by have := HNW2.out ad n c e; omega), HBW.out⟩
set_option maxRecDepth 100000 in
set_option maxHeartbeats 4000000 in
theorem read_b4_5NE1 (c : CallV) (mx : Int) (hmx : w.cell? ⟨0, 0, none⟩ = some (.int .i64 mx)) (d : decide (c.op < 1) = false) (d2 : decide (12 < c.op) = false) (d3 : (c.op == 11) = false) (d4 : (c.op == 12) = false) (t3 : (c.op == 3) = false) (t5 : (c.op == 5) = true) (n5 : decide (c.op ≤ 5) = true) (l1 : List ByteArray) (hp : fSplit c.path = some l1) (hd : fSplit c.dest = some []) (hn1 : l1 ≠ []) :
    Calls Tryd.prog 10 #[callV c] w fun e w' => ∃ vf vt, e = .returned (.tuple #[planV c vf vt, .int .i64 1]) ∧ NmV w' vf ((fSplit c.path).getD []) ∧ NmV w' vt ((fSplit c.dest).getD []) ∧ Below w.heap.size w w' := by
  unfold callV
  obtain ⟨w0, hw0, b0, k1, k2, k4⟩ := open3 w (callA c) plan0 (planA c none 0 0 none 0 0) 32 47 47
  have R0 : Hid (RdAt w w0 c none 0 0 none 0 0) := Lib.hid ⟨b0, k1, k2, k4⟩
  obtain ⟨a0, a1, a2, a3, a4, a5⟩ := call_at k1
  have y6 : w0.setCell ⟨w.heap.size + 1 + 1, 6, none⟩ (.slice none 0 0) = w0 := blk_same k4 rfl
  have y7 : w0.setCell ⟨w.heap.size + 1 + 1, 7, none⟩ (.slice none 0 0) = w0 := blk_same k4 rfl
  obtain ⟨_, _, _, _, _, _, z6, z7, zf⟩ := plan_at k4
  have hm0 : w0.cell? ⟨0, 0, none⟩ = some (.int .i64 mx) := (b0.cell (p := ⟨0, 0, none⟩) (World.block_lt_of_cell? _ _ hmx)).trans hmx
  have hs1 := split_any c.path mx w0 hm0
  have hs2 := fun W (h : W.cell? ⟨0, 0, none⟩ = some (.int .i64 mx)) => split_any c.dest mx W h
  have HZ := Lib.hid (World.block_lt_of_cell? _ _ hmx)
  unfold callA plan0 planA at hw0
  have i1 : (fSplit c.path).isSome = true := by rw [hp]; rfl
  have i2 : (fSplit c.dest).isSome = true := by rw [hd]; rfl
  rw [i1] at hs1
  rw [i2] at hs2
  generalize hL1 : (fSplit c.path).getD [] = L1 at *
  generalize hL2 : (fSplit c.dest).getD [] = L2 at *
  have hne1 : L1 ≠ [] := by rw [← hL1, hp]; exact hn1
  have hne2 : L2 = [] := by rw [← hL2, hd]; rfl
  have HS2 := Lib.hid hs2; have HM0 := Lib.hid hm0
  have HN1 := Lib.hid hne1; clear hne1
  have HN2 := Lib.hid hne2; clear hne2
  clear hn1
  clear k1 k2 k4 hs2 hm0 hp hL1 hL2 hmx i1 i2 hd
  go_enter Tryd.func10, Tryd.ntmps10
  go_wp2_with fail
  refine hs1.mono ?_
  rintro e w1 ⟨v1, rfl, hv1, hnw1, b1⟩
  have hlt0 := b0.size
  have hk40 := R0.out.k4.lt
  have HNW1 : Hid (∀ ad n c, v1 = .slice (some ad) n c → w.heap.size + 1 + 1 < ad.block) := Lib.hid (fun ad n c e => by have := hnw1 ad n c e; omega)
  have hk41 : w.heap.size + 1 + 1 < w1.heap.size := by have := b1.size; omega
  have R1 := Lib.hid (R0.out.go b1)
  have hm1 : w1.cell? ⟨0, 0, none⟩ = some (.int .i64 mx) := (b1.cell (p := ⟨0, 0, none⟩) (by have := HZ.out; dsimp only at this ⊢; omega)).trans HM0.out
  have hs2 := HS2.out w1 hm1
  obtain ⟨A1, m1, c1, rfl, hl1, hc1, hr1⟩ := hv1
  clear hs1 hm1 HS2 hw0 y6 y7 z6 z7 zf a0 a1 a2 a3 a4 a5 HM0
  obtain ⟨a0, a1, a2, a3, a4, a5⟩ := call_at R1.out.k1
  have HV1 : Hid (NmV w1 (.slice A1 m1 c1) L1) := Lib.hid ⟨A1, m1, c1, rfl, hl1, hc1, hr1⟩
  have HL1 := Lib.hid hl1
  clear b0 b1 hc1 hr1 hl1 hlt0 hk40 hnw1
  go_wp2_with fail
  refine hs2.mono ?_
  rintro e w2 ⟨v2, rfl, hv2, hnw2, b2⟩
  have R2 := Lib.hid (R1.out.go b2)
  have HV12 := Lib.hid (HV1.out.low b2)
  obtain ⟨A2, m2, c2, rfl, hl2, hc2, hr2⟩ := hv2
  have HV2 : Hid (NmV w2 (.slice A2 m2 c2) L2) := Lib.hid ⟨A2, m2, c2, rfl, hl2, hc2, hr2⟩
  obtain ⟨W2, hW2, RD, FD⟩ := R2.out.set (A := A1) (m := m1) (k := c1) (A' := A2) (m' := m2) (k' := c2)
  have HRD := Lib.hid RD
  have HL2 := Lib.hid hl2
  have HNW2 : Hid (∀ ad n c, (Value.slice A2 m2 c2) = .slice (some ad) n c → w.heap.size + 1 + 1 < ad.block) := Lib.hid (fun ad n c e => by have := hnw2 ad n c e; omega)
  clear hs2 a0 a1 a2 a3 a4 a5 b2 hc2 hr2 hl2 hnw2 hk41
  obtain ⟨a0, a1, a2, a3, a4, a5⟩ := call_at RD.k1
  obtain ⟨x0, x1, x2, x3, x4, x5, x6, x7, xz⟩ := plan_at R2.out.k4
  clear RD
  have z1 : ((m1 : Int) == 0) = false := by have h1 := HL1.out; have := List.length_pos_iff.2 HN1.out; have : (m1 : Int) ≠ 0 := by omega
                                            simpa using this
  have z2 : ((m2 : Int) == 0) = true := by have h1 := HL2.out; rw [HN2.out] at h1; simp at h1; simp [← h1]
  obtain ⟨W, hst, hfr, hbw, q0, q1, q2, q3, q4, q5, q6, q7⟩ := st8 HRD.out
  obtain ⟨e0, e1, e2, e3, e4, e5, e6, e7, hfz⟩ := plan0_at HRD.out.k2
  obtain ⟨p0, p1, p2, p3, p4, p5, p6, p7, _⟩ := plan_at HRD.out.k4
  have HBW := Lib.hid hbw; have HFR := Lib.hid hfr; have HFD := Lib.hid FD
  clear hbw hfr FD
  go_wp2_with fail
  refine bodyPost_ret (v := .tuple #[planV c (.slice A1 m1 c1) (.slice A2 m2 c2), .int .i64 1]) (by simp [results, Tryd.results10, go_sem, q0, q1, q2, q3, q4, q5, q6, q7, planV]; try rfl) rfl ?_
  exact ⟨_, _, rfl, (HV12.out.fr HFD.out (fun ad n c e h => by have := HNW1.out ad n c e; omega)).fr HFR.out (fun ad n c e h => by have := HNW1.out ad n c e; omega), (HV2.out.fr HFD.out (fun ad n c e h => by have := HNW2.out ad n c e; omega)).fr HFR.out (fun ad n c e h => by have := HNW2.out ad n c e; omega), HBW.out⟩
set_option maxRecDepth 100000 in
set_option maxHeartbeats 4000000 in
theorem read_b5_5NE1 (c : CallV) (mx : Int) (hmx : w.cell? ⟨0, 0, none⟩ = some (.int .i64 mx)) (d : decide (c.op < 1) = false) (d2 : decide (12 < c.op) = false) (d3 : (c.op == 11) = false) (d4 : (c.op == 12) = false) (t3 : (c.op == 3) = false) (t5 : (c.op == 5) = true) (n5 : decide (c.op ≤ 5) = true) (e6 : (c.op == 6) = false) (e7 : (c.op == 7) = false) (e8 : (c.op == 8) = false) (l1 : List ByteArray) (l2 : List ByteArray) (hp : fSplit c.path = some l1) (hd : fSplit c.dest = some l2) (hn1 : l1 ≠ []) (hn2 : l2 ≠ []) :
    Calls Tryd.prog 10 #[callV c] w fun e w' => ∃ vf vt, e = .returned (.tuple #[planV c vf vt, .int .i64 0]) ∧ NmV w' vf ((fSplit c.path).getD []) ∧ NmV w' vt ((fSplit c.dest).getD []) ∧ Below w.heap.size w w' := by
  unfold callV
  obtain ⟨w0, hw0, b0, k1, k2, k4⟩ := open3 w (callA c) plan0 (planA c none 0 0 none 0 0) 32 47 47
  have R0 : Hid (RdAt w w0 c none 0 0 none 0 0) := Lib.hid ⟨b0, k1, k2, k4⟩
  obtain ⟨a0, a1, a2, a3, a4, a5⟩ := call_at k1
  have y6 : w0.setCell ⟨w.heap.size + 1 + 1, 6, none⟩ (.slice none 0 0) = w0 := blk_same k4 rfl
  have y7 : w0.setCell ⟨w.heap.size + 1 + 1, 7, none⟩ (.slice none 0 0) = w0 := blk_same k4 rfl
  obtain ⟨_, _, _, _, _, _, z6, z7, zf⟩ := plan_at k4
  have hm0 : w0.cell? ⟨0, 0, none⟩ = some (.int .i64 mx) := (b0.cell (p := ⟨0, 0, none⟩) (World.block_lt_of_cell? _ _ hmx)).trans hmx
  have hs1 := split_any c.path mx w0 hm0
  have hs2 := fun W (h : W.cell? ⟨0, 0, none⟩ = some (.int .i64 mx)) => split_any c.dest mx W h
  have HZ := Lib.hid (World.block_lt_of_cell? _ _ hmx)
  unfold callA plan0 planA at hw0
  have i1 : (fSplit c.path).isSome = true := by rw [hp]; rfl
  have i2 : (fSplit c.dest).isSome = true := by rw [hd]; rfl
  rw [i1] at hs1
  rw [i2] at hs2
  generalize hL1 : (fSplit c.path).getD [] = L1 at *
  generalize hL2 : (fSplit c.dest).getD [] = L2 at *
  have hne1 : L1 ≠ [] := by rw [← hL1, hp]; exact hn1
  have hne2 : L2 ≠ [] := by rw [← hL2, hd]; exact hn2
  have HS2 := Lib.hid hs2; have HM0 := Lib.hid hm0
  have HN1 := Lib.hid hne1; clear hne1
  have HN2 := Lib.hid hne2; clear hne2
  clear hn1
  clear hn2
  clear k1 k2 k4 hs2 hm0 hp hL1 hL2 hmx i1 i2 hd
  go_enter Tryd.func10, Tryd.ntmps10
  go_wp2_with fail
  refine hs1.mono ?_
  rintro e w1 ⟨v1, rfl, hv1, hnw1, b1⟩
  have hlt0 := b0.size
  have hk40 := R0.out.k4.lt
  have HNW1 : Hid (∀ ad n c, v1 = .slice (some ad) n c → w.heap.size + 1 + 1 < ad.block) := Lib.hid (fun ad n c e => by have := hnw1 ad n c e; omega)
  have hk41 : w.heap.size + 1 + 1 < w1.heap.size := by have := b1.size; omega
  have R1 := Lib.hid (R0.out.go b1)
  have hm1 : w1.cell? ⟨0, 0, none⟩ = some (.int .i64 mx) := (b1.cell (p := ⟨0, 0, none⟩) (by have := HZ.out; dsimp only at this ⊢; omega)).trans HM0.out
  have hs2 := HS2.out w1 hm1
  obtain ⟨A1, m1, c1, rfl, hl1, hc1, hr1⟩ := hv1
  clear hs1 hm1 HS2 hw0 y6 y7 z6 z7 zf a0 a1 a2 a3 a4 a5 HM0
  obtain ⟨a0, a1, a2, a3, a4, a5⟩ := call_at R1.out.k1
  have HV1 : Hid (NmV w1 (.slice A1 m1 c1) L1) := Lib.hid ⟨A1, m1, c1, rfl, hl1, hc1, hr1⟩
  have HL1 := Lib.hid hl1
  clear b0 b1 hc1 hr1 hl1 hlt0 hk40 hnw1
  go_wp2_with fail
  refine hs2.mono ?_
  rintro e w2 ⟨v2, rfl, hv2, hnw2, b2⟩
  have R2 := Lib.hid (R1.out.go b2)
  have HV12 := Lib.hid (HV1.out.low b2)
  obtain ⟨A2, m2, c2, rfl, hl2, hc2, hr2⟩ := hv2
  have HV2 : Hid (NmV w2 (.slice A2 m2 c2) L2) := Lib.hid ⟨A2, m2, c2, rfl, hl2, hc2, hr2⟩
  obtain ⟨W2, hW2, RD, FD⟩ := R2.out.set (A := A1) (m := m1) (k := c1) (A' := A2) (m' := m2) (k' := c2)
  have HRD := Lib.hid RD
  have HL2 := Lib.hid hl2
  have HNW2 : Hid (∀ ad n c, (Value.slice A2 m2 c2) = .slice (some ad) n c → w.heap.size + 1 + 1 < ad.block) := Lib.hid (fun ad n c e => by have := hnw2 ad n c e; omega)
  clear hs2 a0 a1 a2 a3 a4 a5 b2 hc2 hr2 hl2 hnw2 hk41
  obtain ⟨a0, a1, a2, a3, a4, a5⟩ := call_at RD.k1
  obtain ⟨x0, x1, x2, x3, x4, x5, x6, x7, xz⟩ := plan_at R2.out.k4
  clear RD
  have z1 : ((m1 : Int) == 0) = false := by have h1 := HL1.out; have := List.length_pos_iff.2 HN1.out; have : (m1 : Int) ≠ 0 := by omega
                                            simpa using this
  have z2 : ((m2 : Int) == 0) = false := by have h1 := HL2.out; have := List.length_pos_iff.2 HN2.out; have : (m2 : Int) ≠ 0 := by omega
                                            simpa using this
  obtain ⟨W, hst, hfr, hbw, q0, q1, q2, q3, q4, q5, q6, q7⟩ := st8 HRD.out
  obtain ⟨e0, e1, e2, e3, e4, e5, e6, e7, hfz⟩ := plan0_at HRD.out.k2
  obtain ⟨p0, p1, p2, p3, p4, p5, p6, p7, _⟩ := plan_at HRD.out.k4
  have HBW := Lib.hid hbw; have HFR := Lib.hid hfr; have HFD := Lib.hid FD
  clear hbw hfr FD
  go_wp2_with fail
  refine bodyPost_ret (v := .tuple #[planV c (.slice A1 m1 c1) (.slice A2 m2 c2), .int .i64 0]) (by simp [results, Tryd.results10, go_sem, q0, q1, q2, q3, q4, q5, q6, q7, planV]; try rfl) rfl ?_
  exact ⟨_, _, rfl, (HV12.out.fr HFD.out (fun ad n c e h => by have := HNW1.out ad n c e; omega)).fr HFR.out (fun ad n c e h => by have := HNW1.out ad n c e; omega), (HV2.out.fr HFD.out (fun ad n c e h => by have := HNW2.out ad n c e; omega)).fr HFR.out (fun ad n c e h => by have := HNW2.out ad n c e; omega), HBW.out⟩
end
end Go.Proofs.YtglglbbjacgbdaaDoor
