import Derived.Test.YtekgoliakgknjaaDiB
namespace Go.Proofs.Ytekgoliakgknjaa
open Go.RowKit
set_option linter.unusedVariables false
attribute [local go_sem] b_max2 b_min2 b_max b_min

theorem Fr.keep_fm {F : Nat → Prop} {w w' : World} {b : Nat} {m : Int → Option Value} (hf : Fr F w w') (h : FM w b m) (hb : ¬ F b) : FM w' b m := h.keep hf hb
section
variable {w w' : World} {g : Nat} {F : Nat → Prop} {d : DS}
set_option maxRecDepth 100000 in
theorem sectors_any (h : IsD w g F d) : Calls Try.prog 27 #[.pointer (some ⟨g, 0, none⟩)] w fun e w' => e = .returned (.int .i64 d.lies.length) ∧ w = w' := by
  obtain ⟨vl, vp, kb, cb, cv, h1, h2, h3, h4, h5, h6, h7, h8, h9, h10, h11, h12, h13, h14, h15, h16, h17⟩ := h.form
  have c0 : w.cell? ⟨g, 0, none⟩ = some vl := h1.cell 0
  obtain ⟨A, c, rfl, _, _⟩ := Reads.of_own h8
  go_enter Try.func27, Try.ntmps27
  go_wp2_with fail
  go_ret
  exact ⟨rfl, rfl⟩
theorem sectors_nil (w : World) : Calls Try.prog 27 #[.pointer none] w fun e w' => e = .returned (.int .i64 0) ∧ w = w' := by
  go_enter Try.func27, Try.ntmps27
  go_wp2_with fail
  go_ret
  exact ⟨rfl, rfl⟩
/-- what lies in a sector -/
def fPeek (d : DS) (s : Int) : ByteArray := if 0 ≤ s ∧ s < d.lies.length then d.lies.getD s.toNat ⟨#[]⟩ else ⟨#[]⟩
set_option maxRecDepth 100000 in
theorem peek_any (h : IsD w g F d) (s : Int) : Calls Try.prog 16 #[.pointer (some ⟨g, 0, none⟩), .int .i64 s] w fun e w' => e = .returned (.string (fPeek d s)) ∧ w = w' := by
  have hs := @sectors_any w g F d h
  obtain ⟨vl, vp, kb, cb, cv, h1, h2, h3, h4, h5, h6, h7, h8, h9, h10, h11, h12, h13, h14, h15, h16, h17⟩ := h.form
  have c0 : w.cell? ⟨g, 0, none⟩ = some vl := h1.cell 0
  obtain ⟨A, c, rfl, _, hR⟩ := Reads.of_own h8
  go_enter Try.func16, Try.ntmps16
  rcases (show s < 0 ∨ (0 ≤ s ∧ (d.lies.length : Int) ≤ s) ∨ (0 ≤ s ∧ s < d.lies.length) by omega) with hlt | ⟨hlt, hge⟩ | ⟨hlt, hge⟩
  · go_wp2_with fail
    go_ret
    exact ⟨by rw [fPeek, if_neg (by omega)]; rfl, rfl⟩
  · go_wp2_with (go_at_call 27; refine hs.mono ?_; rintro e w' ⟨rfl, rfl⟩)
    go_ret
    exact ⟨by rw [fPeek, if_neg (by omega)]; rfl, rfl⟩
  · obtain ⟨n, rfl⟩ := Int.eq_ofNat_of_zero_le hlt
    obtain ⟨ad, rfl, hb, hc⟩ := hR.2 (by omega)
    have hg := hc n _ (by rw [List.getElem?_map, List.getElem?_eq_getElem (by omega)]; rfl)
    go_wp2_with (go_at_call 27; refine hs.mono ?_; rintro e w' ⟨rfl, rfl⟩)
    go_ret
    exact ⟨by rw [fPeek, if_pos (by omega)]; simp [List.getD_eq_getElem?_getD, List.getElem?_eq_getElem (show n < d.lies.length by omega)], rfl⟩
set_option maxRecDepth 100000 in
theorem registered_any (h : IsD w g F d) (k : Int) : Calls Try.prog 23 #[.pointer (some ⟨g, 0, none⟩), .int .i64 k] w fun e w' => e = .returned (.bool ((d.keys k).getD false)) ∧ w = w' := by
  obtain ⟨vl, vp, kb, cb, cv, h1, h2, h3, h4, h5, h6, h7, h8, h9, h10, h11, h12, h13, h14, h15, h16, h17⟩ := h.form
  have c1 : w.cell? ⟨g, 1, none⟩ = some (.map (some kb)) := h1.cell 1
  have hl := h10.look Try.underlying66 Try.underlying3 (Try.zeroValue4 _) k
  have e1 : ((d.keys k).map Value.bool).getD (Value.bool false) = .bool ((d.keys k).getD false) := by cases d.keys k <;> rfl
  simp only [e1] at hl
  go_enter Try.func23, Try.ntmps23
  go_wp2_with fail
  go_ret
  exact ⟨rfl, rfl⟩
theorem registered_nil (w : World) (k : Int) : Calls Try.prog 23 #[.pointer none, .int .i64 k] w fun e w' => e = .returned (.bool false) ∧ w = w' := by
  go_enter Try.func23, Try.ntmps23
  go_wp2_with fail
  go_ret
  exact ⟨rfl, rfl⟩
set_option maxRecDepth 100000 in
theorem cached_any (h : IsD w g F d) (k : Int) : Calls Try.prog 19 #[.pointer (some ⟨g, 0, none⟩), .int .i64 k] w fun e w' => e = .returned (.int .i64 ((d.caches k).length : Nat)) ∧ w = w' := by
  obtain ⟨vl, vp, kb, cb, cv, h1, h2, h3, h4, h5, h6, h7, h8, h9, h10, h11, h12, h13, h14, h15, h16, h17⟩ := h.form
  have c2 : w.cell? ⟨g, 2, none⟩ = some (.map (some cb)) := h1.cell 2
  have hl := h11.look Try.underlying67 Try.underlying3 (Try.zeroValue75 _) k
  have ho := h12 k
  obtain ⟨A, c, e1, _, _⟩ := Reads.of_own ho
  simp only [e1] at hl
  go_enter Try.func19, Try.ntmps19
  go_wp2_with fail
  go_ret
  exact ⟨rfl, rfl⟩
theorem cached_nil (w : World) (k : Int) : Calls Try.prog 19 #[.pointer none, .int .i64 k] w fun e w' => e = .returned (.int .i64 0) ∧ w = w' := by
  go_enter Try.func19, Try.ntmps19
  go_wp2_with fail
  go_ret
  exact ⟨rfl, rfl⟩
/-- what an operation on the disk leaves -/
def Aft (w w' : World) (g : Nat) (F : Nat → Prop) (d : DS) : Prop := ∃ F', IsD w' g F' d ∧ Fr F w w' ∧ ∀ k, F' k → F k ∨ w.heap.size ≤ k
theorem Aft.stay (h : IsD w g F d) : Aft w w g F d := ⟨F, h, Fr.refl _ _, fun _ h => .inl h⟩
theorem Aft.low (h : IsD w g F d) (hb : Below w.heap.size w w') : Aft w w' g F d := ⟨F, h.low hb, Fr.of_below hb _, fun _ h => .inl h⟩
/-- register a key -/
def fReg (d : DS) (k : Int) : DS × Int :=
  if d.lies.length = 0 ∨ k < 1 then (d, 1) else if (d.keys k).isSome then (d, 13) else ({ d with keys := fun j => if j = k then some true else d.keys j }, 0)
theorem IsD.setKey (h : IsD w g F d) (k : Int) (b : Bool) : ∃ kb w', w.cell? ⟨g, 1, none⟩ = some (.map (some kb)) ∧ (Instr.mapUpdate 66 (.map (some kb)) (.int .i64 k) (.bool b)).run Try.prog w = .ok () w' ∧
    IsD w' g F { d with keys := fun j => if j = k then some b else d.keys j } ∧ Fr F w w' := by
  obtain ⟨vl, vp, kb, cb, cv, h1, h2, h3, h4, h5, h6, h7, h8, h9, h10, h11, h12, h13, h14, h15, h16, h17⟩ := h.form
  obtain ⟨w', r1, r2, r3, r4⟩ := h10.store Try.underlying66 Try.underlying3 k (.bool b)
  refine ⟨kb, w', h1.cell 1, r1, ⟨⟨vl, vp, kb, cb, cv, r3.blk h1 h5, h2, h3, h4, h5, h6, h7, r3.own h8 (fun k hk e => (h13 k hk).2.2.1 e), h9.keep r3 (fun k hk => (h14 k hk).2.2.1), ?_, r3.keep_fm h11 (fun e => h7 e.symm), fun x => r3.own (h12 x) (fun k hk => (h16 x k hk).2.2.1), h13, h14, h15, h16, h17⟩,
    fun k hk => by rw [r4]; exact h.fb k hk, h.cap⟩, r3.mono (fun k hk _ => by subst hk; exact h3)⟩
  have e : (fun k' => if k' = k then some (Value.bool b) else (d.keys k').map Value.bool) = fun j => (if j = k then some b else d.keys j).map Value.bool := by
    funext j
    split <;> rfl
  rw [e] at r2
  exact r2
set_option maxRecDepth 100000 in
theorem register_any (h : IsD w g F d) (k : Int) : Calls Try.prog 12 #[.pointer (some ⟨g, 0, none⟩), .int .i64 k] w fun e w' => e = .returned (.int .i64 (fReg d k).2) ∧ Aft w w' g F (fReg d k).1 := by
  have hs := @sectors_any w g F d h
  by_cases h0 : d.lies.length = 0
  · have hR : fReg d k = (d, 1) := by rw [fReg, if_pos (.inl h0)]
    rw [hR]
    rw [h0] at hs
    go_enter Try.func12, Try.ntmps12
    go_wp2_with (go_at_call 27; refine hs.mono ?_; rintro e w' ⟨rfl, rfl⟩)
    go_ret
    exact ⟨rfl, Aft.stay h⟩
  have n0 : ((d.lies.length : Int) == 0) = false := by simp; exact fun e => h0 (by rw [e]; rfl)
  by_cases hk : k < 1
  · have hR : fReg d k = (d, 1) := by rw [fReg, if_pos (.inr hk)]
    rw [hR]
    go_enter Try.func12, Try.ntmps12
    go_wp2_with (go_at_call 27; refine hs.mono ?_; rintro e w' ⟨rfl, rfl⟩)
    go_ret
    exact ⟨rfl, Aft.stay h⟩
  obtain ⟨kb, w1, k1, k2, k3, k4⟩ := h.setKey k true
  obtain ⟨vl, vp, kb', cb, cv, h1, _, _, _, _, _, _, _, _, h10, _⟩ := h.form
  have e1 : w.cell? ⟨g, 1, none⟩ = some (.map (some kb')) := h1.cell 1
  obtain rfl : kb' = kb := by rw [e1] at k1; simpa using k1
  have hl := h10.look2 Try.underlying66 Try.underlying3 (Try.zeroValue4 _) k
  have e2 : ((d.keys k).map Value.bool).isSome = (d.keys k).isSome := by cases d.keys k <;> rfl
  simp only [e2] at hl
  generalize ((d.keys k).map Value.bool).getD (Value.bool false) = x at *
  rcases Bool.eq_false_or_eq_true (d.keys k).isSome with hc | hc
  · have hR : fReg d k = (d, 13) := by rw [fReg, if_neg (by omega), if_pos hc]
    rw [hR]
    rw [hc] at hl
    clear k1 k2 k3 k4
    go_enter Try.func12, Try.ntmps12
    go_wp2_with (go_at_call 27; refine hs.mono ?_; rintro e w' ⟨rfl, rfl⟩)
    go_ret
    exact ⟨rfl, Aft.stay h⟩
  · have hR : fReg d k = ({ d with keys := fun j => if j = k then some true else d.keys j }, 0) := by rw [fReg, if_neg (by omega), hc, if_neg (by simp)]
    rw [hR]
    rw [hc] at hl
    go_enter Try.func12, Try.ntmps12
    go_wp2_with (go_at_call 27; refine hs.mono ?_; rintro e w' ⟨rfl, rfl⟩)
    go_ret
    exact ⟨rfl, F, k3, k4, fun _ h => .inl h⟩
end
end Go.Proofs.Ytekgoliakgknjaa
