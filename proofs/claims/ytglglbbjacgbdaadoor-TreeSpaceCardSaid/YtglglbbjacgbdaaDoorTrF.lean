import Derived.Test.YtglglbbjacgbdaaDoorTrE
namespace Go.Proofs.YtglglbbjacgbdaaDoor
open Go.RowKit
set_option linter.unusedVariables false
attribute [local go_sem] b_max2 b_min2 b_max b_min

/-! ### a tree in memory: its nodes by where they lie; the root's lists lie in the tree's own block g -/
structure TS where
  room : Int
  nd : Id → Option NR
structure OkT (S : TS) (g : Nat) : Prop where
  root : ∀ z, z < 4 → ∃ r, S.nd (g, 1 + z * 4) = some r ∧ r.kind ≠ 1
  kids : ∀ id r, S.nd id = some r → ∀ c ∈ r.list, ∃ r', S.nd (c.2, 0) = some r'
  okn : ∀ id r, S.nd id = some r → OkN r
  fin : ∃ U : List Nat, U.length ≤ 1000 ∧ ∀ b r, S.nd (b, 0) = some r → b ∈ U
structure IsT (w : World) (g : Nat) (S : TS) (vs : Id → Value) : Prop where
  rm : w.cell? ⟨g, 0, none⟩ = some (.int .i64 S.room)
  node : ∀ id r, S.nd id = some r → IsN w id r (vs id)
def kid (l : List Ch) (s : ByteArray) : Option Nat := if hasN l s = true then some (l.getD (plc l s) (⟨#[]⟩, 0)).2 else none
def listOf (S : TS) (g : Nat) (cur : Option Nat) (s : ByteArray) : Option Id :=
  match cur with
  | none => some (g, 1 + zoneB s * 4)
  | some b => if (S.nd (b, 0)).map NR.kind = some 1 then none else some (b, 0)
def walkT (S : TS) (g : Nat) : Option Nat → List ByteArray → Option Nat × Int
  | cur, [] => (cur, 0)
  | cur, s :: rest => match listOf S g cur s with
    | none => (cur, 19)
    | some id => match (S.nd id).bind (fun r => kid r.list s) with
      | none => (cur, 12)
      | some b => walkT S g (some b) rest
def ptrC (cur : Option Nat) : Value := .pointer (cur.map fun b => ⟨b, 0, none⟩)
def ptrI (id : Option Id) : Value := .pointer (id.map fun p => ⟨p.1, p.2, none⟩)
def CurOK (S : TS) (cur : Option Nat) : Prop := ∀ b, cur = some b → ∃ r, S.nd (b, 0) = some r
section
variable {w w' : World} {g : Nat} {S : TS} {vs : Id → Value}
theorem IsT.low (h : IsT w g S vs) (hb : Below w.heap.size w w') : IsT w' g S vs :=
  ⟨(hb.cell (p := ⟨g, 0, none⟩) (World.block_lt_of_cell? _ _ h.rm)).trans h.rm, fun id r e => (h.node id r e).low hb⟩
theorem listOf_ok (ho : OkT S g) {cur : Option Nat} (hc : CurOK S cur) {s : ByteArray} {id : Id} (h : listOf S g cur s = some id) : ∃ r, S.nd id = some r := by
  cases cur with
  | none =>
    have e := Option.some.inj h
    subst e
    obtain ⟨r, e, _⟩ := ho.root (zoneB s) (Nat.mod_lt _ (by omega))
    exact ⟨r, e⟩
  | some b =>
    unfold listOf at h
    dsimp only at h
    split at h
    · cases h
    · have e := Option.some.inj h
      subst e
      exact hc b rfl
theorem plc_lt {l : List Ch} {s : ByteArray} (hs : SortedC l) (h : hasN l s = true) : plc l s < l.length ∧ nmAt l (plc l s) = s := by
  obtain ⟨i, hi, h1, h2⟩ : ∃ i, i ≤ l.length ∧ (∀ t, t < i → ltB (nmAt l t) s = true) ∧ (∀ t, i ≤ t → t < l.length → ltB (nmAt l t) s = false) := by
    have key : ∀ n, n ≤ l.length → ∃ i, i ≤ n ∧ (∀ t, t < i → ltB (nmAt l t) s = true) ∧ (∀ t, i ≤ t → t < n → ltB (nmAt l t) s = false) := by
      intro n
      induction n with
      | zero => intro _; exact ⟨0, Nat.le_refl _, fun t h => by omega, fun t h1 h2 => by omega⟩
      | succ n ih =>
        intro hn
        obtain ⟨i, hi, h1, h2⟩ := ih (by omega)
        cases hx : ltB (nmAt l n) s with
        | true => exact ⟨n + 1, Nat.le_refl _, fun t ht => sorted_mono hs s (by omega) (by omega) hx, fun t h3 h4 => by omega⟩
        | false => exact ⟨i, by omega, h1, fun t h3 h4 => by
            rcases Nat.lt_or_ge t n with h5 | h5
            · exact h2 t h3 h5
            · rw [show t = n by omega]; exact hx⟩
    exact key l.length (Nat.le_refl _)
  have e1 := plc_boundary s l i hi h1 h2
  have e2 := hasN_at hs s i hi h1 h2
  rw [e2, Bool.and_eq_true] at h
  rw [e1]
  exact ⟨of_decide_eq_true h.1, of_decide_eq_true h.2⟩
theorem kid_ok (ho : OkT S g) {id : Id} {r : NR} (h : S.nd id = some r) {s : ByteArray} {b : Nat} (hk : kid r.list s = some b) : ∃ r', S.nd (b, 0) = some r' := by
  unfold kid at hk
  split at hk
  · rename_i hh
    obtain ⟨h1, h2⟩ := plc_lt (ho.okn id r h).so hh
    have e := Option.some.inj hk
    subst e
    rw [getD_get _ _ _ h1]
    exact ho.kids id r h _ (List.getElem_mem h1)
  · cases hk
theorem walkT_ok (ho : OkT S g) : ∀ (l : List ByteArray) (cur : Option Nat), CurOK S cur → CurOK S (walkT S g cur l).1
  | [], cur, hc => hc
  | s :: rest, cur, hc => by
    unfold walkT
    split
    · exact hc
    · rename_i id hl
      obtain ⟨r, hr⟩ := listOf_ok ho hc hl
      rw [hr]
      dsimp only [Option.bind_some]
      split
      · exact hc
      · rename_i b hb
        exact walkT_ok ho rest (some b) (fun b' e => by cases e; exact kid_ok ho hr hb)
set_option maxRecDepth 100000 in
set_option maxHeartbeats 1000000 in
theorem list_any (h : IsT w g S vs) (cur : Option Nat) (hc : CurOK S cur) (s : ByteArray) (hs : s.size ≤ 1000000) :
    Calls Tryd.prog 38 #[.pointer (some ⟨g, 0, none⟩), .agg #[ptrC cur], .string s] w fun e w' => e = .returned (ptrI (listOf S g cur s)) ∧ Below w.heap.size w w' := by
  have hbe : ∀ m, Below w.heap.size w ((w.alloc (.cells #[ptrC cur] 65)).drewN m) := fun m => bdrewN ((Below.refl _ w).alloc (Nat.le_refl _) _) m
  cases cur with
  | none =>
    have hz := fun m => zone_any s ((w.alloc (.cells #[ptrC none] 65)).drewN m) hs
    have hz4 : zoneB s < 4 := Nat.mod_lt _ (by omega)
    have hz2 : ∀ m, Calls Tryd.prog 57 #[.string s] ((w.alloc (.cells #[.pointer none] 65)).drewN m) fun e w' => e = .returned (.int .i64 (zoneB s)) ∧ ∃ j, w' = (w.alloc (.cells #[.pointer none] 65)).drewN j := fun m => (hz m).mono fun e w' ⟨e1, e2⟩ => ⟨e1, m, e2.symm⟩
    have hl : listOf S g none s = some (g, 1 + zoneB s * 4) := rfl
    rw [hl]
    generalize zoneB s = z at *
    have hz5 : (z : Int) < 4 := by omega
    have HZ := Lib.hid hz2; have HB := Lib.hid hbe; clear hz hz2 hbe hl
    unfold ptrC at *
    go_enter Tryd.func38, Tryd.ntmps38
    go_wp2_with fail
    go_quiet ((first | (go_at_call 57; exact HZ.out _)))
    go_wp2_with fail
    go_ret
    exact ⟨rfl, HB.out _⟩
  | some b =>
    obtain ⟨r, hr⟩ := hc b rfl
    have hN := h.node _ _ hr
    have c0 := hN.c0
    dsimp only at c0
    have hbl : b < w.heap.size := hN.lt
    have hB := hbe 0
    by_cases hk : r.kind = 1
    · have hl : listOf S g (some b) s = none := by unfold listOf; dsimp only; rw [hr]; exact if_pos (by rw [Option.map_some, hk])
      rw [hl]
      rw [hk] at c0
      have c1 : (w.alloc (.cells #[.pointer (some ⟨b, 0, none⟩)] 65)).cell? ⟨b, 0, none⟩ = some (.int .i64 1) := by rw [World.cell?_alloc_lt _ _ _ hbl]; exact c0
      clear hl hk hN hbe
      unfold ptrC at *
      simp only [Option.map_some] at *
      go_enter Tryd.func38, Tryd.ntmps38
      go_wp2_with fail
      go_ret
      exact ⟨rfl, hB⟩
    · have hl : listOf S g (some b) s = some (b, 0) := by unfold listOf; dsimp only; rw [hr]; exact if_neg (by rw [Option.map_some]; intro e; exact hk (Option.some.inj e))
      rw [hl]
      have c1 : (w.alloc (.cells #[.pointer (some ⟨b, 0, none⟩)] 65)).cell? ⟨b, 0, none⟩ = some (.int .i64 r.kind) := by rw [World.cell?_alloc_lt _ _ _ hbl]; exact c0
      have hk1 : (r.kind == 1) = false := by simpa using hk
      clear hl hk hN hbe
      unfold ptrC at *
      simp only [Option.map_some] at *
      go_enter Tryd.func38, Tryd.ntmps38
      go_wp2_with fail
      go_ret
      exact ⟨rfl, hB⟩
end
end Go.Proofs.YtglglbbjacgbdaaDoor
