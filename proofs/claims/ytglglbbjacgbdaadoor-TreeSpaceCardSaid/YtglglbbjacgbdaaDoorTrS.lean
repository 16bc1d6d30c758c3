import Derived.Test.YtglglbbjacgbdaaDoorTrR
namespace Go.Proofs.YtglglbbjacgbdaaDoor
open Go.RowKit
set_option linter.unusedVariables false
set_option linter.unusedSimpArgs false
attribute [local go_sem] b_max2 b_min2 b_max b_min

/-! ### replies; plans -/
structure Rep where
  err : Int
  data : ByteArray
  kind : Int
  links : Int
  size : Int
  free : Int
def repV (r : Rep) (v : Value) : Value := .agg #[.int .i64 r.err, .string r.data, v, .int .i64 r.kind, .int .i64 r.links, .int .i64 r.size, .int .i64 r.free]
def failR (e : Int) : Rep := ⟨e, ⟨#[]⟩, 0, 0, 0, 0⟩
def failV (e : Int) : Value := repV (failR e) (.slice none 0 0)
structure CallV where
  op : Int
  path : ByteArray
  dest : ByteArray
  at_ : Int
  n : Int
  data : ByteArray
def planV (c : CallV) (vf vt : Value) : Value := .agg #[.int .i64 c.op, .string c.path, .string c.dest, .int .i64 c.at_, .int .i64 c.n, .string c.data, vf, vt]

set_option maxRecDepth 100000 in
set_option maxHeartbeats 1000000 in
theorem fails_any (e : Int) (w : World) : Calls Tryd.prog 23 #[.int .i64 e] w fun x w' => x = .returned (failV e) ∧ Below w.heap.size w w' := by
  unfold failV repV failR
  go_enter Tryd.func23, Tryd.ntmps23
  go_wp2_with fail
  refine bodyPost_ret (v := failV e) (by simp [results, Tryd.results23, go_sem, failV, repV, failR]; try rfl) rfl ?_
  exact ⟨rfl, (Below.refl _ w).alloc (Nat.le_refl _) _⟩

/-! ### a reply put into its cell -/
def repC (r : Rep) (v : Value) : List Value := [.int .i64 r.err, .string r.data, v, .int .i64 r.kind, .int .i64 r.links, .int .i64 r.size, .int .i64 r.free]
theorem rep_put {w : World} {rb : Nat} {cs : Array Value} (h : Blk w rb 29 cs) (hs : cs.size = 7) (r : Rep) (A : Option Addr) (n c : Nat) :
    ∃ W, (storeCells ⟨rb, 0, none⟩ (repC r (.slice A n c))).run Tryd.prog w = .ok () W ∧ Fr (fun k => k = rb) w W ∧ Blk W rb 29 (repC r (.slice A n c)).toArray := by
  refine ⟨w.setRow rb (repC r (.slice A n c)).toArray, ?_, ⟨rfl, rfl, rfl, by simp, fun k _ hk => setRow_other w rb k _ hk⟩, h.row _⟩
  have hst := run_storeCells_at Tryd.prog rb 0 29 (repC r (.slice A n c)) 0 cs w h (by simp [repC]; omega) (by simp [repC, Value.oneCell'])
  rw [hst]
  congr 2
  have : cs.toList.drop 7 = [] := List.drop_eq_nil_of_le (by simp; omega)
  simp [repC, this]

/-! ### makes, in plain words -/
theorem sumN_ge (l : List Ch) : l.length * 6 ≤ sumN l := by
  induction l with
  | nil => simp [sumN]
  | cons a l ih => simp only [sumN, List.map_cons, List.sum_cons, List.length_cons] at *; omega
section
variable {S : TS} {g D : Nat} {l : List ByteArray}
theorem listOf_kind (ho : OkT S g) {cur : Option Nat} {s : ByteArray} {id : Id} (h : listOf S g cur s = some id) {r : NR} (hr : S.nd id = some r) : r.kind ≠ 1 := by
  cases cur with
  | none =>
    have e := Option.some.inj h
    subst e
    obtain ⟨r', e, hk⟩ := ho.root (zoneB s) (Nat.mod_lt _ (by omega))
    rw [hr] at e
    cases e
    exact hk
  | some b =>
    unfold listOf at h
    dsimp only at h
    split at h
    · cases h
    · rename_i hk
      have e := Option.some.inj h
      subst e
      rw [hr] at hk
      exact fun e => hk (by rw [← e]; rfl)
theorem lastT_some (ho : OkT S g) (h : (lastT S g l).2.2 = 0) : ∃ id r, (lastT S g l).1 = some id ∧ S.nd id = some r ∧ r.kind ≠ 1 ∧ (lastT S g l).2.1 = l.getD (l.length - 1) ⟨#[]⟩ := by
  unfold lastT at *
  dsimp only at *
  split at h
  · rename_i hne; exact absurd h hne
  · rename_i he
    rw [if_neg he]
    split at h
    · cases h
    · rename_i id hid
      obtain ⟨r, hr⟩ := listOf_ok ho (walkT_ok ho _ _ (fun b e => by cases e)) hid
      exact ⟨id, r, rfl, hr, listOf_kind ho hid hr, rfl⟩
def makesT (S : TS) (g D : Nat) (op : Int) (l : List ByteArray) (N : Nat) : TS × Int :=
  if (lastT S g l).2.2 ≠ 0 then (S, (lastT S g l).2.2) else match (lastT S g l).1 with
  | none => (S, 0)
  | some id => match S.nd id with
    | none => (S, 0)
    | some r => if hasN r.list (lastT S g l).2.1 = true then (S, 17) else
      if fitsT S g D r ((lastT S g l).2.1.size + 6) 1 ≠ 0 then (S, fitsT S g D r ((lastT S g l).2.1.size + 6) 1)
      else ((S.upd (N, 0) ⟨op, 1, ⟨#[]⟩, []⟩).upd id (putR r (lastT S g l).2.1 N), 0)
theorem fits_len {r : NR} (hk : r.kind ≠ 1) {gr be : Int} (hg : 0 ≤ gr) (h : fitsT S g D r gr be = 0) : r.list.length < 2000 := by
  unfold fitsT at h
  split at h
  · cases h
  · rename_i hn
    have h1 : sizeN r = (sumN r.list : Int) := if_neg hk
    have h2 := sumN_ge r.list
    omega
end
end Go.Proofs.YtglglbbjacgbdaaDoor
