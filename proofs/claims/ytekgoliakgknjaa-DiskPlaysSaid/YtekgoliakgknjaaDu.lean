import Derived.Test.YtekgoliakgknjaaDs
namespace Go.Proofs.Ytekgoliakgknjaa
open Go.RowKit
set_option linter.unusedVariables false
/-- pieces of a function's code, found in it -/
def firstLoop : Code → Option Code
  | .loop c => some c
  | .seq a b => match firstLoop a with
    | some c => some c
    | none => firstLoop b
  | .block _ c => firstLoop c
  | .scope c => firstLoop c
  | .cond _ a b => match firstLoop a with
    | some c => some c
    | none => firstLoop b
  | _ => none
def blockOf (n : Nat) : Code → Option Code
  | .loop c => blockOf n c
  | .seq a b => match blockOf n a with
    | some c => some c
    | none => blockOf n b
  | .block m c => if m = n then some (.block m c) else blockOf n c
  | _ => none
/-- what stands behind a block -/
def behind (n : Nat) : Code → Option Code
  | .loop c => behind n c
  | .seq (.seq a (.block m c)) b => if m = n then some b else match behind n c with
    | some c => some c
    | none => behind n b
  | .seq a b => match behind n a with
    | some c => some c
    | none => behind n b
  | .block m c => behind n c
  | _ => none
noncomputable def plBody : Code := (Try.f8.body.bind firstLoop).getD .skip
noncomputable def plSw : Code := (Try.f8.body.bind (blockOf 2)).getD .skip
noncomputable def plRest : Code := (Try.f8.body.bind (behind 2)).getD .skip
theorem rn_ds (n : Nat) : (RN (zeros 512) n).ds = DS.new n := by
  unfold RN RS.ds DS.new
  congr 1
/-- the keys that were named so far -/
def keysTo (o : OpR) (i : Nat) : List Int := (List.range i).map fun j => o.K j 1
theorem keysTo_mem {o : OpR} {i : Nat} {k : Int} : k ∈ keysTo o i ↔ ∃ j, j < i ∧ o.K j 1 = k := by simp [keysTo]
theorem cs_in {d d' : DS} {o : OpR} {i : Nat} {k : Int} (hd : ∀ j, d.caches j ≠ [] → j ∈ keysTo o i) (hc : CS d d' k) (hk : o.K i 1 = k) : ∀ j, d'.caches j ≠ [] → j ∈ keysTo o (i + 1) := by
  intro j hj
  rw [keysTo_mem]
  rcases hc j hj with h | h
  · obtain ⟨m, hm, e⟩ := keysTo_mem.1 (hd j h)
    exact ⟨m, by omega, e⟩
  · exact ⟨i, by omega, hk.trans h.symm⟩
theorem i64_mod16 (x : Int) : 0 ≤ (if x.tmod 16 < 0 then x.tmod 16 + 16 else x.tmod 16) := by
  have := Int.lt_tmod_of_pos x (show (0:Int) < 16 by omega)
  split <;> omega
/-- what has been done, call by call -/
structure Both (w w' : World) (g r zb N : Nat) (o : OpR) (i : Nat) (cs : Array Value) (R' : RS) : Prop where
  td : TD w w' g R'.ds r R' (fun k => k = zb)
  bk : Blk w' zb 33 cs
  l : R'.L.length = N
  ks : R'.ks.length ≤ i + 1
  pu : R'.puts.length ≤ i + 1
  pe : R'.pend.length ≤ i + 1
  kk : ∀ k, R'.ds.caches k ≠ [] → k ∈ keysTo o (i + 1)
end Go.Proofs.Ytekgoliakgknjaa
