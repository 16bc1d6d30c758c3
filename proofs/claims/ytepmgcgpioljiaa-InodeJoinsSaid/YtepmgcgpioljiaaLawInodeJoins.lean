/- The law lockgatelaw14.InodeJoins returns true for any three ints and changes nothing: what the law's walk shows, put into the given row: for every input. Conditions: none. -/
import Derived.Test.YtepmgcgpioljiaaRows
import Derived.Test.YtepmgcgpioljiaaInF
import Derived.WalkKit
import Derived.ProofKit
import Derived.OpenShut
import Derived.ShutString
import Derived.ChangeOld
import Derived.Below
import Derived.SizedLaws
import Derived.Laws.IdiomArrays
namespace Go.Proofs.Ytepmgcgpioljiaa.inodeJoins
open Go.ChangeShapes Go.WideShapes Go.ChangeAt Go.RowKit
open Go.ChangeMaps (open_string shut_string)
set_option linter.unusedVariables false
theorem own : ownKnob Try.prog.godebug = none := by kernel_rfl
theorem laidOut : laidOutB Try.prog = true := by kernel_rfl
set_option maxRecDepth 100000 in
theorem lifted (os : Os) (started : os.Started) (H : Type) (enc : TypeId × Value → H) :
    ReturnsInHanded {} Try.checked os 5 .any (Rows.inodeJoinsSpec.pre6 enc Try.prog Try.f5 Rows.inodeJoinsRow.domain false) (Rows.inodeJoinsSpec.post enc Try.prog Try.f5 false true false false) := by
  refine returnsInHanded_of_change_sized (C := Try.checked) own started (by kernel_rfl) Try.func5
    (ChangeSpec.witness6 (enc := enc) (C := Try.checked) false ⟨#[], #[.agg #[.int .i64 0, .int .i64 0, .int .i64 0]], []⟩ 8 (by kernel_rfl) (by kernel_rfl) (by kernel_rfl) (by kernel_rfl)) ?_
  intro W base args ds gs before hval0 hW hcnd hsz0 _
  have hsz : (DataW.weightsEach Try.prog (Try.f5.params.toList ++ Rows.inodeJoinsSpec.plain.varTypes Try.prog) (ds ++ gs)).all (· ≤ reachBytes) = true := hsz0
  have hval : ∀ (j : Nat) t v, Try.f5.params[j]? = some t → args[j]? = some v → Value.okWide Try.prog W .any base t v := hval0
  have hW' := hW
  obtain ⟨p, q, hA0, hV, rfl, hfz, hnd⟩ := hW
  have hA : DataW.TrodAll enc Try.prog W 0 (fun _ => true) true Try.f5.params.toList args.toList ds p := hA0
  rw [Try.params5] at hA hval hsz
  obtain ⟨v0, vs0, d0, ds0, p0, q0, hargs, rfl, rfl, h0, r0⟩ := trodAll_cons hA
  obtain ⟨rfl, rfl, rfl⟩ := trodAll_nil r0
  obtain rfl : args = #[v0] := by cases args; simp_all
  obtain ⟨rfl, rfl⟩ := trodVars_none hV
  have k0 := h0
  have lt0 : ∀ x ∈ p0, x.block < W.heap.size := by obtain ⟨m, hm⟩ := k0; exact DataW.trod_lt m _ _ _ hm
  obtain ⟨cs0, rfl, cz0⟩ := okWide_arrV Try.underlying30 (hval 0 30 v0 rfl rfl)
  obtain ⟨l0⟩ := cs0
  obtain ⟨c0, c1, c2, rfl⟩ : ∃ c0 c1 c2, l0 = [c0, c1, c2] := three_of (cz0.trans (by kernel_rfl))
  obtain ⟨fuel, hf⟩ := h0
  obtain ⟨y0, y1, y2, nn, -, g0, g1, g2⟩ := trod_array3 Try.underlying30 (by kernel_rfl) (show DataW.trod enc Try.prog W 0 (fun _ => true) true fuel 30 [c0, c1, c2] = some (d0, p0) from by simpa [Value.cells] using hf)
  obtain ⟨q0, e0, -, z0⟩ := DataW.trod_int Try.underlying3 g0
  obtain ⟨q1, e1, -, z1⟩ := DataW.trod_int Try.underlying3 g1
  obtain ⟨q2, e2, -, z2⟩ := DataW.trod_int Try.underlying3 g2
  obtain rfl : c0 = .int .i64 q0 := by simpa using e0
  obtain rfl : c1 = .int .i64 q1 := by simpa using e1
  obtain rfl : c2 = .int .i64 q2 := by simpa using e2
  clear hA0 hval0 hsz0 hsz
  refine (law_joins q0 q1 q2 W (wf64 z0).1 (wf64 z0).2 (wf64 z1).1 (wf64 z1).2 (wf64 z2).1 (wf64 z2).2).mono fun e W' ⟨he, bel⟩ => ?_
  subst he
  exact ⟨_, rfl, _, _, _, [], _, [], hW', trodAll_mk1 (shut_bool Try.underlying4 _), (trodAll_cons_mk (Below.trod laidOut (by kernel_rfl) (of_decide_eq_true (by kernel_rfl)) k0 bel lt0) trodAll_mk0), rfl, bel.frame _, fun h => by cases h⟩
theorem over : Rows.inodeJoinsRow.holds Try.pinned (OpenSpec.ofChange Rows.inodeJoinsSpec) :=
  OpenClaim.holds_of_wide 5 Try.f5 rfl rfl rfl rfl rfl rfl rfl ⟨rfl, rfl, rfl, rfl, rfl⟩ rfl rfl rfl rfl rfl (by kernel_rfl) Try.func5 (by kernel_rfl)
    (of_decide_eq_true (by kernel_rfl)) (by unfold Func.isWrapper; first | (rw [if_pos (by decide +kernel)]; kernel_rfl) | (rw [if_neg (by decide +kernel)]; exact ⟨rfl, rfl⟩))
    (fun os started H enc _ => lifted os started H enc)
end Go.Proofs.Ytepmgcgpioljiaa.inodeJoins
namespace Go.Proofs.Ytepmgcgpioljiaa
theorem inodeJoins_holds : Rows.InodeJoinsSaid := inodeJoins.over
#print axioms inodeJoins_holds
end Go.Proofs.Ytepmgcgpioljiaa

