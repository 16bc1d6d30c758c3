import Derived.Test.YtglglbbjacgbdaaDoorTrG
namespace Go.Proofs.YtglglbbjacgbdaaDoor
open Go.RowKit
set_option linter.unusedVariables false
set_option linter.unusedSimpArgs false
attribute [local go_sem] b_max2 b_min2 b_max b_min

/-! ### the list of a path, and its last name -/
def lastT (S : TS) (g : Nat) (l : List ByteArray) : Option Id × ByteArray × Int :=
  let x := walkT S g none l.dropLast
  if x.2 ≠ 0 then (none, ⟨#[]⟩, x.2) else match listOf S g x.1 (l.getD (l.length - 1) ⟨#[]⟩) with
    | none => (none, ⟨#[]⟩, 19)
    | some id => (some id, l.getD (l.length - 1) ⟨#[]⟩, 0)
theorem reads_take1 {w : World} {B m n : Nat} {A : Option Addr} {l : List ByteArray} (h : Reads w B 1 A n (l.map Value.string)) (hn : l.length = n) (hm : m ≤ n) : Reads w B 1 A m ((l.take m).map Value.string) := by
  refine ⟨by simp; omega, fun h0 => ?_⟩
  obtain ⟨ad, e, hb, hc⟩ := h.2 (by omega)
  refine ⟨ad, e, hb, fun i u hi => hc i u ?_⟩
  rw [List.map_take] at hi
  rw [List.getElem?_take] at hi
  split at hi
  · exact hi
  · cases hi
section
variable {w w' : World} {g : Nat} {S : TS} {vs : Id → Value}
set_option maxRecDepth 100000 in
set_option maxHeartbeats 2000000 in
theorem last_any (h : IsT w g S vs) (ho : OkT S g) (v : Value) (l : List ByteArray) (hl : l.length ≤ 100000) (hne : l ≠ []) (hsz : ∀ s ∈ l, s.size ≤ 1000000) (hv : NmV w v l) :
    Calls Tryd.prog 22 #[.pointer (some ⟨g, 0, none⟩), v] w fun e w' => e = .returned (.tuple #[ptrI (lastT S g l).1, .string (lastT S g l).2.1, .int .i64 (lastT S g l).2.2]) ∧ Below w.heap.size w w' := by
  obtain ⟨A, n, c, rfl, hn, hc, hr⟩ := hv
  have hpos : 0 < n := by rw [← hn]; exact List.length_pos_iff.2 hne
  obtain ⟨m, rfl⟩ : ∃ m, n = m + 1 := ⟨n - 1, by omega⟩
  obtain ⟨ad1, rfl, _, q1⟩ := strs_at hr hn (show m < m + 1 by omega)
  have hmem : l.getD m ⟨#[]⟩ ∈ l := by rw [List.getD_eq_getElem?_getD, List.getElem?_eq_getElem (by omega)]; exact List.getElem_mem _
  have hs1 := hsz _ hmem
  have hdl : l.dropLast = l.take m := by rw [List.dropLast_eq_take, hn]; rfl
  have hwk := walk_any h ho (some ad1) m c (l.take m) (by rw [List.length_take]; omega) (by omega) (fun s hs => hsz s (List.mem_of_mem_take hs)) (reads_take1 hr hn (by omega))
  have hlt : lastT S g l = if (walkT S g none (l.take m)).2 ≠ 0 then (none, ⟨#[]⟩, (walkT S g none (l.take m)).2) else match listOf S g (walkT S g none (l.take m)).1 (l.getD m ⟨#[]⟩) with
    | none => (none, ⟨#[]⟩, 19)
    | some id => (some id, l.getD m ⟨#[]⟩, 0) := by unfold lastT; rw [hdl, hn]; rfl
  have hcu := walkT_ok ho (l.take m) none (fun b e => by cases e)
  generalize l.getD m ⟨#[]⟩ = s at *
  obtain ⟨⟨cur, er⟩, hx⟩ : ∃ x, walkT S g none (l.take m) = x := ⟨_, rfl⟩
  rw [hx] at hlt hwk hcu
  dsimp only at hlt hwk hcu
  rw [hlt]
  rw [ptrC_eq] at hwk
  have hmc : (m : Int) ≤ (c : Int) := by omega
  clear hlt hdl hx hmem hsz hr hne
  by_cases he : er = 0
  · subst he
    rw [if_neg (by simp)]
    cases hlo : listOf S g cur s with
    | none =>
      have HLO := Lib.hid hlo; clear hlo
      dsimp only
      go_enter Tryd.func22, Tryd.ntmps22
      go_wp2_with fail
      refine hwk.mono ?_
      rintro e w1 ⟨rfl, b1⟩
      have b2 := b1.alloc b1.size (.cells #[.pointer (adC cur)] 65)
      have hT := (h.low b1).low ((Below.refl _ w1).alloc (Nat.le_refl _) (.cells #[.pointer (adC cur)] 65))
      have hli := list_any hT cur hcu s hs1
      rw [ptrC_eq, HLO.out] at hli
      unfold ptrI at hli
      simp only [Option.map_none, Option.map_some] at hli
      have HLI := Lib.hid hli
      clear hwk hT b1 hli
      go_wp2_with fail
      refine HLI.out.mono ?_
      rintro e w3 ⟨rfl, b3⟩
      have hfin := b2.trans (b3.mono b2.size)
      have HF := Lib.hid hfin
      clear hfin b2 b3 HLI
      go_wp2_with fail
      go_ret3
      exact ⟨rfl, HF.out⟩
    | some id =>
      have HLO := Lib.hid hlo; clear hlo
      dsimp only
      go_enter Tryd.func22, Tryd.ntmps22
      go_wp2_with fail
      refine hwk.mono ?_
      rintro e w1 ⟨rfl, b1⟩
      have b2 := b1.alloc b1.size (.cells #[.pointer (adC cur)] 65)
      have hT := (h.low b1).low ((Below.refl _ w1).alloc (Nat.le_refl _) (.cells #[.pointer (adC cur)] 65))
      have hli := list_any hT cur hcu s hs1
      rw [ptrC_eq, HLO.out] at hli
      unfold ptrI at hli
      simp only [Option.map_none, Option.map_some] at hli
      have HLI := Lib.hid hli
      clear hwk hT b1 hli
      go_wp2_with fail
      refine HLI.out.mono ?_
      rintro e w3 ⟨rfl, b3⟩
      have hfin := b2.trans (b3.mono b2.size)
      have HF := Lib.hid hfin
      clear hfin b2 b3 HLI
      go_wp2_with fail
      go_ret3
      exact ⟨rfl, HF.out⟩
  · rw [if_pos he]
    have he1 : (er != 0) = true := by simpa using he
    go_enter Tryd.func22, Tryd.ntmps22
    go_wp2_with fail
    refine hwk.mono ?_
    rintro e w1 ⟨rfl, b1⟩
    have b2 := b1.alloc b1.size (.cells #[.pointer (adC cur)] 65)
    have HF := Lib.hid b2
    clear hwk b1 b2
    go_wp2_with fail
    go_ret3
    exact ⟨rfl, HF.out⟩
end
end Go.Proofs.YtglglbbjacgbdaaDoor
