import Derived.Test.YtglglbbjacgbdaaDoorTrF
namespace Go.Proofs.YtglglbbjacgbdaaDoor
open Go.RowKit
set_option linter.unusedVariables false
attribute [local go_sem] b_max2 b_min2 b_max b_min

/-! ### walking into a tree -/
section
variable {w w' : World} {g : Nat} {S : TS} {vs : Id → Value}
theorem walkT_nil (cur : Option Nat) : walkT S g cur [] = (cur, 0) := rfl
theorem walkT_file {cur : Option Nat} {s : ByteArray} {rest : List ByteArray} (h : listOf S g cur s = none) : walkT S g cur (s :: rest) = (cur, 19) := by
  rw [walkT, h]
theorem walkT_miss {cur : Option Nat} {s : ByteArray} {rest : List ByteArray} {id : Id} {r : NR} (h : listOf S g cur s = some id) (hr : S.nd id = some r) (hk : hasN r.list s = false) : walkT S g cur (s :: rest) = (cur, 12) := by
  have e : kid r.list s = none := by unfold kid; rw [hk]; rfl
  rw [walkT, h]
  dsimp only
  rw [hr, Option.bind_some, e]
theorem walkT_hit {cur : Option Nat} {s : ByteArray} {rest : List ByteArray} {id : Id} {r : NR} (h : listOf S g cur s = some id) (hr : S.nd id = some r) (hk : hasN r.list s = true) :
    walkT S g cur (s :: rest) = walkT S g (some (r.list.getD (plc r.list s) (⟨#[]⟩, 0)).2) rest := by
  have e : kid r.list s = some (r.list.getD (plc r.list s) (⟨#[]⟩, 0)).2 := if_pos hk
  rw [walkT, h]
  dsimp only
  rw [hr, Option.bind_some, e]
def adC (cur : Option Nat) : Option Addr := cur.map fun b => ⟨b, 0, none⟩
theorem ptrC_eq (cur : Option Nat) : ptrC cur = .pointer (adC cur) := rfl
set_option maxRecDepth 100000 in
set_option maxHeartbeats 2000000 in
theorem walk_any (h : IsT w g S vs) (ho : OkT S g) (A : Option Addr) (n c : Nat) (l : List ByteArray) (hn : l.length = n) (hl : n ≤ 100000) (hsz : ∀ s ∈ l, s.size ≤ 1000000) (hr : Reads w w.heap.size 1 A n (l.map Value.string)) :
    Calls Tryd.prog 27 #[.pointer (some ⟨g, 0, none⟩), .slice A n c] w fun e w' => e = .returned (.tuple #[.agg #[ptrC (walkT S g none l).1], .int .i64 (walkT S g none l).2]) ∧ Below w.heap.size w w' := by
  obtain ⟨FIN, ERR, hfin⟩ : ∃ a b, walkT S g none l = (a, b) := ⟨_, _, rfl⟩
  rw [hfin]
  dsimp only
  have b4 : Blk ((w.alloc (.cells #[.pointer none] 65)).alloc (.cells #[.pointer none] 65)) w.heap.size 65 #[.pointer none] := (Blk.new _ _ _).alloc _
  have b6 : Blk ((w.alloc (.cells #[.pointer none] 65)).alloc (.cells #[.pointer none] 65)) (w.heap.size + 1) 65 #[.pointer none] := by
    have := Blk.new (w.alloc (.cells #[.pointer none] 65)) 65 #[.pointer none]
    simpa using this
  have hbe : Below w.heap.size w ((w.alloc (.cells #[.pointer none] 65)).alloc (.cells #[.pointer none] 65)) := ((Below.refl _ w).alloc (Nat.le_refl _) _).alloc (by simp) _
  have HFIN := Lib.hid hfin; clear hfin
  go_enter Tryd.func27, Tryd.ntmps27
  go_wp2_with fail
  try go_step3
  go_wp2_with fail
  try go_step3
  go_wp2_with fail
  generalize (w.alloc (.cells #[.pointer none] 65)).alloc (.cells #[.pointer none] 65) = w0 at *
  go_loopw [7, 9, 10, 11, 12, 15] (fun er _ _ _ _ p wr => ∃ (i : Nat) (cur : Option Nat), p = .int .i64 i ∧ i ≤ n ∧ er = .int .i64 0 ∧ Hid (walkT S g cur (l.drop i) = (FIN, ERR)) ∧ Hid (CurOK S cur) ∧ Blk wr w.heap.size 65 #[.pointer none] ∧ Blk wr (w.heap.size + 1) 65 #[.pointer (adC cur)] ∧ Below w.heap.size w wr) (fun _ _ _ _ _ p _ => n - (intOf p).toNat)
  case atStart => exact ⟨0, none, rfl, by omega, rfl, Lib.hid (by rw [List.drop_zero]; exact HFIN.out), Lib.hid (fun b e => by cases e), b4, b6, hbe⟩
  case round =>
    clear b4 b6 hbe
    obtain ⟨i, cur, rfl, hi, rfl, hw, hcur, b4, b6, hb⟩ := hrel
    have c6 : wr.cell? ⟨w.heap.size + 1, 0, none⟩ = some (.pointer (adC cur)) := b6.cell 0
    by_cases hlt : i < n
    · obtain ⟨ad1, rfl, _, q1⟩ := strs_at (hr.below hb) hn hlt
      have e1 : l.drop i = l.getD i ⟨#[]⟩ :: l.drop (i + 1) := by rw [List.drop_eq_getElem_cons (by omega), List.getD_eq_getElem?_getD, List.getElem?_eq_getElem (by omega)]; rfl
      have hmem : l.getD i ⟨#[]⟩ ∈ l := by rw [List.getD_eq_getElem?_getD, List.getElem?_eq_getElem (by omega)]; exact List.getElem_mem _
      have hs1 := hsz _ hmem
      generalize l.getD i ⟨#[]⟩ = s at *
      have hT := h.low hb
      have hli := list_any hT cur hcur.out s hs1
      rw [ptrC_eq] at hli
      have hw2 := hw.out
      rw [e1] at hw2
      cases hlo : listOf S g cur s with
      | none =>
        rw [walkT_file hlo] at hw2
        obtain ⟨rfl, rfl⟩ := Prod.mk.inj hw2
        rw [hlo] at hli
        change Calls Tryd.prog 38 _ wr (fun e w' => e = .returned (.pointer none) ∧ Below wr.heap.size wr w') at hli
        clear hw2 e1 hmem hlo hT
        go_wp2_with fail
        refine hli.mono ?_
        rintro e w1 ⟨rfl, b1⟩
        have b41 := Fr.blk_low b1 b4
        have b61 := Fr.blk_low b1 b6
        have hb1 := hb.trans (b1.mono hb.size)
        clear hli c6 b4 b6 hb b1
        have c61 : w1.cell? ⟨w.heap.size + 1, 0, none⟩ = some (.pointer (adC cur)) := b61.cell 0
        have c41 : w1.cell? ⟨w.heap.size, 0, none⟩ = some (.pointer none) := b41.cell 0
        have f41 := b41.frozen 0
        have b44 := b41.set_ 0 (.pointer (adC cur))
        have hb4 := hb1.setCell (p := ⟨w.heap.size, 0, none⟩) (Nat.le_refl _) (.pointer (adC cur))
        clear b41 b61 hb1
        go_wp2_with fail
        try rw [Exit.noGoto_normal]
        go_wp2_with fail
        try rw [Exit.noGoto_ret]
        generalize w1.setCell ⟨w.heap.size, 0, none⟩ (.pointer (adC cur)) = w9 at *
        have d0 : w9.cell? ⟨w.heap.size, 0, none⟩ = some (.pointer (adC cur)) := b44.cell 0
        (try simp only [Exit.inBlock, Exit.then])
        refine bodyPost_ret (by simp [results, Tryd.results27, go_sem, d0]; try rfl) rfl ?_
        exact ⟨rfl, hb4⟩
      | some id =>
        rw [hlo] at hli
        change Calls Tryd.prog 38 _ wr (fun e w' => e = .returned (.pointer (some ⟨id.1, id.2, none⟩)) ∧ Below wr.heap.size wr w') at hli
        obtain ⟨r, hnd⟩ := listOf_ok ho hcur.out hlo
        have hok := ho.okn id r hnd
        have HLO := Lib.hid hlo
        clear hlo
        go_wp2_with fail
        refine hli.mono ?_
        rintro e w1 ⟨rfl, b1⟩
        have hN := (hT.low b1).node id r hnd
        have b41 := Fr.blk_low b1 b4
        have b61 := Fr.blk_low b1 b6
        have hb1 := hb.trans (b1.mono hb.size)
        clear hli c6 b4 b6 hb b1 hT q1
        have hpl := place_any hN hok s
        cases hha : hasN r.list s with
        | false =>
          rw [hha] at hpl
          rw [walkT_miss HLO.out hnd hha] at hw2
          obtain ⟨rfl, rfl⟩ := Prod.mk.inj hw2
          clear hw2 e1 hmem hha hok
          generalize plc r.list s = pl at *
          go_wp2_with fail
          refine hpl.mono ?_
          rintro e w2 ⟨rfl, b2⟩
          have b41 := Fr.blk_low b2 b41
          have b61 := Fr.blk_low b2 b61
          have hb1 := hb1.trans (b2.mono hb1.size)
          clear hpl hN b2
          have c61 : w2.cell? ⟨w.heap.size + 1, 0, none⟩ = some (.pointer (adC cur)) := b61.cell 0
          have c41 : w2.cell? ⟨w.heap.size, 0, none⟩ = some (.pointer none) := b41.cell 0
          have f41 := b41.frozen 0
          have b44 := b41.set_ 0 (.pointer (adC cur))
          have hb4 := hb1.setCell (p := ⟨w.heap.size, 0, none⟩) (Nat.le_refl _) (.pointer (adC cur))
          clear b41 b61 hb1
          go_wp2_with fail
          try rw [Exit.noGoto_normal]
          go_wp2_with fail
          try rw [Exit.noGoto_ret]
          generalize w2.setCell ⟨w.heap.size, 0, none⟩ (.pointer (adC cur)) = w9 at *
          have d0 : w9.cell? ⟨w.heap.size, 0, none⟩ = some (.pointer (adC cur)) := b44.cell 0
          (try simp only [Exit.inBlock, Exit.then])
          refine bodyPost_ret (by simp [results, Tryd.results27, go_sem, d0]; try rfl) rfl ?_
          exact ⟨rfl, hb4⟩
        | true =>
          rw [hha] at hpl
          rw [walkT_hit HLO.out hnd hha] at hw2
          obtain ⟨hp1, hp2⟩ := plc_lt hok.so hha
          have hkk : kid r.list s = some (r.list.getD (plc r.list s) (⟨#[]⟩, 0)).2 := if_pos hha
          have hck := kid_ok ho hnd hkk
          have hnl := hok.len
          generalize plc r.list s = pl at *
          have hpl1 : (pl : Int) < (r.list.length : Int) := by omega
          have HW := Lib.hid hw2; have HK := Lib.hid hck
          clear hw2 e1 hmem hha hok hp2 hkk hck hcur hw
          go_wp2_with fail
          refine hpl.mono ?_
          rintro e w2 ⟨rfl, b2⟩
          have hN2 := hN.low b2
          have b42 := Fr.blk_low b2 b41
          have b62 := Fr.blk_low b2 b61
          have hb2 := hb1.trans (b2.mono hb1.size)
          obtain ⟨A2, cc2, ev, hcc, hrr⟩ := Reads.of_own hN2.row
          have c3 := hN2.c3
          rw [ev] at c3
          obtain ⟨ad2, rfl, _, q2, q3⟩ := kids_at hrr rfl hp1
          have c62 : w2.cell? ⟨w.heap.size + 1, 0, none⟩ = some (.pointer (adC cur)) := b62.cell 0
          have f62 := b62.frozen 0
          generalize (r.list.getD pl (⟨#[]⟩, 0)).2 = kb at *
          have b63 := b62.set_ 0 (.pointer (adC (some kb)))
          have b43 := b42.far (p := ⟨w.heap.size + 1, 0, none⟩) (by simp) (.pointer (adC (some kb)))
          have hb3 := hb2.setCell (p := ⟨w.heap.size + 1, 0, none⟩) (Nat.le_succ _) (.pointer (adC (some kb)))
          have HALL := Lib.hid (And.intro b43 (And.intro b63 hb3))
          clear hpl hN hN2 b2 b41 b61 hb1 b42 b62 b63 b43 hb3 hb2 hrr hcc ev
          go_wp2_with fail
          go_roundw
          case rel => exact ⟨i + 1, some kb, vint (by omega), by omega, rfl, HW, Lib.hid (fun b e => by cases e; exact HK.out), HALL.out.1, HALL.out.2.1, HALL.out.2.2⟩
          case measure => simp [intOf]; omega
    · obtain rfl : i = n := by omega
      have hw2 := hw.out
      rw [List.drop_eq_nil_of_le (by omega), walkT_nil] at hw2
      obtain ⟨rfl, rfl⟩ := Prod.mk.inj hw2
      have b41 := b4
      have b61 := b6
      have hb1 := hb
      clear c6 b4 b6 hb hw2
      have c61 : wr.cell? ⟨w.heap.size + 1, 0, none⟩ = some (.pointer (adC cur)) := b61.cell 0
      have c41 : wr.cell? ⟨w.heap.size, 0, none⟩ = some (.pointer none) := b41.cell 0
      have f41 := b41.frozen 0
      have b44 := b41.set_ 0 (.pointer (adC cur))
      have hb4 := hb1.setCell (p := ⟨w.heap.size, 0, none⟩) (Nat.le_refl _) (.pointer (adC cur))
      clear b41 b61 hb1
      go_wp2_with fail
      try rw [Exit.noGoto_normal]
      go_wp2_with fail
      try rw [Exit.noGoto_ret]
      generalize wr.setCell ⟨w.heap.size, 0, none⟩ (.pointer (adC cur)) = w9 at *
      have d0 : w9.cell? ⟨w.heap.size, 0, none⟩ = some (.pointer (adC cur)) := b44.cell 0
      (try simp only [Exit.inBlock, Exit.then])
      refine bodyPost_ret (by simp [results, Tryd.results27, go_sem, d0]; try rfl) rfl ?_
      exact ⟨rfl, hb4⟩
end
end Go.Proofs.YtglglbbjacgbdaaDoor
