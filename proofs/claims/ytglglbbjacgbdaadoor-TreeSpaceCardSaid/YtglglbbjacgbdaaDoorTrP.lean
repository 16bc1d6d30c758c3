import Derived.Test.YtglglbbjacgbdaaDoorTrO
namespace Go.Proofs.YtglglbbjacgbdaaDoor
open Go.RowKit
set_option linter.unusedVariables false
set_option linter.unusedSimpArgs false
attribute [local go_sem] b_max2 b_min2 b_max b_min

/-! ### put: a name into a list -/
def insC (l : List Ch) (i : Nat) (c : Ch) : List Ch := l.take i ++ [c] ++ l.drop i
theorem cellsC_append (a b : List Ch) : cellsC (a ++ b) = cellsC a ++ cellsC b := by simp [cellsC]
theorem cellsC_take (l : List Ch) (i : Nat) (hi : i ≤ l.length) : cellsC (l.take i) = (cellsC l).take (i * 2) ∧ cellsC (l.drop i) = (cellsC l).drop (i * 2) := by
  have e : cellsC l = cellsC (l.take i) ++ cellsC (l.drop i) := by rw [← cellsC_append, List.take_append_drop]
  have hl : (cellsC (l.take i)).length = i * 2 := by rw [cellsC_length, List.length_take, Nat.min_eq_left hi]
  exact ⟨by rw [e, List.take_left' hl], by rw [e, List.drop_left' hl]⟩
theorem cellsC_ins (l : List Ch) (i : Nat) (hi : i ≤ l.length) (s : ByteArray) (q : Nat) : cellsC (insC l i (s, q)) = (cellsC l).take (i * 2) ++ [.string s, .pointer (some ⟨q, 0, none⟩)] ++ (cellsC l).drop (i * 2) := by
  rw [insC, cellsC_append, cellsC_append, (cellsC_take l i hi).1, (cellsC_take l i hi).2]
  rfl
theorem insC_length (l : List Ch) (i : Nat) (hi : i ≤ l.length) (c : Ch) : (insC l i c).length = l.length + 1 := by simp [insC]; omega
theorem cellsC_one (l : List Ch) : ∀ u ∈ cellsC l, u.oneCell' = true := by
  intro u hu
  obtain ⟨c, _, hc⟩ := List.mem_flatMap.1 hu
  simp only [cellC, List.mem_cons, List.not_mem_nil, or_false] at hc
  rcases hc with rfl | rfl <;> rfl
theorem plc_le (l : List Ch) (s : ByteArray) : plc l s ≤ l.length := List.countP_le_length

section
variable {w w' : World} {id : Id} {r : NR} {v : Value}
set_option maxRecDepth 100000 in
set_option maxHeartbeats 1000000 in
theorem put_any (h : IsN w id r v) (ho : OkN r) (hlen : r.list.length < 2000) {t : TypeId} {cs : Array Value} (hb : Blk w id.1 t cs) (ht : t ≠ 72) (s : ByteArray) (q : Nat) :
    Calls Tryd.prog 26 #[.pointer (some ⟨id.1, id.2, none⟩), .string s, .pointer (some ⟨q, 0, none⟩)] w fun e w' => e = .returned (.tuple #[]) ∧
      ∃ v' cs', w'.ownsRow 0 72 2 v' (r.list.length + 1) (cellsC (insC r.list (plc r.list s) (s, q))) ∧ Blk w' id.1 t cs' ∧ w'.cell? ⟨id.1, id.2 + 3, none⟩ = some v' ∧
        (∀ o, o ≠ id.2 + 3 → w'.cell? ⟨id.1, o, none⟩ = w.cell? ⟨id.1, o, none⟩) ∧ Fr (fun k => k = id.1 ∨ v.ownBlock = some k) w w' ∧ (v'.ownBlock = v.ownBlock ∨ ∃ k, v'.ownBlock = some k ∧ w.heap.size ≤ k) := by
  have hp := place_any h ho s
  have hpl := plc_le r.list s
  have hcells := cellsC_ins r.list _ hpl s q
  rw [hcells]
  have hrow := h.row
  have hnb : v.ownBlock ≠ some id.1 := own_blk_ne hrow hb (Ne.symm ht)
  have hone := cellsC_one r.list
  have c3 := h.c3
  have hlt := h.lt
  generalize plc r.list s = p at *
  generalize hasN r.list s = z at *
  generalize hxs : cellsC r.list = xs at *
  generalize hn : r.list.length = n at *
  clear h ho hcells hxs hn
  obtain ⟨a, b⟩ := id
  dsimp only at *
  go_enter Tryd.func26, Tryd.ntmps26
  go_wp2_with fail
  refine hp.mono ?_
  rintro e w1 ⟨rfl, b1⟩
  have c31 : w1.cell? ⟨a, b + 3, none⟩ = some v := (b1.cell (p := ⟨a, b + 3, none⟩) hlt).trans c3
  have hb1 : Blk w1 a t cs := hb.below b1 hlt
  have hr1 : w1.ownsRow 0 72 2 v n xs := Fr.own_low b1 hrow
  clear hp
  have hvw : v.ownBlock ≠ some w1.heap.size := fun e => by have := (hr1.lt _ e).2; omega
  have hins := ins_any (i := p) (s := s) (q := some ⟨q, 0, none⟩) (hr1.alloc (.cells #[.string s, .pointer (some ⟨q, 0, none⟩)] 72)) (by omega) hpl (Blk.new w1 72 _) hvw hone
  go_wp2_with fail
  refine hins.mono ?_
  rintro e w3 ⟨v', rfl, h1, h2, h3⟩
  obtain ⟨A', c', ev, _, _⟩ := Reads.of_own h1
  have hlt1 := hb1.lt
  have hb3 : Blk w3 a t cs := (hb1.alloc _).grown h2 (fun e => hnb e.symm)
  have c33 : w3.cell? ⟨a, b + 3, none⟩ = some v := (hb3.cell _).trans ((hb1.cell _).symm.trans c31)
  have f33 : w3.frozen? ⟨a, b + 3, none⟩ = false := hb3.frozen _
  have hva : v'.ownBlock ≠ some a := by
    rcases h3 with h3 | h3
    · rw [h3]; exact hnb
    · rw [h3, sz_alloc]; intro e; have := Option.some.inj e; omega
  have hin : b + 3 < cs.size := by
    have := (hb3.cell (b + 3)).symm.trans c33
    exact (Array.getElem?_eq_some_iff.1 this).1
  have hb4 : Blk (w3.setCell ⟨a, b + 3, none⟩ v') a t (cs.setIfInBounds (b + 3) v') := hb3.set_ _ _
  have hf1 : Fr (fun k => k = a ∨ v.ownBlock = some k) w (w1.alloc (.cells #[.string s, .pointer (some ⟨q, 0, none⟩)] 72)) := (Fr.of_below b1 _).trans (Fr.alloc _ _ _)
  have hf2 : Fr (fun k => k = a ∨ v.ownBlock = some k) w w3 := hf1.trans ((Fr.of_grown h2).mono fun k hk _ => .inr hk)
  have hfin : (w3.setCell ⟨a, b + 3, none⟩ v').ownsRow 0 72 2 v' (n + 1) (xs.take (p * 2) ++ [.string s, .pointer (some ⟨q, 0, none⟩)] ++ xs.drop (p * 2)) ∧ (w3.setCell ⟨a, b + 3, none⟩ v').cell? ⟨a, b + 3, none⟩ = some v' ∧ (∀ o, o ≠ b + 3 → (w3.setCell ⟨a, b + 3, none⟩ v').cell? ⟨a, o, none⟩ = w.cell? ⟨a, o, none⟩) ∧ Fr (fun k => k = a ∨ v.ownBlock = some k) w (w3.setCell ⟨a, b + 3, none⟩ v') ∧ (v'.ownBlock = v.ownBlock ∨ ∃ k, v'.ownBlock = some k ∧ w.heap.size ≤ k) := by
    refine ⟨(Fr.setCell (F := fun k => k = a) w3 a (b + 3) v' rfl).own h1 (fun k hk e => hva (by rw [hk, e])), ?_, fun o ho => ?_, hf2.trans (Fr.setCell _ _ _ _ (.inl rfl)), ?_⟩
    · rw [hb4.cell]; simp [hin]
    · rw [hb4.cell, hb.cell, Array.getElem?_setIfInBounds, if_neg (by omega)]
    · rcases h3 with h3 | h3
      · exact .inl h3
      · refine .inr ⟨_, h3, ?_⟩
        have := b1.size
        rw [sz_alloc]; omega
  have HF := Lib.hid hfin; have HB := Lib.hid hb4
  clear hfin hb4 hf1 hf2 h1 h2 h3 hins hrow hr1 hone hb hb1 hb3 c3 c31 hvw hnb hva
  subst ev
  go_wp2_with fail
  go_end0
  exact ⟨rfl, _, _, HF.out.1, HB.out, HF.out.2⟩
end
end Go.Proofs.YtglglbbjacgbdaaDoor
