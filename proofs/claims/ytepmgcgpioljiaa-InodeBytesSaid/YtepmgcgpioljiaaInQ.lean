import Derived.Test.YtepmgcgpioljiaaInP
import Derived.Test.YtepmgcgpioljiaaShA
import Derived.RangeFuncNested
import Derived.RangeFuncBound
import Derived.RangeFuncCalls
import Derived.RangeFuncLeaves
import Derived.OwnWalkIn
import Derived.TacticsInMore
import Derived.LoopNIn
import Derived.LoopIn
namespace Go.Proofs.Ytepmgcgpioljiaa
open Go.RowKit Go.Shelf
set_option linter.unusedVariables false
attribute [local go_sem] Oper.semAt_some

/-! ### slices.Values, slices.Collect, slices.Sorted -/
def encI1 (x : Int) : Array Value := #[.int .i64 x]
set_option maxRecDepth 100000 in
set_option maxHeartbeats 2000000 in
theorem vals1_in (F : Fence) (n : Nat) (h56 : F.fn 56) (hro : F.round = none) (hn : 1 ≤ n) (lp Bs n₀ : Nat) (A : Option Addr) (len cap : Nat) (l : List Int) (hl : l.length = len) (hbig : len ≤ 100000) (J Jx : List Int → World → Prop)
    (hY : ∀ pre x W, J pre W → pre.length < len → YieldAt F (n - 1) Try.prog lp #[.int .i64 x] W fun e W' =>
      (e = .returned (.bool true) ∧ J (pre ++ [x]) W' ∧ Below n₀ W W') ∨ (e = .returned (.bool false) ∧ Jx (pre ++ [x]) W'))
    (W : World) (hBs : W.cell? ⟨Bs, 0, none⟩ = some (.slice A len cap)) (hBn : Bs < n₀) (hR : Reads W n₀ 1 A len (l.map (Value.int .i64))) (h0 : J [] W) :
    CallsIn F n Try.prog 56 #[.func (.yield lp) #[] #[], .pointer (some ⟨Bs, 0, none⟩)] W fun e W' => (∃ v, e = .returned v) ∧
      ((∃ ys, ys = l ∧ J ys W') ∨ (∃ pre, pre <+: l ∧ Jx pre W')) := by
  refine callsIn_of_wp Try.func56 rfl h56 ?_ hro
  simp only [Try.ntmps56, List.size_toArray, List.length_cons, List.length_nil, Nat.reduceAdd, Nat.reduceSub, Array.replicate_succ, Array.replicate_zero, List.push_toArray, List.append_toArray, List.nil_append, List.cons_append]
  gi_wp2
  gi_loopw [7] (fun i wr => ∃ m : Nat, m ≤ len ∧ i = .int .i64 m ∧ J (l.take m) wr ∧ Below n₀ W wr) (fun i _ => len - (intOf i).toNat)
  case atStart => exact ⟨0, Nat.zero_le _, rfl, h0, Below.refl _ _⟩
  case round =>
    obtain ⟨m, hm, rfl, hJs, hb⟩ := hrel
    by_cases hlt : m < len
    · have hlen : (l.take m).length < len := by rw [List.length_take]; omega
      have hnext : l.take (m + 1) = l.take m ++ [l.getD m 0] := by rw [List.take_succ_eq_append_getElem (by omega), List.getD_eq_getElem?_getD, List.getElem?_eq_getElem (by omega)]; rfl
      obtain ⟨ad, rfl, hadb, c0⟩ := ints_at (hR.below hb) hl hlt
      generalize l.getD m 0 = x at *
      obtain ⟨fn, tmps, assign, body, hy, hR'⟩ := hY _ x wr hJs hlen
      have HN := Lib.hid hnext; clear hnext hR
      gi_wp2
      refine hR'.mono ?_
      rintro e W3 (⟨rfl, hJ3, hk3⟩ | ⟨rfl, hJx3⟩)
      · gi_wp2
        go_roundw
        case rel => exact ⟨m + 1, by omega, (by first | rfl | exact vint (by omega)), by rw [HN.out]; exact hJ3, hb.trans hk3⟩
        case measure => simp [intOf]; omega
      · gi_wp2
        refine bodyPost_ret (results_none rfl _ _ _) rfl ?_
        exact ⟨⟨_, rfl⟩, .inr ⟨_, by rw [← HN.out]; exact List.take_prefix _ _, hJx3⟩⟩
    · obtain rfl : m = len := by omega
      have ht : l.take m = l := List.take_of_length_le (by omega)
      rw [ht] at hJs
      clear hR hY
      gi_wp2
      go_end0
      exact ⟨⟨_, rfl⟩, .inl ⟨_, rfl, hJs⟩⟩
set_option maxHeartbeats 1000000 in
theorem vals_in (F : Fence) (n : Nat) (h41 : F.fn 41) (hro : F.round = none) (a : Option Addr) (len cap : Nat) (w : World) :
    CallsIn F n Try.prog 41 #[.slice a len cap] w fun e w' => e = .returned (.func (.func 56) #[] #[.pointer (some ⟨w.heap.size, 0, none⟩)]) ∧ w' = w.alloc (.cells #[.slice a len cap] 35) := by
  refine callsIn_of_wp Try.func41 rfl h41 ?_ hro
  simp only [Try.ntmps41, List.size_toArray, List.length_cons, List.length_nil, Nat.reduceAdd, Nat.reduceSub, Array.replicate_succ, Array.replicate_zero, List.push_toArray, List.append_toArray, List.nil_append, List.cons_append]
  gi_wp2
  go_ret
  exact ⟨rfl, rfl⟩
theorem vals_stops (F : Fence) (n : Nat) (h56 : F.fn 56) (hro : F.round = none) (hn : 1 ≤ n) (Bs n₀ : Nat) (A : Option Addr) (len cap : Nat) (l : List Int) (hl : l.length = len) (hbig : len ≤ 100000) (w : World) (hBs : Bs < n₀) (hn₀ : n₀ ≤ w.heap.size)
    (hc : w.cell? ⟨Bs, 0, none⟩ = some (.slice A len cap)) (hR : Reads w n₀ 1 A len (l.map (Value.int .i64))) :
    SeqStopsK F n Try.prog 56 #[.pointer (some ⟨Bs, 0, none⟩)] encI1 (Below n₀) (fun ys => ys = l) (fun pre => pre <+: l) len w := fun lp J Jx W hW _ _ hY h0 => by
  have hW' := hW.mono hn₀
  refine (vals1_in F n h56 hro hn lp Bs n₀ A len cap l hl hbig J Jx hY W ((hW'.cell (p := ⟨Bs, 0, none⟩) hBs).trans hc) hBs (hR.below hW') h0).mono ?_
  rintro e W' ⟨he, h⟩
  exact ⟨he, h⟩
theorem blk_own {W W' : World} {g : Nat} {t : TypeId} {cs : Array Value} {row : Option Nat} (h : Blk W g t cs) (hg : W.grownBy W' row) (hr : ∀ r, row = some r → ∃ o : Obj, W.heap[r]? = some o ∧ o.isCells = false) : Blk W' g t cs :=
  (hg.block g h.lt (fun e => by
    obtain ⟨o, h1, h2⟩ := hr g e.symm
    have h3 : W.heap[g]? = some (.cells cs t (0, 0)) := h
    rw [h3] at h1
    obtain rfl := Option.some.inj h1
    cases h2)).trans h
theorem row_own {W W' : World} {base n : Nat} {v : Value} {xs : List Value} {row : Option Nat} (h : W.ownsRow base 3 1 v n xs) (hg : W.grownBy W' row) (hr : ∀ r, row = some r → ∃ o : Obj, W.heap[r]? = some o ∧ o.isCells = false) : W'.ownsRow base 3 1 v n xs := by
  refine h.kept hg ?_
  rcases h.2 with ⟨rfl, _⟩ | ⟨g, cap, cur, rfl, hb, hc, _⟩
  · exact .inl rfl
  · refine .inr ?_
    intro e
    obtain ⟨o, h1, h2⟩ := hr g (by rw [← e]; simp [Value.ownBlock])
    rw [hc] at h1
    obtain rfl := Option.some.inj h1
    cases h2
/-- between two rounds of AppendSeq: its box holds what has come -/
def AI (w : World) (pre : List Int) (W : World) : Prop := (∃ v, Blk W w.heap.size 35 #[v] ∧ W.ownsRow (w.heap.size + 1) 3 1 v pre.length (pre.map (Value.int .i64)) ∧ (v = .slice none 0 0 ↔ pre = [])) ∧ Below w.heap.size w W
theorem AI.own (w : World) (B : Nat) (hB : w.heap.size ≤ B) : OwnFrom B (AI w) :=
  OwnFrom.and (fun pre X Y row hs hg hr => by
      obtain ⟨v, h1, h2, h3⟩ := hs
      exact ⟨v, blk_own h1 hg (fun r e => (hr r e).2), row_own h2 hg (fun r e => (hr r e).2), h3⟩) (ownFrom_below (Nat.le_refl _) hB)
set_option maxRecDepth 100000 in
set_option maxHeartbeats 2000000 in
theorem app_in (F : Fence) (n : Nat) (h63 : F.fn 63) (h56 : F.fn 56) (hro : F.round = none) (hn : 3 ≤ n) (Bs : Nat) (A : Option Addr) (len cap : Nat) (l : List Int) (hl : l.length = len) (hbig : len ≤ 100000) (w : World)
    (hc : w.cell? ⟨Bs, 0, none⟩ = some (.slice A len cap)) (hR : Reads w w.heap.size 1 A len (l.map (Value.int .i64))) :
    CallsIn F n Try.prog 63 #[.slice none 0 0, .func (.func 56) #[] #[.pointer (some ⟨Bs, 0, none⟩)]] w fun e w' => ∃ v, e = .returned v ∧ w'.ownsRow (w.heap.size + 1) 3 1 v l.length (l.map (Value.int .i64)) ∧ (v = .slice none 0 0 ↔ l = []) ∧ Below w.heap.size w w' := by
  have h1 : 1 ≤ n := by omega
  have hBl : Bs < w.heap.size := World.block_lt_of_cell? _ _ hc
  have hB0 : Below w.heap.size w (w.alloc (.cells #[.slice none 0 0] 35)) := (Below.refl _ w).alloc (Nat.le_refl _) _
  have z0 : Blk (w.alloc (.cells #[.slice none 0 0] 35)) w.heap.size 35 #[.slice none 0 0] := Blk.new _ _ _
  refine callsIn_of_wp_marks Try.func63 rfl h63 ?_ hro
  simp only [Try.ntmps63, List.size_toArray, List.length_cons, List.length_nil, Nat.reduceAdd, Nat.reduceSub, Array.replicate_succ, Array.replicate_zero, List.push_toArray, List.append_toArray, List.nil_append, List.cons_append]
  gi_wp2
  have hI0 : AI w [] (w.alloc (.cells #[.slice none 0 0] 35)) := ⟨⟨_, z0, World.ownsRow_nil _ _ _ _, by simp⟩, hB0⟩
  have hc0 : (w.alloc (.cells #[.slice none 0 0] 35)).cell? ⟨Bs, 0, none⟩ = some (.slice A len cap) := (hB0.cell (p := ⟨Bs, 0, none⟩) hBl).trans hc
  have hR0 := hR.below hB0
  have hsz : (w.alloc (.cells #[.slice none 0 0] 35)).heap.size = w.heap.size + 1 := by simp
  generalize w.alloc (.cells #[.slice none 0 0] 35) = W0 at *
  clear z0
  refine wpIn_rangeFunc_ownH hro h1 (gf := 56) (lb := #[.pointer (some ⟨Bs, 0, none⟩)]) rfl h56 (enters_of Try.func56 (by kernel_rfl) rfl)
    (vals_stops F (n - 1) h56 hro (by omega) Bs w.heap.size A len cap l hl hbig W0 hBl (by omega) hc0 hR0) belowK_t (belowK_b (by omega)) (Below.refl _ _) (fun _ => rfl)
    (AI w) (fun _ _ _ => False) (AI.own w _ (by omega)) (fun _ _ _ _ _ h _ _ => h.elim) hI0
    (fun x a' W => a' = { tmps := #[.slice none 0 0, .func (.func 56) #[] #[.pointer (some ⟨Bs, 0, none⟩)], .pointer (some ⟨w.heap.size, 0, none⟩), undef, .slice none 0 0, .int .i64 x, .func (.func 56) #[] #[.pointer (some ⟨Bs, 0, none⟩)], .int .i64 x, undef, undef, undef, undef, undef], defers := [] })
    (fun x a' _ X Y row hs hg hr => hs)
    ?assign ?body ?done ?stop
  case assign =>
    rintro lp pre x W K hI hK
    dsimp only [encI1]
    gi_wp2
    exact hK _ _ (KeepsFrom.refl _ _) (Below.refl _ W) hI rfl
  case body =>
    rintro lp pre x a' W hl' ⟨r, hr⟩ hI rfl hlt
    obtain ⟨⟨v, hv, hrow, hnil⟩, hB⟩ := hI
    obtain ⟨i0, hinf, hz0, hz1, hz2⟩ := info_parts int_info
    have hvl := hv.lt
    have c2 : W.cell? ⟨w.heap.size, 0, none⟩ = some v := hv.cell 0
    have hrow2 := hrow.alloc (.cells #[.int .i64 x] 3)
    have hfin : ∀ v' w3, w3.ownsRow (w.heap.size + 1) 3 1 v' (pre.length + 1) (pre.map (Value.int .i64) ++ [.int .i64 x]) → (W.alloc (.cells #[.int .i64 x] 3)).grownBy w3 v.ownBlock →
        (v' ≠ .slice none 0 0) → w3.frozen? ⟨w.heap.size, 0, none⟩ = false ∧ w3.cell? ⟨w.heap.size, 0, none⟩ = some v ∧
          (KeepsFrom W0.heap.size W (w3.setCell ⟨w.heap.size, 0, none⟩ v') ∧ Below w.heap.size W (w3.setCell ⟨w.heap.size, 0, none⟩ v') ∧ AI w (pre ++ [x]) (w3.setCell ⟨w.heap.size, 0, none⟩ v')) := by
      intro v' w3 hown hg hne
      have hob : ∀ j, v.ownBlock = some j → w.heap.size + 1 ≤ j := fun j e => (hrow2.lt j e).1
      have hb3 := (hv.alloc (.cells #[.int .i64 x] 3)).grown hg (fun e => by have := hob _ e.symm; omega)
      have hbel : Below w.heap.size W w3 := ((Below.refl _ W).alloc (by omega) (.cells #[.int .i64 x] 3)).grown hg (by simp; omega) (fun j e => by have := hob j e; omega)
      have hbel2 : Below w.heap.size W (w3.setCell ⟨w.heap.size, 0, none⟩ v') := hbel.setCell (Nat.le_refl _) _
      refine ⟨hb3.frozen 0, hb3.cell 0, ?_, hbel2, ⟨v', hb3.set_ 0 v', ?_, ?_⟩, hB.trans (hbel2)⟩
      · refine (((KeepsOthers.alloc W _).trans (KeepsOthers.of_grownBy hg ?_)).trans (KeepsOthers.setCell _ _ _)).from _
        intro j o e ho
        rcases hrow2.2 with ⟨rfl, _⟩ | ⟨g, cap, cur, rfl, _, hc, _⟩
        · cases e
        · cases e; rw [hc] at ho; cases ho; rfl
      · rw [List.length_append, List.map_append]
        exact (Fr.setCell (F := FG w.heap.size) w3 _ 0 v' rfl).own hown (fun j hj e => by have := (hown.lt j hj).1; simp [FG] at e; omega)
      · constructor
        · intro e; exact absurd e hne
        · intro e; simp at e
    have HF := Lib.hid hfin; have HR2 := Lib.hid hrow2; clear hfin hrow2 hrow hnil hv hR hR0 hI0
    gi_wp2_with (first
      | (gi_at_builtin; refine wpListIn_append_own _ rfl _ _ 35 rfl (w.heap.size + 1) 3 i0 (.int .i64 0) 1 8 Try.underlying35 hinf hz0 hz1 hz2 rfl (by decide) _ _ _ rfl HR2.out ⟨W.heap.size, 0, none⟩ 1 1 [.int .i64 x] rfl rfl (cell_one_new _ _ _) (by simp [Value.oneCell']) (by simp only [maxLen]; omega) (by omega) (by simp; omega) ?_; intro v' w3 hown' hg3 hnil3
         obtain ⟨f3, c3, hh⟩ := HF.out v' w3 hown' hg3 (by rcases hown'.2 with ⟨_, h0⟩ | ⟨g, cap, cur, rfl, _⟩; exact absurd h0 (by omega); simp)
         have HH := Lib.hid hh
         obtain ⟨A', c', rfl, _, _⟩ := Reads.of_own hown'
         clear hh hown' hg3 hnil3)
      | gi_in)
    exact HH.out
  case done =>
    rintro D ys W hD hS hI hK
    subst hS
    obtain ⟨⟨v, hv, hrow, hnil⟩, hB⟩ := hI
    have c2 : W.cell? ⟨w.heap.size, 0, none⟩ = some v := hv.cell 0
    have HR := Lib.hid hrow; have HNI := Lib.hid hnil; have HHB := Lib.hid hB
    clear hrow hnil hB hR hR0 hI0
    gi_wp2
    refine ⟨by simp, .inl ⟨_, _, rfl, run_takeDeferred hK, ?_⟩⟩
    refine ⟨_, results_tmp rfl _ _ _, v, rfl, row_own HR.out (grownBy_putObj' _ D (.deferred none)) (fun r e => by cases e; exact ⟨_, hK, rfl⟩), HNI.out, HHB.out.trans (belowK_b (w := w) (Nat.le_refl _) _ D _ _ (by omega) hK rfl rfl)⟩
  case stop =>
    rintro D c pre W hD hpre h hK
    exact h.elim
end Go.Proofs.Ytepmgcgpioljiaa
