import Derived.Test.YtepmgcgpioljiaaInQ
namespace Go.Proofs.Ytepmgcgpioljiaa
open Go.RowKit Go.Shelf
open Go.Sort (Holds putRow grow)
set_option linter.unusedVariables false
attribute [local go_sem] Oper.semAt_some

theorem sorts_in (m : Nat) : AnyZI.SortsIn Try.prog sortedA_ren Fence.wide m :=
  ⟨fun blk off cap ss W hH hblk hsz => callsIn_wide.2 (slices_Sort_int blk off cap ss W hH hblk hsz),
   fun p cap W => callsIn_wide.2 (slices_Sort_int_none p cap W)⟩
def srt (zs : List Int) : List Int := zs.mergeSort fun x y => decide (x ≤ y)
theorem srt_len (zs : List Int) : (srt zs).length = zs.length := (List.mergeSort_perm zs _).length_eq
set_option maxRecDepth 100000 in
set_option maxHeartbeats 2000000 in
theorem collect_in (F : Fence) (n : Nat) (h54 : F.fn 54) (h63 : F.fn 63) (h56 : F.fn 56) (hro : F.round = none) (hn : 4 ≤ n) (Bs : Nat) (A : Option Addr) (len cap : Nat) (l : List Int) (hl : l.length = len) (hbig : len ≤ 100000) (w : World)
    (hc : w.cell? ⟨Bs, 0, none⟩ = some (.slice A len cap)) (hR : Reads w w.heap.size 1 A len (l.map (Value.int .i64))) :
    CallsIn F n Try.prog 54 #[.func (.func 56) #[] #[.pointer (some ⟨Bs, 0, none⟩)]] w fun e w' => ∃ v, e = .returned v ∧ w'.ownsRow (w.heap.size + 1) 3 1 v l.length (l.map (Value.int .i64)) ∧ (v = .slice none 0 0 ↔ l = []) ∧ Below w.heap.size w w' := by
  have h1 : 1 ≤ n := by omega
  have e63 : ∀ args w, (callFunc 63 args).run Try.prog w = .ok (.enter 63 args) w := enters_of Try.func63 (by kernel_rfl) rfl
  have cA := app_in F (n - 1) h63 h56 hro (by omega) Bs A len cap l hl hbig w hc hR
  refine callsIn_of_wp Try.func54 rfl h54 ?_ hro
  simp only [Try.ntmps54, List.size_toArray, List.length_cons, List.length_nil, Nat.reduceAdd, Nat.reduceSub, Array.replicate_succ, Array.replicate_zero, List.push_toArray, List.append_toArray, List.nil_append, List.cons_append]
  gi_wp2_with (gi_at_fn 63; refine cA.mono ?_; rintro e w' ⟨v, rfl, hrow, hnil, hb⟩)
  go_ret
  exact ⟨v, rfl, hrow, hnil, hb⟩
set_option maxRecDepth 100000 in
set_option maxHeartbeats 2000000 in
theorem sorted_call (A : Option Addr) (len cap : Nat) (l : List Int) (hl : l.length = len) (hbig : len ≤ 100000) (w : World) (hR : Reads w w.heap.size 1 A len (l.map (Value.int .i64))) :
    Calls Try.prog 40 #[.func (.func 56) #[] #[.pointer (some ⟨w.heap.size, 0, none⟩)]] (w.alloc (.cells #[.slice A len cap] 35)) fun e w' => ∃ v, e = .returned v ∧ w'.ownsRow (w.heap.size + 1) 3 1 v (srt l).length ((srt l).map (Value.int .i64)) ∧ Below w.heap.size w w' := by
  subst hl
  refine (callsIn_wide (n := 6)).1 ?_
  have h1 : 1 ≤ 6 := by omega
  have hB0 : Below w.heap.size w (w.alloc (.cells #[.slice A l.length cap] 35)) := (Below.refl _ w).alloc (Nat.le_refl _) _
  have hc : (w.alloc (.cells #[.slice A l.length cap] 35)).cell? ⟨w.heap.size, 0, none⟩ = some (.slice A l.length cap) := (Blk.new w 35 #[.slice A l.length cap]).cell 0
  have hR0 := hR.below hB0
  have hs0 : (w.alloc (.cells #[.slice A l.length cap] 35)).heap.size = w.heap.size + 1 := by simp
  generalize w.alloc (.cells #[.slice A l.length cap] 35) = W0 at *
  have cA := collect_in Fence.wide 5 trivial trivial trivial rfl (by omega) w.heap.size A l.length cap l rfl hbig W0 hc (hR0.more (by omega))
  have e54 : ∀ args w, (callFunc 54 args).run Try.prog w = .ok (.enter 54 args) w := enters_of Try.func54 (by kernel_rfl) rfl
  have e55 : ∀ args w, (callFunc 55 args).run Try.prog w = .ok (.enter 55 args) w := enters_of Try.func55 (by kernel_rfl) rfl
  have hro : Fence.wide.round = none := rfl
  have h40 : Fence.wide.fn 40 := trivial
  have h54 : Fence.wide.fn 54 := trivial
  have h55 : Fence.wide.fn 55 := trivial
  refine callsIn_of_wp Try.func40 rfl h40 ?_ hro
  simp only [Try.ntmps40, List.size_toArray, List.length_cons, List.length_nil, Nat.reduceAdd, Nat.reduceSub, Array.replicate_succ, Array.replicate_zero, List.push_toArray, List.append_toArray, List.nil_append, List.cons_append]
  gi_wp2_with (gi_at_fn 54; refine cA.mono ?_; rintro e W ⟨v, rfl, hrow, hnil, hb⟩)
  have hbw : Below w.heap.size w W := hB0.trans (hb.mono (by omega))
  have hsort := sorts_in 5
  rcases hrow.2 with ⟨rfl, hz⟩ | ⟨gb, cap', cur, rfl, hbase, hgb, r1, r2, r3, r4⟩
  · have hss : l = [] := List.eq_nil_of_length_eq_zero hz
    subst hss
    gi_wp2_with (gi_at_fn 55; refine (hsort.2 none 0 W).mono ?_; rintro e w' ⟨rfl, rfl⟩)
    go_ret
    exact ⟨.slice none 0 0, rfl, by rw [show srt [] = [] by simp [srt]]; exact World.ownsRow_nil _ _ _ _, hbw⟩
  · have hH : Holds encZ W gb 0 l.toArray := holds_of_block_i hgb (by simpa using r4)
    have hgl : gb < W.heap.size := (Array.getElem?_eq_some_iff.1 hgb).1
    have cS := hsort.1 gb 0 cap' l W hH hgl (by omega)
    gi_wp2_with (gi_at_fn 55; refine cS.mono ?_; rintro e w' ⟨rfl, nn, os, rfl⟩)
    go_ret
    refine ⟨_, rfl, ?_, hbw.grown (grownBy_sorted_i _) hbw.size (fun j hj => by cases hj; omega)⟩
    have ho := ownsRow_sorted_i (os := os) (n := nn) (base := w.heap.size + 1) (ts := srt l) (srt_len l) (by omega) hgb r1 r2 r3
    rw [srt_len]
    exact ho
theorem compact_call {w : World} {B n : Nat} {v : Value} {ms : List Int} (hrow : w.ownsRow B 3 1 v n (ms.map (Value.int .i64))) (hn : ms.length = n) (hbig : n ≤ 100000) :
    Calls Try.prog 42 #[v] w fun e w' => ∃ p c, e = .returned (.slice p (Lib.compact ms).length c) ∧ w.grownBy w' v.ownBlock := by
  rcases hrow.2 with ⟨rfl, hz⟩ | ⟨gb, cap', cur, rfl, hbase, hgb, r1, r2, r3, r4⟩
  · have hss : ms = [] := List.eq_nil_of_length_eq_zero (by omega)
    subst hss
    refine (slices_Compact_int_empty none 0 w).mono ?_
    rintro e w' ⟨rfl, rfl⟩
    exact ⟨none, 0, rfl, World.grownBy.refl _ _⟩
  · subst hn
    have hH : Holds (Value.int .i64) w gb 0 ms.toArray := holds_of_block_i hgb (by simpa using r4)
    refine (slices_Compact_int gb 0 cap' ms w hH (by omega) r1).mono ?_
    rintro e w' ⟨rfl, q, rfl⟩
    refine ⟨_, _, rfl, ?_⟩
    have := grownBy_sorted_i (w := w) (g := gb) (n := q) (os := #[]) (Lib.compact ms ++ List.replicate (ms.length - (Lib.compact ms).length) 0).toArray
    rw [Go.Sort.grow_empty] at this
    exact this
/-- of a sorted row nothing is left out just where no number comes twice -/
theorem compact_nodup (zs : List Int) : (Lib.compact (srt zs)).length = zs.length ↔ zs.Nodup := by
  have hs : (srt zs).Pairwise (fun a b => a ≤ b) := by
    have := List.pairwise_mergeSort (le := fun (x y : Int) => decide (x ≤ y)) (by intro a b c; simp; omega) (by intro a b; simp; omega) zs
    exact this.imp (by intro a b h; simpa using h)
  have hp : (srt zs).Nodup ↔ zs.Nodup := (List.mergeSort_perm zs _).nodup_iff
  rw [← hp, ← srt_len zs]
  generalize srt zs = ms at *
  have hget : ∀ j, j < ms.length → ms.toArray[j]! = ms.getD j 0 := by
    intro j hj
    rw [getElem!_pos _ _ (by simpa using hj), List.getD_eq_getElem?_getD, List.getElem?_eq_getElem hj]; rfl
  unfold Lib.compact Lib.compactUpTo
  rw [List.length_map]
  constructor
  · intro h
    have hall : ∀ j ∈ List.range ms.length, Lib.keeps ms.toArray j = true := by
      have h2 : ((List.range ms.length).filter (Lib.keeps ms.toArray)).length = (List.range ms.length).length := by rw [h, List.length_range]
      exact List.length_filter_eq_length_iff.1 h2
    have hlt : ∀ j, j + 1 < ms.length → ms.getD j 0 < ms.getD (j + 1) 0 := by
      intro j hj
      have h1 := hall (j + 1) (List.mem_range.2 hj)
      unfold Lib.keeps at h1
      rw [decide_eq_true_eq, hget _ hj, show j + 1 - 1 = j by omega, hget _ (by omega)] at h1
      rcases h1 with h1 | h1
      · omega
      · have h2 := List.pairwise_iff_getElem.1 hs j (j + 1) (by omega) hj (by omega)
        rw [List.getD_eq_getElem?_getD, List.getElem?_eq_getElem (by omega), List.getD_eq_getElem?_getD, List.getElem?_eq_getElem (by omega)] at h1 ⊢
        simp only [Option.getD_some] at h1 ⊢
        omega
    have hlt2 : ∀ d i, i + d + 1 < ms.length → ms.getD i 0 < ms.getD (i + d + 1) 0 := by
      intro d
      induction d with
      | zero => intro i hi; exact hlt i hi
      | succ d ih => intro i hi; have a := ih i (by omega); have b := hlt (i + d + 1) (by omega); rw [show i + (d + 1) + 1 = i + d + 1 + 1 by omega]; omega
    refine List.pairwise_iff_getElem.2 fun i j hi hj hij e => ?_
    have := hlt2 (j - i - 1) i (by omega)
    rw [show i + (j - i - 1) + 1 = j by omega, List.getD_eq_getElem?_getD, List.getElem?_eq_getElem hi, List.getD_eq_getElem?_getD, List.getElem?_eq_getElem hj] at this
    simp only [Option.getD_some] at this
    omega
  · intro h
    have h2 : ((List.range ms.length).filter (Lib.keeps ms.toArray)).length = (List.range ms.length).length := by
      rw [List.length_filter_eq_length_iff]
      intro j hj
      have hj' := List.mem_range.1 hj
      unfold Lib.keeps
      rw [decide_eq_true_eq]
      by_cases h0 : j = 0
      · exact .inl h0
      · refine .inr ?_
        rw [hget _ hj', hget _ (by omega)]
        intro e
        have := List.pairwise_iff_getElem.1 h (j - 1) j (by omega) hj' (by omega)
        apply this
        rw [List.getD_eq_getElem?_getD, List.getElem?_eq_getElem hj', List.getD_eq_getElem?_getD, List.getElem?_eq_getElem (by omega)] at e
        exact e.symm
    rw [h2, List.length_range]
end Go.Proofs.Ytepmgcgpioljiaa
