import Derived.Test.YtekgoliakgknjaaDiI
import Derived.Test.YtekgoliakgknjaaShB
import Derived.Shelf.SlIterI.Nil
import Derived.Lib.SlKeysI
import Derived.Maps.Own
namespace Go.Proofs.Ytekgoliakgknjaa
open Go.RowKit
set_option linter.unusedVariables false

theorem nodup_le : ∀ (l S : List Int), l.Nodup → (∀ x ∈ l, x ∈ S) → l.length ≤ S.length
  | [], _, _, _ => Nat.zero_le _
  | a :: l, S, hn, hs => by
    rw [List.nodup_cons] at hn
    have ha := hs a (by simp)
    have h := nodup_le l (S.erase a) hn.2 (fun x hx => (List.mem_erase_of_ne (fun e : x = a => hn.1 (by rw [← e]; exact hx))).2 (hs x (by simp [hx])))
    rw [List.length_erase_of_mem ha] at h
    have : 0 < S.length := List.length_pos_of_mem ha
    rw [List.length_cons]; omega
/-- a map by int as the kit's own maps: its keys, in whatever order -/
theorem FM.owns {P : Program} {w : World} {b : Nat} {m : Int → Option Value} {kt : TypeId} (h : FM w b m) (hk : P.underlying kt = some (.int .i64)) (S : List Int) (hS : ∀ k, m k ≠ none → k ∈ S) (hb : ∀ k ∈ S, -9223372036854775808 ≤ k ∧ k ≤ 9223372036854775807) (hl : S.length ≤ 1000) :
    ∃ D : DataW Unit, w.ownsMap P kt (fun _ => some (.nil, [])) b S.length D ∧ Maps.size D ≤ S.length ∧ ∀ ss : List Int, ss.Perm (intKeys D) → ss.Nodup ∧ ∀ k, k ∈ ss ↔ m k ≠ none := by
  obtain ⟨L, ⟨⟨es, clock, h1, h2, h3⟩, hn⟩, hL⟩ := h
  have hmem : ∀ k, k ∈ L.map (·.1) ↔ m k ≠ none := by
    intro k
    rw [← hL]
    constructor
    · intro hk e
      obtain ⟨p, hp, rfl⟩ := List.mem_map.1 hk
      exact getI_none.1 e p hp rfl
    · intro hne
      apply Classical.byContradiction
      intro hno
      exact hne (getI_none.2 fun p hp e => hno (List.mem_map.2 ⟨p, hp, e⟩))
  have hle : (L.map (·.1)).length ≤ S.length := nodup_le _ _ hn (fun x hx => hS x ((hmem x).1 hx))
  rw [List.length_map] at hle
  have hsz : es.size = L.length := by
    have := congrArg List.length h2
    simpa using this
  have hkey : ∀ x ∈ es.toList, ∃ k : Int, x.key = .int .i64 k ∧ k ∈ L.map (·.1) := by
    intro x hx
    have := List.mem_map_of_mem (f := fun e : MapEntry => (e.key, e.val)) hx
    rw [h2] at this
    obtain ⟨p, hp, e⟩ := List.mem_map.1 this
    exact ⟨p.1, (congrArg Prod.fst e).symm, List.mem_map.2 ⟨p, hp, rfl⟩⟩
  have hko : ∀ k ∈ L.map (·.1), keyOf P kt (.int .i64 k) = some (.int .i64 k) := by
    intro k hk2
    have hbk := hb k (hS k ((hmem k).1 hk2))
    rw [Go.keyOf_int hk]
    have e1 : (Lit.int .i64 k).wf = true := by
      have a : IntKind.i64.min = -9223372036854775808 := by decide
      have b : IntKind.i64.max = 9223372036854775807 := by decide
      simp [Lit.wf, a, b, hbk]
    simp [Go.mapKey, hk, e1]
  have hreads : ∀ x ∈ es.toList, Go.WideElems.rd P kt (fun _ => some ((.nil : DataW Unit), ([] : List MemPlace))) x = some (.int .i64 (match x.key with | .int _ k => k | _ => 0), .nil) := by
    intro x hx
    obtain ⟨k, e, hk2⟩ := hkey x hx
    simp [Go.WideElems.rd, e, hko k hk2]
  refine ⟨_, ⟨es, clock, h1, ⟨by rw [hsz]; simp only [maxLen]; omega, h3, fun x hx => ⟨_, hreads x hx⟩⟩, by omega, rfl⟩, ?_, ?_⟩
  · show ((es.toList.map _).foldr DataW.insert []).length ≤ _
    rw [Go.length_sorted, List.length_map, Array.length_toList]; omega
  · intro ss hp
    have hp2 : (intKeys (DataW.map ((es.toList.map (Go.WideElems.rg P kt (fun _ => some ((.nil : DataW Unit), ([] : List MemPlace))))).foldr DataW.insert []))).Perm (L.map (·.1)) := by
      show (List.map _ _).Perm _
      refine ((Go.WideShapes.sorted_perm _).map _).trans ?_
      rw [List.map_map]
      have : es.toList.map (fun e => (e.key, e.val)) = L.map (fun p => (Value.int .i64 p.1, p.2)) := h2
      have e2 : (es.toList.map (fun e => (e.key, e.val))).map (fun q : Value × Value => match q.1 with | .int _ k => k | _ => 0) = L.map (·.1) := by
        rw [h2, List.map_map]
        exact List.map_congr_left fun x hx => rfl
      rw [← e2, List.map_map]
      refine List.Perm.of_eq (List.map_congr_left fun x hx => ?_)
      simp only [Function.comp, Go.WideElems.rg, hreads x hx]
      rfl
    have hp3 := hp.trans hp2
    exact ⟨hp3.nodup_iff.2 hn, fun k => hp3.mem_iff.trans (hmem k)⟩

theorem sorts_in (m : Nat) : AnyZI.SortsIn Try.prog sortedA_ren Fence.wide m :=
  ⟨fun blk off cap ss W hH hblk hsz => callsIn_wide.2 (slices_Sort_int blk off cap ss W hH hblk hsz),
   fun p cap W => callsIn_wide.2 (slices_Sort_int_none p cap W)⟩
/-- 'maps.Keys', then 'slices.Sorted' -/
theorem keys_call (mb : Option Nat) (w : World) : Calls Try.prog 51 #[.map mb] w fun e w' => e = .returned (.func (.func 70) #[] #[.pointer (some ⟨w.heap.size, 0, none⟩)]) ∧ w' = w.alloc (.cells #[.map mb] 67) :=
  (callsIn_wide (n := 5)).1 (AnyZI.keys_in keysA Fence.wide 5 trivial rfl mb w)
theorem sorted_call {w : World} {b : Nat} {m : Int → Option Value} (h : FM w b m) (S : List Int) (hS : ∀ k, m k ≠ none → k ∈ S) (hb : ∀ k ∈ S, -9223372036854775808 ≤ k ∧ k ≤ 9223372036854775807) (hl : S.length ≤ 1000) :
    Calls Try.prog 50 #[.func (.func 70) #[] #[.pointer (some ⟨w.heap.size, 0, none⟩)]] (w.alloc (.cells #[.map (some b)] 67)) fun e w' => ∃ (v : Value) (ms : List Int), e = .returned v ∧ ms.Pairwise (· < ·) ∧ (∀ k, k ∈ ms ↔ m k ≠ none) ∧ ms.length ≤ 1000 ∧
      w'.ownsRow (w.heap.size + 1) 3 1 v ms.length (ms.map (Value.int .i64)) ∧ Below w.heap.size w w' := by
  obtain ⟨D, hown, hsz, hks⟩ := h.owns (P := Try.prog) Try.underlying3 S hS hb hl
  refine (callsIn_wide (n := 6)).1 ?_
  have hbl := hown.lt
  have hseq : SeqGives Fence.wide 3 Try.prog 70 #[.pointer (some ⟨w.heap.size, 0, none⟩)] encZ (fun ss => ss.Perm (intKeys D)) (Maps.size D) (w.alloc (.cells #[.map (some b)] 67)) :=
    AnyZI.keys_gives (ρ := keysA_ren) { keysA with } Fence.wide _ trivial rfl (by omega) w.heap.size b _ D _ (by simp) (by simp) (by
      obtain ⟨es, clock, hb, Ft, hs, hD⟩ := hown
      exact ⟨es, clock, (Below.heap_alloc _ _ b hbl).trans hb, Ft, hs, hD⟩)
  have cS := AnyZI.sorted_in sortedA Fence.wide 6 trivial trivial trivial trivial rfl (by omega) (sorts_in _) (enters_of Try.func69 (by kernel_rfl) rfl) 70 #[.pointer (some ⟨w.heap.size, 0, none⟩)] trivial (enters_of Try.func70 (by kernel_rfl) rfl) _ _ (by simp only [maxLen]; omega) (by omega) _ hseq
  change CallsIn _ _ Try.prog 50 _ _ _ at cS
  refine cS.mono ?_
  rintro e w' ⟨v, ss, rfl, hp, hrow, _, hbe⟩
  obtain ⟨hnd, hmem⟩ := hks ss hp
  have hle : ss.length ≤ S.length := nodup_le _ _ hnd (fun x hx => hS x ((hmem x).1 hx))
  have hpm := List.mergeSort_perm ss (fun x y => decide (x ≤ y))
  have hsort : (ss.mergeSort (fun x y => decide (x ≤ y))).Pairwise (fun a b => decide (a ≤ b) = true) := List.pairwise_mergeSort (by intro a b c; simp; omega) (by intro a b; simp; omega) ss
  have hnd2 : (ss.mergeSort (fun x y => decide (x ≤ y))).Nodup := hpm.nodup_iff.2 hnd
  refine ⟨v, ss.mergeSort (fun x y => decide (x ≤ y)), rfl, ?_, fun k => hpm.mem_iff.trans (hmem k), by rw [hpm.length_eq]; omega, ?_, ?_⟩
  · refine (List.pairwise_and_iff.2 ⟨hsort, hnd2⟩).imp fun {a b} h => ?_
    have h1 : a ≤ b := by simpa using h.1
    have h2 : a ≠ b := h.2
    omega
  · rw [hpm.length_eq]
    have e : (w.alloc (.cells #[.map (some b)] 67)).heap.size = w.heap.size + 1 := by simp
    rw [e] at hrow
    exact hrow
  · have e : (w.alloc (.cells #[.map (some b)] 67)).heap.size = w.heap.size + 1 := by simp
    rw [e] at hbe
    exact ((Below.refl _ w).alloc (Nat.le_refl _) _).trans (hbe.mono (by omega))
end Go.Proofs.Ytekgoliakgknjaa
