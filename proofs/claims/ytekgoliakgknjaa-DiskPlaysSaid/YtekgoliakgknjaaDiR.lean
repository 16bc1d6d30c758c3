import Derived.Test.YtekgoliakgknjaaDiP
import Derived.Deep.CutBlock
namespace Go.Proofs.Ytekgoliakgknjaa
open Go.RowKit
set_option linter.unusedVariables false
attribute [local go_sem] b_max2 b_min2 b_max b_min

/-- keys 1 and 2, what lies and what their caches hold -/
def HL (L : List ByteArray) (C1 C2 : List Put) : DS := ⟨L, K2, fun j => if j = 2 then C2 else if j = 1 then C1 else [], []⟩
section
variable {L : List ByteArray} {C1 C2 : List Put}
theorem hl_may1 (hL : L.length = 4) {s : Nat} (hs : s < 4) : fMay (HL L C1 C2) 1 s false = 0 := by
  unfold fMay
  rw [if_neg (by simp [HL, hL]; omega)]
  rfl
theorem hl_may2 (hL : L.length = 4) {s : Nat} (hs : s < 4) : fMay (HL L C1 C2) 2 s false = 0 := by
  unfold fMay
  rw [if_neg (by simp [HL, hL]; omega)]
  rfl
theorem hl_set1 (D : List Put) : (HL L C1 C2).setCache 1 D = HL L D C2 := by
  unfold HL DS.setCache
  congr 1
  funext j
  dsimp only
  by_cases h2 : j = 2
  · subst h2; rw [if_neg (by omega), if_pos rfl, if_pos rfl]
  · by_cases h1 : j = 1
    · rw [if_pos h1, if_neg h2, if_pos h1]
    · rw [if_neg h1, if_neg h2, if_neg h1, if_neg h2, if_neg h1]
theorem hl_set2 (D : List Put) : (HL L C1 C2).setCache 2 D = HL L C1 D := by
  unfold HL DS.setCache
  congr 1
  funext j
  dsimp only
  by_cases h2 : j = 2
  · rw [if_pos h2, if_pos h2]
  · rw [if_neg h2, if_neg h2, if_neg h2]
theorem hl_c1 : (HL L C1 C2).caches 1 = C1 := rfl
theorem hl_c2 : (HL L C1 C2).caches 2 = C2 := rfl
theorem hl_write1 (hL : L.length = 4) {s : Nat} (hs : s < 4) (b : Nat) : fWrite (HL L C1 C2) 1 s (sec b) = (HL L (C1 ++ [(s, sec b)]) C2, 0) := by
  unfold fWrite
  rw [oddB_sec, hl_may1 hL hs, if_pos rfl, hl_set1]; rfl
theorem hl_write2 (hL : L.length = 4) {s : Nat} (hs : s < 4) (b : Nat) : fWrite (HL L C1 C2) 2 s (sec b) = (HL L C1 (C2 ++ [(s, sec b)]), 0) := by
  unfold fWrite
  rw [oddB_sec, hl_may2 hL hs, if_pos rfl, hl_set2]; rfl
theorem hl_flush (hL : L.length = 4) : fFlush (HL L C1 C2) 1 = (HL (LA C1 L) [] C2, 0) := by
  unfold fFlush
  rw [show fMay (HL L C1 C2) 1 0 false = 0 from hl_may1 hL (s := 0) (by omega), if_pos rfl]
  congr 1
  unfold fSettle
  rw [show (HL L C1 C2).setLies (laid (fun _ => true) ((HL L C1 C2).caches 1) ((HL L C1 C2).caches 1).length (HL L C1 C2).lies) = HL (LA C1 L) C1 C2 from rfl, hl_set1]
theorem hl_read1 (hL : L.length = 4) {s : Nat} (hs : s < 4) : fRead (HL L C1 C2) 1 s = ((fLast C1 s).getD (L.getD s ⟨#[]⟩), 0) := by
  unfold fRead
  rw [hl_may1 hL hs, if_pos rfl]
  rfl
theorem hl_read2 (hL : L.length = 4) {s : Nat} (hs : s < 4) : fRead (HL L C1 C2) 2 s = ((fLast C2 s).getD (L.getD s ⟨#[]⟩), 0) := by
  unfold fRead
  rw [hl_may2 hL hs, if_pos rfl]
  rfl
theorem hl_peek (hL : L.length = 4) {s : Nat} (hs : s < 4) : fPeek (HL L C1 C2) s = L.getD s ⟨#[]⟩ := by
  unfold fPeek
  rw [if_pos (by simp [HL, hL]; omega)]
  rfl
end
theorem uv_l {U V : List ByteArray} (hU : U.length = 4) {s : Nat} (hs : s < 4) : (strs (U ++ V))[s]? = some (.string (U.getD s ⟨#[]⟩)) := by
  rw [strs_get _ (by rw [List.length_append]; omega)]
  congr 2
  rw [List.getD_eq_getElem?_getD, List.getElem?_append_left (by omega), List.getD_eq_getElem?_getD]
theorem uv_r {U V : List ByteArray} (hU : U.length = 4) (hV : V.length = 4) {s : Nat} (hs : s < 4) : (strs (U ++ V))[4 + s]? = some (.string (V.getD s ⟨#[]⟩)) := by
  rw [strs_get _ (by rw [List.length_append]; omega)]
  congr 2
  rw [List.getD_eq_getElem?_getD, List.getElem?_append_right (by omega), hU, show 4 + s - 4 = s by omega, List.getD_eq_getElem?_getD]
theorem uv_setl {U V : List ByteArray} (hU : U.length = 4) {s : Nat} (hs : s < 4) (x : ByteArray) : (strs (U ++ V)).setIfInBounds s (.string x) = strs (U.set s x ++ V) := by
  rw [strs_set, List.set_append_left _ _ (by omega)]
theorem uv_setr {U V : List ByteArray} (hU : U.length = 4) {s : Nat} (hs : s < 4) (x : ByteArray) : (strs (U ++ V)).setIfInBounds (4 + s) (.string x) = strs (U ++ V.set s x) := by
  rw [strs_set, List.set_append_right _ _ (by omega), hU, show 4 + s - 4 = s by omega]
/-- the sectors that the first calls name -/
def secsOf (o : OpR) (i : Nat) : List Nat := (List.range i).map fun j => (o.K j 2 % 4).toNat
theorem secsOf_succ (o : OpR) (i : Nat) : secsOf o (i + 1) = secsOf o i ++ [(o.K i 2 % 4).toNat] := by simp [secsOf, List.range_succ]
theorem fLast_isSome (C : List Put) (s : Nat) : (fLast C s).isSome = decide (s ∈ C.map Prod.fst) := by
  induction C using snoc_ind with
  | nil => rfl
  | snoc C p ih =>
    rw [fLast_snoc, List.map_append]
    by_cases h : (p.1 : Int) = (s : Int)
    · have h' : s = p.1 := by omega
      rw [if_pos h]; simp [h']
    · have h' : s ≠ p.1 := by omega
      rw [if_neg h, ih]; simp [h']
end Go.Proofs.Ytekgoliakgknjaa
