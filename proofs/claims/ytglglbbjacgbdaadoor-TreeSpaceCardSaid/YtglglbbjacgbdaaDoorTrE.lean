import Derived.Test.YtglglbbjacgbdaaDoorTrD
import Derived.Test.YtglglbbjacgbdaaDoorShA
namespace Go.Proofs.YtglglbbjacgbdaaDoor
open Go.RowKit
set_option linter.unusedVariables false
attribute [local go_sem] b_max2 b_min2 b_max b_min

/-! ### the names of a path -/
theorem strs_at {w : World} {B : Nat} {A : Option Addr} {l : List ByteArray} {n : Nat} (hr : Reads w B 1 A n (l.map Value.string)) (hn : l.length = n) {i : Nat} (hi : i < n) : ∃ ad, A = some ad ∧ ad.block < B ∧ w.cell? (ad.add i) = some (.string (l.getD i ⟨#[]⟩)) := by
  obtain ⟨ad, e, hb, hc⟩ := hr.2 (by omega)
  exact ⟨ad, e, hb, hc i _ (by rw [List.getElem?_map, List.getD_eq_getElem?_getD, List.getElem?_eq_getElem (by omega)]; rfl)⟩
set_option maxRecDepth 100000 in
theorem notname_any (s : ByteArray) (w : World) (hs : s.size ≤ 1000000) : Calls Tryd.prog 36 #[.string s] w fun e w' => e = .returned (.bool (!nameOK s)) ∧ Below w.heap.size w w' := by
  have hc := name_any s w hs
  generalize nameOK s = b at *
  go_enter Tryd.func36, Tryd.ntmps36
  go_wp2_with fail
  refine hc.mono ?_
  rintro e w1 ⟨rfl, b1⟩
  go_wp2_with fail
  go_ret
  exact ⟨rfl, b1⟩
def allOK (l : List ByteArray) : Bool := l.all nameOK
set_option maxRecDepth 100000 in
set_option maxHeartbeats 1000000 in
theorem index_any (A : Option Addr) (n c : Nat) (l : List ByteArray) (w : World) (hn : l.length = n) (hl : n ≤ 100000) (hsz : ∀ s ∈ l, s.size ≤ 1000000) (hr : Reads w w.heap.size 1 A n (l.map Value.string)) :
    Calls Tryd.prog 56 #[.slice A n c, .func (.func 36) #[] #[]] w fun e w' => ∃ r : Int, e = .returned (.int .i64 r) ∧ decide (0 ≤ r) = (!allOK l) ∧ Below w.heap.size w w' := by
  go_enter Tryd.func56, Tryd.ntmps56
  go_wp2_with fail
  go_loopw [5, 8] (fun _ p wr => ∃ i : Nat, p = .int .i64 i ∧ i ≤ n ∧ Hid (allOK (l.take i) = true) ∧ Below w.heap.size w wr) (fun _ p _ => n - (intOf p).toNat)
  case atStart => exact ⟨0, rfl, by omega, Lib.hid (by simp [allOK]), Below.refl _ _⟩
  case round =>
    obtain ⟨i, rfl, hi, hpre, hb⟩ := hrel
    by_cases hlt : i < n
    · obtain ⟨ad1, rfl, _, q1⟩ := strs_at (hr.below hb) hn hlt
      have e1 : l.take (i + 1) = l.take i ++ [l.getD i ⟨#[]⟩] := by rw [List.take_succ_eq_append_getElem (by omega), List.getD_eq_getElem?_getD, List.getElem?_eq_getElem (by omega)]; rfl
      have hmem : l.getD i ⟨#[]⟩ ∈ l := by rw [List.getD_eq_getElem?_getD, List.getElem?_eq_getElem (by omega)]; exact List.getElem_mem _
      generalize l.getD i ⟨#[]⟩ = x at *
      have hw := notname_any x wr (hsz x hmem)
      cases hx : nameOK x with
      | false =>
        rw [hx] at hw
        have hex : allOK l = false := by unfold allOK; rw [List.all_eq_false]; exact ⟨x, hmem, by rw [hx]; simp⟩
        have HE := Lib.hid hex; clear hex hx hmem e1 hsz
        go_wp2_with fail
        refine hw.mono ?_
        rintro e w1 ⟨rfl, b1⟩
        clear hw
        go_wp2_with fail
        go_ret
        exact ⟨_, rfl, by rw [HE.out]; simp, hb.trans (b1.mono hb.size)⟩
      | true =>
        rw [hx] at hw
        have hnx : allOK (l.take (i + 1)) = true := by
          have := hpre.out
          rw [e1]; unfold allOK at *; rw [List.all_append, this]; simp [hx]
        have HE := Lib.hid hnx; clear hnx hx hmem e1
        go_wp2_with fail
        refine hw.mono ?_
        rintro e w1 ⟨rfl, b1⟩
        clear hw
        go_wp2_with fail
        go_roundw
        case rel => exact ⟨i + 1, vint (by omega), by omega, HE, hb.trans (b1.mono hb.size)⟩
        case measure => simp [intOf]; omega
    · obtain rfl : i = n := by omega
      have hno : allOK l = true := by have := hpre.out; rwa [List.take_of_length_le (by omega)] at this
      have HE := Lib.hid hno; clear hno
      go_wp2_with fail
      go_ret
      exact ⟨_, rfl, by rw [HE.out]; rfl, hb⟩
set_option maxRecDepth 100000 in
theorem find_any (A : Option Addr) (n c : Nat) (l : List ByteArray) (w : World) (hn : l.length = n) (hl : n ≤ 100000) (hsz : ∀ s ∈ l, s.size ≤ 1000000) (hr : Reads w w.heap.size 1 A n (l.map Value.string)) :
    Calls Tryd.prog 35 #[.slice A n c, .func (.func 36) #[] #[]] w fun e w' => ∃ r : Int, e = .returned (.int .i64 r) ∧ decide (0 ≤ r) = (!allOK l) ∧ Below w.heap.size w w' := by
  have hc := index_any A n c l w hn hl hsz hr
  clear hsz hr
  go_enter Tryd.func35, Tryd.ntmps35
  go_wp2_with fail
  refine hc.mono ?_
  rintro e w1 ⟨r, rfl, h, b1⟩
  have H := Lib.hid h; clear h hc
  go_wp2_with fail
  go_ret
  exact ⟨_, rfl, H.out, b1⟩
def slashB : ByteArray := ⟨#[47]⟩
theorem splitB_size_le (sep : ByteArray) : ∀ (k : Nat) (s : ByteArray) (t : ByteArray), t ∈ Lib.splitB sep 0 k s → t.size ≤ s.size
  | 0, s, t, h => by rw [Lib.splitB_zero] at h; rw [List.mem_singleton.1 h]; exact Nat.le_refl _
  | k + 1, s, t, h => by
    unfold Lib.splitB at h
    split at h
    · rw [List.mem_singleton.1 h]; exact Nat.le_refl _
    · rcases List.mem_cons.1 h with h | h
      · rw [h, ByteArray.size_extract]; omega
      · have := splitB_size_le sep k _ t h
        rw [ByteArray.size_extract] at this
        omega
def restB (s : ByteArray) : ByteArray := ⟨(Lib.trimPrefix s.data.toList [47]).toArray⟩
def namesB (s : ByteArray) : List ByteArray := Lib.splitB slashB 0 (Lib.countB (restB s) slashB) (restB s)
/-- a path's names -/
def fSplit (s : ByteArray) : Option (List ByteArray) :=
  if s = slashB then some [] else if Lib.hasPrefix s.data.toList [47] = true ∧ (restB s).size ≤ 248 ∧ (namesB s).length ≤ 8 ∧ allOK (namesB s) = true then some (namesB s) else none
theorem namesB_len (s : ByteArray) : (namesB s).length = Lib.countB (restB s) slashB + 1 := Lib.splitB_all slashB (by decide) 0 _ _ rfl
/-- a row of names as a value -/
def NmV (w : World) (v : Value) (l : List ByteArray) : Prop := ∃ A n c, v = .slice A n c ∧ l.length = n ∧ n ≤ c ∧ Reads w w.heap.size 1 A n (l.map Value.string)
theorem NmV.nil (w : World) : NmV w (.slice none 0 0) [] := ⟨none, 0, 0, rfl, rfl, Nat.le_refl _, by simpa using Reads.none_⟩
theorem NmV.low {w w' : World} {v : Value} {l : List ByteArray} (h : NmV w v l) (hb : Below w.heap.size w w') : NmV w' v l := by
  obtain ⟨A, n, c, h1, h2, h3, h4⟩ := h
  exact ⟨A, n, c, h1, h2, h3, (h4.below hb).more hb.size⟩
/-- a slice that was made since -/
def NewV (B : Nat) (v : Value) : Prop := ∀ ad n c, v = .slice (some ad) n c → B ≤ ad.block
theorem NewV.nil (B : Nat) : NewV B (.slice none 0 0) := fun _ _ _ h => by cases h
theorem NmV.fr {F : Nat → Prop} {w w' : World} {v : Value} {l : List ByteArray} (h : NmV w v l) (hf : Fr F w w') (hn : ∀ ad n c, v = .slice (some ad) n c → ¬ F ad.block) : NmV w' v l := by
  obtain ⟨A, n, c, h1, h2, h3, h4, h5⟩ := h
  refine ⟨A, n, c, h1, h2, h3, h4, fun h0 => ?_⟩
  obtain ⟨ad, e, hb, hc⟩ := h5 h0
  refine ⟨ad, e, Nat.lt_of_lt_of_le hb hf.size, fun j u hu => ?_⟩
  rw [← hc j u hu]
  refine World.cell?_of_block (hf.block _ ?_ ?_)
  · rw [block_of_add]; exact hb
  · rw [block_of_add]; exact hn ad n c (by rw [h1, e])
set_option maxRecDepth 100000 in
set_option maxHeartbeats 1000000 in
theorem split_any (s : ByteArray) (m : Int) (w : World) (hm : w.cell? ⟨0, 0, none⟩ = some (.int .i64 m)) :
    Calls Tryd.prog 21 #[.string s] w fun e w' => ∃ v, e = .returned (.tuple #[v, .bool (fSplit s).isSome]) ∧ NmV w' v ((fSplit s).getD []) ∧ NewV w.heap.size v ∧ Below w.heap.size w w' := by
  by_cases h1 : s = slashB
  · have hf : fSplit s = some [] := if_pos h1
    rw [hf]
    subst h1
    clear hf
    unfold slashB
    go_enter Tryd.func21, Tryd.ntmps21
    go_wp2_with fail
    go_ret2
    exact ⟨_, rfl, NmV.nil _, NewV.nil _, Below.refl _ _⟩
  · have d1 : (s.toList == [47]) = false := by have := bne_list h1; rwa [show slashB.toList = [47] by rw [ByteArray.toList_eq]; rfl] at this
    have cp := strings_CutPrefix s ⟨#[47]⟩ w
    change Calls Tryd.prog 33 #[.string s, .string ⟨#[47]⟩] w (fun e w' => e = .returned (.tuple #[.string (restB s), .bool (Lib.hasPrefix s.data.toList [47])]) ∧ w' = w) at cp
    have hfs : fSplit s = if Lib.hasPrefix s.data.toList [47] = true ∧ (restB s).size ≤ 248 ∧ (namesB s).length ≤ 8 ∧ allOK (namesB s) = true then some (namesB s) else none := if_neg h1
    cases hp : Lib.hasPrefix s.data.toList [47] with
    | false =>
      rw [hp] at cp
      have hf : fSplit s = none := by rw [hfs, hp]; rfl
      rw [hf]
      generalize restB s = r at *
      clear hf hfs h1 hp
      go_enter Tryd.func21, Tryd.ntmps21
      go_wp2_with fail
      refine cp.mono ?_
      rintro e w1 ⟨rfl, rfl⟩
      go_wp2_with fail
      go_ret2
      exact ⟨_, rfl, NmV.nil _, NewV.nil _, Below.refl _ _⟩
    | true =>
      rw [hp] at cp
      by_cases h2 : 248 < (restB s).size
      · have hf : fSplit s = none := by rw [hfs, if_neg (by rintro ⟨_, h, _⟩; omega)]
        rw [hf]
        have d2 : decide ((248 : Int) < ((restB s).size : Int)) = true := by rw [decide_eq_true_eq]; omega
        generalize restB s = r at *
        clear hf hfs h1 hp
        go_enter Tryd.func21, Tryd.ntmps21
        go_wp2_with fail
        refine cp.mono ?_
        rintro e w1 ⟨rfl, rfl⟩
        go_wp2_with fail
        go_ret2
        exact ⟨_, rfl, NmV.nil _, NewV.nil _, Below.refl _ _⟩
      · have d2 : decide ((248 : Int) < ((restB s).size : Int)) = false := by rw [decide_eq_false_iff_not]; omega
        have hlen := namesB_len s
        have hszn : ∀ t ∈ namesB s, t.size ≤ 1000000 := fun t ht => by have := splitB_size_le _ _ _ t ht; omega
        have csp := strings_Split (restB s) ⟨#[47]⟩ m w (by omega) hm (by decide)
        change Calls Tryd.prog 34 #[.string (restB s), .string ⟨#[47]⟩] w (fun e w' => e = .returned (.slice (some ⟨w.heap.size, 0, none⟩) (Lib.countB (restB s) slashB + 1) (Lib.countB (restB s) slashB + 1)) ∧ w' = w.alloc (.cells ((namesB s).map Value.string).toArray 9)) at csp
        rw [← hlen] at csp
        have hr := Reads.new (size := 1) w ((namesB s).map Value.string).toArray 9 (namesB s).length (by simp) rfl
        rw [List.toList_toArray] at hr
        have hb : Below w.heap.size w (w.alloc (.cells ((namesB s).map Value.string).toArray 9)) := (Below.refl _ w).alloc (Nat.le_refl _) _
        generalize restB s = r at *
        generalize namesB s = l at *
        have hsz1 : (w.alloc (.cells (l.map Value.string).toArray 9)).heap.size = w.heap.size + 1 := by simp
        by_cases h3 : 8 < l.length
        · have hf : fSplit s = none := by rw [hfs, if_neg (by rintro ⟨_, _, h, _⟩; omega)]
          rw [hf]
          have d3 : decide ((8 : Int) < (l.length : Int)) = true := by rw [decide_eq_true_eq]; omega
          generalize hn : l.length = n at *
          generalize w.alloc (.cells (l.map Value.string).toArray 9) = w2 at *
          clear hf hfs h1 hp hr hszn hlen
          go_enter Tryd.func21, Tryd.ntmps21
          go_wp2_with fail
          refine cp.mono ?_
          rintro e w1 ⟨rfl, rfl⟩
          clear cp
          go_wp2_with fail
          refine csp.mono ?_
          rintro e w1 ⟨rfl, rfl⟩
          go_wp2_with fail
          go_ret2
          exact ⟨_, rfl, NmV.nil _, NewV.nil _, hb⟩
        · have d3 : decide ((8 : Int) < (l.length : Int)) = false := by rw [decide_eq_false_iff_not]; omega
          generalize hn : l.length = n at *
          generalize w.alloc (.cells (l.map Value.string).toArray 9) = w2 at *
          have hr2 : Reads w2 w2.heap.size 1 (some ⟨w.heap.size, 0, none⟩) n (l.map Value.string) := by rw [hsz1]; exact hr
          have hfi := find_any (some ⟨w.heap.size, 0, none⟩) n n l w2 hn (by omega) hszn hr2
          have hNm : NmV w2 (.slice (some ⟨w.heap.size, 0, none⟩) n n) l := ⟨_, n, n, rfl, hn, Nat.le_refl _, hr2⟩
          have hfs2 : fSplit s = if allOK l = true then some l else none := by
            rw [hfs]
            by_cases ho : allOK l = true
            · rw [if_pos ⟨hp, by omega, by omega, ho⟩, if_pos ho]
            · rw [if_neg (by rintro ⟨_, _, _, h⟩; exact ho h), if_neg ho]
          generalize fSplit s = fs at *
          clear hfs h1 hp hr hr2 hszn hlen
          cases ho : allOK l with
          | true =>
            rw [ho] at hfi hfs2
            have hf : fs = some l := hfs2
            subst hf
            have HNm := Lib.hid hNm
            clear hNm ho hfs2
            go_enter Tryd.func21, Tryd.ntmps21
            go_wp2_with fail
            refine cp.mono ?_
            rintro e w1 ⟨rfl, rfl⟩
            clear cp
            go_wp2_with fail
            refine csp.mono ?_
            rintro e w1 ⟨rfl, rfl⟩
            clear csp
            go_wp2_with fail
            refine hfi.mono ?_
            rintro e w3 ⟨q, rfl, hq, b3⟩
            have hq2 : decide (0 ≤ q) = false := hq
            clear hfi hq
            go_wp2_with fail
            go_ret2
            exact ⟨_, rfl, HNm.out.low b3, fun _ _ _ h => by cases h; exact Nat.le_refl _, hb.trans (b3.mono hb.size)⟩
          | false =>
            rw [ho] at hfi hfs2
            have hf : fs = none := hfs2
            subst hf
            clear hNm ho hfs2
            go_enter Tryd.func21, Tryd.ntmps21
            go_wp2_with fail
            refine cp.mono ?_
            rintro e w1 ⟨rfl, rfl⟩
            clear cp
            go_wp2_with fail
            refine csp.mono ?_
            rintro e w1 ⟨rfl, rfl⟩
            clear csp
            go_wp2_with fail
            refine hfi.mono ?_
            rintro e w3 ⟨q, rfl, hq, b3⟩
            have hq2 : decide (0 ≤ q) = true := hq
            clear hfi hq
            go_wp2_with fail
            go_ret2
            exact ⟨_, rfl, NmV.nil _, NewV.nil _, hb.trans (b3.mono hb.size)⟩
end Go.Proofs.YtglglbbjacgbdaaDoor
