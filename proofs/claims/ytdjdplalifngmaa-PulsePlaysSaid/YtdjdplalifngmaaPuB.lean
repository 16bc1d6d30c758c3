import Derived.Test.YtdjdplalifngmaaPuA
import Derived.RegionTactic
import Derived.ChangeAlike
import Derived.Deep.Onto
namespace Go.Proofs.Ytdjdplalifngmaa
open Go.RowKit
set_option linter.unusedVariables false
attribute [local go_sem] b_max2 b_min2 b_max b_min

def tk (m : Int) (i : Nat) (s : List (Bool × Int)) : List (Bool × Int) := (s.take i).map (tick1 m) ++ s.drop i
theorem tk_zero (m : Int) (s : List (Bool × Int)) : tk m 0 s = s := by simp [tk]
theorem tk_all (m : Int) (s : List (Bool × Int)) (h : s.length = 8) : tk m 8 s = fTick m s := by
  rw [tk, ← h, List.take_length, List.drop_length, List.append_nil]; rfl
theorem tk_length (m : Int) (i : Nat) (s : List (Bool × Int)) (h : i ≤ s.length) : (tk m i s).length = s.length := by simp [tk]; omega
theorem tk_get (m : Int) (i : Nat) (s : List (Bool × Int)) (h : i < s.length) (h' : i < (tk m i s).length) : (tk m i s)[i] = s[i] := by
  simp only [tk]
  rw [List.getElem_append_right (by simp; omega)]
  simp; congr 1; omega
theorem tk_succ (m : Int) (i : Nat) (s : List (Bool × Int)) (h : i < s.length) : tk m (i + 1) s = (tk m i s).set i (tick1 m s[i]) := by
  apply List.ext_getElem?
  intro j
  simp only [tk]
  rw [List.getElem?_set]
  by_cases e : i = j
  · subst e
    rw [if_pos rfl, if_pos (by simp; omega), List.getElem?_append_left (by simp; omega)]
    simp [h]
  · rw [if_neg e]
    by_cases hj : j < i
    · rw [List.getElem?_append_left (by simp; omega), List.getElem?_append_left (by simp; omega)]
      simp [hj, show j < i + 1 by omega]
    · rw [List.getElem?_append_right (by simp; omega), List.getElem?_append_right (by simp; omega)]
      simp only [List.length_map, List.length_take, List.getElem?_drop]
      congr 1; omega

set_option maxRecDepth 100000 in
theorem tick_any {w : World} {g : Nat} {m : Int} {s : List (Bool × Int)} (h : IsP w g m s) :
    Calls Try.prog 11 #[.pointer (some ⟨g, 0, none⟩)] w fun e w' => e = .returned (.tuple #[]) ∧ IsP w' g m (fTick m s) ∧ w.grownBy w' (some g) := by
  go_enter Try.func11, Try.ntmps11
  go_wp2_with fail
  go_loopw [2, 3, 4] (fun _ _ p wr => ∃ i : Nat, p = .int .i64 i ∧ i ≤ 8 ∧ IsP wr g m (tk m i s) ∧ w.grownBy wr (some g)) (fun _ _ p _ => 8 - (intOf p).toNat)
  case atStart => exact ⟨0, rfl, by omega, by rw [tk_zero]; exact h, grownBy_refl _ _⟩
  case round =>
    obtain ⟨i, rfl, hi, hp, hg⟩ := hrel
    by_cases hlt : i < 8
    · have hl : i < s.length := by rw [h.len]; exact hlt
      have hl' : i < (tk m i s).length := by rw [hp.len]; exact hlt
      have hget := tk_get m i s hl hl'
      have hsucc := tk_succ m i s hl
      obtain ⟨c1, c2⟩ := hp.cell i hl'
      rw [hget] at c1 c2
      have cm := hp.cm
      have hq := hp.q0 _ (List.getElem_mem hl')
      rw [hget] at hq
      obtain ⟨hq0, hq1⟩ := hq
      have m0 := hp.m0
      have m1 := hp.m1
      have f1 := hp.blk.frozen (1 + i * 2 + 1)
      have HG := Lib.hid hget; have HS := Lib.hid hsucc; clear hget hsucc
      cases hb : (s[i]).1
      · have c := seen_in g i wr hlt false (by rw [c1, hb])
        have HB := Lib.hid hb; clear hb c1 c2
        go_wp2_with fail
        refine c.mono ?_
        rintro e w1 ⟨rfl, rfl⟩
        go_wp2_with fail
        go_roundw
        case rel =>
          refine ⟨i + 1, vint (by omega), by omega, ?_, hg⟩
          rw [HS.out]
          have : tick1 m s[i] = (tk m i s)[i] := by rw [HG.out, tick1, HB.out]; simp
          rw [this, List.set_getElem_self]
          exact hp
        case measure => simp [intOf]; omega
      · have c := seen_in g i wr hlt true (by rw [c1, hb])
        have HB := Lib.hid hb; clear hb c1
        go_wp2_with fail
        refine c.mono ?_
        rintro e w1 ⟨rfl, rfl⟩
        go_wp2_with fail
        go_region
        all_goals go_wp2_with fail
        go_roundw
        case rel =>
          have hst := hp.set1 i hl' (min (s[i]).2 m + 1) (by omega)
          refine ⟨i + 1, vint (by omega), by omega, ?_, ?_⟩
          · rw [HS.out]
            have e : tick1 m s[i] = ((tk m i s)[i].1, min (s[i]).2 m + 1) := by rw [HG.out, tick1, HB.out]; simp [show min ((s[i]).2 + 1) (m + 1) = min (s[i]).2 m + 1 by omega]
            rw [e]
            exact hst.drewN 1
          · exact grownBy_trans (grownBy_trans hg (grownBy_setCell _ _ _ _)) (grownBy_drewN _ 1 _)
        case measure => simp [intOf]; omega
    · go_wp2
      go_end0
      have : i = 8 := by omega
      subst this
      rw [tk_all m s h.len] at hp
      exact ⟨rfl, hp, hg⟩

theorem int_info : (Try.prog.info? 3).map (fun i => (i.zero, i.size, i.bytes)) = some (some (.int .i64 0), 1, 8) := by kernel_rfl

/-- the nodes that are so, of the first k -/
def those (f : Bool × Int → Bool) (s : List (Bool × Int)) (k : Nat) : List Nat := (List.range k).filter fun i => (s.getD i (false, 0)).1 && f (s.getD i (false, 0))
def cellsI (l : List Nat) : List Value := l.map fun i => .int .i64 (i : Nat)
theorem those_succ (f : Bool × Int → Bool) (s : List (Bool × Int)) (k : Nat) (h : k < s.length) : those f s (k + 1) = those f s k ++ if (s[k]).1 && f s[k] then [k] else [] := by
  unfold those
  rw [List.range_succ, List.filter_append]
  congr 1
  have e : s.getD k (false, 0) = s[k] := by simp [List.getD_eq_getElem?_getD, h]
  rw [List.filter_cons, e]
  simp
theorem those_len (f : Bool × Int → Bool) (s : List (Bool × Int)) (k : Nat) : (those f s k).length ≤ k := by
  unfold those
  exact Nat.le_trans (List.length_filter_le _ _) (by simp)
def isLate (m : Int) (o : Bool × Int) : Bool := decide (m < o.2)
def fLate (m : Int) (s : List (Bool × Int)) : List Nat := those (isLate m) s 8
def fWatched (s : List (Bool × Int)) : List Nat := those (fun _ => true) s 8

theorem late1_any {w : World} {g b : Nat} {m q : Int} {p : Addr} (hb : w.cell? ⟨b, 0, none⟩ = some (.pointer (some ⟨g, 0, none⟩))) (hm : w.cell? ⟨g, 0, none⟩ = some (.int .i64 m)) (k : Nat)
    (hq : w.cell? ⟨g, 1 + k * 2 + 1, none⟩ = some (.int .i64 q)) :
    Calls Try.prog 26 #[.pointer (some ⟨g, 1 + k * 2, none⟩), .pointer (some ⟨b, 0, none⟩)] w fun e w' => e = .returned (.bool (decide (m < q))) ∧ ∃ n, w' = w.drewN n := by
  go_enter Try.func26, Try.ntmps26
  go_wp2_with fail
  go_quiet (fail)
  go_wp2_with fail
  go_ret
  exact ⟨rfl, _, rfl⟩
theorem watched1_any {w : World} (p : Option Addr) : Calls Try.prog 28 #[.pointer p] w fun e w' => e = .returned (.bool true) ∧ w = w' := by
  go_enter Try.func28, Try.ntmps28
  go_wp2_with fail
  go_ret
  exact ⟨rfl, rfl⟩

set_option maxRecDepth 100000 in
theorem those_any {w : World} {g : Nat} {m : Int} {s : List (Bool × Int)} (h : IsP w g m s) (f : Bool × Int → Bool) (fn : FuncId) (cap : Array Value) (hcall : ∀ (args : Array Value) (wr : World), (callFunc fn args).run Try.prog wr = .ok (.enter fn args) wr)
    (hf : ∀ (wr : World) (k : Nat) (hk : k < s.length), Below w.heap.size w wr → Calls Try.prog fn (#[.pointer (some ⟨g, 1 + k * 2, none⟩)] ++ cap) wr fun e w' => e = .returned (.bool (f s[k])) ∧ ∃ n, w' = wr.drewN n) :
    Calls Try.prog 25 #[.pointer (some ⟨g, 0, none⟩), .func (.func fn) #[] cap] w fun e w' => ∃ v, e = .returned v ∧ w'.ownsRow w.heap.size 3 1 v (those f s 8).length (cellsI (those f s 8)) ∧ Below w.heap.size w w' := by
  obtain ⟨i0, hi, hz0, hz1, hz2⟩ := info_parts int_info
  have hgl := h.blk.lt
  go_enter Try.func25, Try.ntmps25
  go_wp2_with fail
  go_loopw [5, 6, 7, 8] (fun v _ _ p wr => ∃ i : Nat, p = .int .i64 i ∧ i ≤ 8 ∧ wr.ownsRow w.heap.size 3 1 v (those f s i).length (cellsI (those f s i)) ∧ Below w.heap.size w wr) (fun _ _ _ p _ => 8 - (intOf p).toNat)
  case atStart => exact ⟨0, rfl, by omega, by simpa [those, cellsI] using World.ownsRow_nil _ _ _ _, Below.refl _ _⟩
  case round =>
    obtain ⟨i, rfl, hi8, hown, hb⟩ := hrel
    by_cases hlt : i < 8
    · have hl : i < s.length := by rw [h.len]; exact hlt
      have hp := h.below hb hgl
      have hsucc := those_succ f s i hl
      have hlen := those_len f s i
      have c1 := (hp.cell i hl).1
      have hsz := hb.size
      cases hbb : (s[i]).1
      · have c := seen_in g i wr hlt false (by rw [c1, hbb])
        rw [hbb, Bool.false_and, if_neg (by simp), List.append_nil] at hsucc
        have HS := Lib.hid hsucc; clear hsucc hbb c1
        go_wp2_with fail
        refine c.mono ?_
        rintro e w1 ⟨rfl, rfl⟩
        go_wp2_with fail
        go_roundw
        case rel => exact ⟨i + 1, vint (by omega), by omega, by rw [HS.out]; exact hown, hb⟩
        case measure => simp [intOf]; omega
      · have c := seen_in g i wr hlt true (by rw [c1, hbb])
        have cc := hf wr i hl hb
        rw [hbb, Bool.true_and] at hsucc
        cases hff : f s[i]
        · rw [hff] at cc hsucc
          rw [if_neg (by simp), List.append_nil] at hsucc
          have HS := Lib.hid hsucc; clear hsucc hbb c1 hff
          go_wp2_with fail
          refine c.mono ?_
          rintro e w1 ⟨rfl, rfl⟩
          go_wp2_with fail
          refine cc.mono ?_
          rintro e w1 ⟨rfl, nq, rfl⟩
          go_wp2_with fail
          go_roundw
          case rel => exact ⟨i + 1, vint (by omega), by omega, by rw [HS.out]; exact hown, bdrewN hb nq⟩
          case measure => simp [intOf]; omega
        · rw [hff] at cc hsucc
          rw [if_pos rfl] at hsucc
          have HS := Lib.hid hsucc; clear hsucc hbb c1 hff
          go_wp2_with fail
          refine c.mono ?_
          rintro e w1 ⟨rfl, rfl⟩
          go_wp2_with fail
          refine cc.mono ?_
          rintro e w1 ⟨rfl, nq, rfl⟩
          have hown1 : (wr.drewN nq).ownsRow w.heap.size 3 1 u5 (those f s i).length (cellsI (those f s i)) := hown
          go_wp2_with (at_builtin; refine wpList_append_own _ rfl (.tmp 21) (.tmp 23) 22 rfl w.heap.size 3 i0 _ 1 8 Try.underlying22 hi hz0 hz1 hz2 rfl (by decide) _ _ _ rfl (hown.alloc _) ⟨wr.heap.size, 0, none⟩ 1 1 [.int .i64 i] rfl rfl ?c1 ?c2 ?c3 ?c4 ?c5 ?_)
          case c1 => exact new_cells _ _ _ _ rfl
          case c2 => simp [Value.oneCell']
          case c3 => simp only [maxLen]; omega
          case c4 => omega
          case c5 => simp only [sz_alloc]; exact Nat.le_succ_of_le hsz
          intro v' w1 hown2 hgrow _
          have hb1 : Below w.heap.size w w1 := ((bdrewN hb nq).alloc hsz _).grown hgrow (by simp only [sz_alloc]; exact Nat.le_succ_of_le hsz) (fun k hk => (hown.lt k hk).1)
          go_wp2_with fail
          go_roundw
          case rel => exact ⟨i + 1, vint (by omega), by omega, by rw [HS.out, List.length_append]; simpa [cellsI] using hown2, hb1⟩
          case measure => simp [intOf]; omega
    · go_wp2
      go_ret
      have : i = 8 := by omega
      subst this
      exact ⟨_, rfl, hown, hb⟩

theorem watched_any {w : World} {g : Nat} {m : Int} {s : List (Bool × Int)} (h : IsP w g m s) :
    Calls Try.prog 21 #[.pointer (some ⟨g, 0, none⟩)] w fun e w' => ∃ v, e = .returned v ∧ w'.ownsRow w.heap.size 3 1 v (fWatched s).length (cellsI (fWatched s)) ∧ Below w.heap.size w w' := by
  go_enter Try.func21, Try.ntmps21
  go_wp2_with fail
  refine (those_any h (fun _ => true) 28 #[] (callFunc_enter Try.func28 (by kernel_rfl) rfl) ?_).mono ?_
  · intro wr k hk _
    exact (watched1_any _).mono fun e w' ⟨h1, h2⟩ => ⟨h1, 0, h2.symm⟩
  · rintro e w1 ⟨v, rfl, h1, h2⟩
    go_wp2_with fail
    go_ret
    exact ⟨v, rfl, h1, h2⟩

theorem late_any {w : World} {g : Nat} {m : Int} {s : List (Bool × Int)} (h : IsP w g m s) :
    Calls Try.prog 12 #[.pointer (some ⟨g, 0, none⟩)] w fun e w' => ∃ v, e = .returned v ∧ w'.ownsRow w.heap.size 3 1 v (fLate m s).length (cellsI (fLate m s)) ∧ Below w.heap.size w w' := by
  have hgl := h.blk.lt
  go_enter Try.func12, Try.ntmps12
  go_wp2_with fail
  refine (those_any (h.alloc _) (isLate m) 26 _ (callFunc_enter Try.func26 (by kernel_rfl) rfl) ?_).mono ?_
  · intro wr k hk hb
    have hp := (h.alloc (.cells #[.pointer (some ⟨g, 0, none⟩)] 24)).below hb (by simp only [sz_alloc]; omega)
    have hc : wr.cell? ⟨w.heap.size, 0, none⟩ = some (.pointer (some ⟨g, 0, none⟩)) := ((Blk.new w 24 #[.pointer (some ⟨g, 0, none⟩)]).below hb (by simp only [sz_alloc]; omega)).cell 0
    exact late1_any (p := ⟨0, 0, none⟩) hc hp.cm k (hp.cell k hk).2
  · rintro e w1 ⟨v, rfl, h1, h2⟩
    go_wp2_with fail
    go_ret
    exact ⟨v, rfl, World.ownsRow.mono h1 (by simp), ((Below.refl _ _).alloc (Nat.le_refl _) _).trans (h2.mono (by simp))⟩
end Go.Proofs.Ytdjdplalifngmaa
