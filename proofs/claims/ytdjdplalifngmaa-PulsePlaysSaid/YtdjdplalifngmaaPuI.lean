import Derived.Test.YtdjdplalifngmaaPuH
namespace Go.Proofs.Ytdjdplalifngmaa
open Go.RowKit
set_option linter.unusedVariables false
attribute [local go_sem] b_max2 b_min2 b_max b_min

def neg8 : List Int := List.replicate 8 (-1)
set_option maxRecDepth 100000 in
theorem rnew_any (n : Int) (w : World) (h0 : -9223372036854775808 ≤ n) (h1 : n ≤ 9223372036854775807) :
    Calls Try.prog 16 #[.int .i64 n] w fun e w' => e = .returned (.pointer (some ⟨w.heap.size, 0, none⟩)) ∧ IsR w' w.heap.size (min (max n 1) 1000) 0 neg8 ∧ Below w.heap.size w w' := by
  go_enter Try.func16, Try.ntmps16
  go_upto_if 6 with (fail)
  go_cut [0] (fun s w' => s = .int .i64 (max n 1) ∧ w = w')
  case first =>
    go_wp2_with fail
    all_goals go_meet
    all_goals exact ⟨vint (by omega), rfl⟩
  case rest =>
  obtain ⟨rfl, rfl⟩ := hcut
  go_upto_if 8 with (fail)
  go_cut [0] (fun s w' => s = .int .i64 (min (max n 1) 1000) ∧ w = w')
  case first =>
    go_wp2_with fail
    all_goals go_meet
    all_goals exact ⟨vint (by omega), rfl⟩
  case rest =>
  obtain ⟨rfl, rfl⟩ := hcut
  go_wp2_with fail
  go_loopw [4] (fun p wr => ∃ (i : Nat) (a : List Int), p = .int .i64 i ∧ i ≤ 8 ∧ a = List.replicate i (-1) ++ List.replicate (8 - i) 0 ∧ IsR wr w.heap.size (min (max n 1) 1000) 0 a ∧ Below w.heap.size w wr) (fun p _ => 8 - (intOf p).toNat)
  case atStart =>
    refine ⟨0, _, rfl, by omega, rfl, ⟨rfl, Blk.new _ _ _, by omega, by omega, by omega, by omega, ?_⟩, (Below.refl _ _).alloc (Nat.le_refl _) _⟩
    intro o ho
    obtain rfl : o = 0 := by simpa using ho
    omega
  case round =>
    obtain ⟨i, a, rfl, hi, ha, hr, hb⟩ := hrel
    by_cases hlt : i < 8
    · have hl : i < a.length := by rw [hr.len]; exact hlt
      have f1 := hr.blk.frozen (2 + i)
      have hc := hr.cell i hl
      have hs := hr.set i (-1) (by omega)
      have e2 : a.set i (-1) = List.replicate (i + 1) (-1) ++ List.replicate (8 - (i + 1)) 0 := by
        rw [ha]
        apply List.ext_getElem?
        intro j
        rw [List.getElem?_set]
        by_cases e : i = j
        · subst e
          rw [if_pos rfl, if_pos (by simp; omega), List.getElem?_append_left (by simp), List.getElem?_replicate, if_pos (by omega)]
        · rw [if_neg e]
          simp only [List.getElem?_append, List.length_replicate, List.getElem?_replicate]
          by_cases h1 : j < i
          · simp [h1, show j < i + 1 by omega]
          · simp only [h1, if_false, show ¬ j < i + 1 by omega]
            congr 1
            simp; omega
      have E2 := Lib.hid e2; have HA := Lib.hid ha; clear e2 ha
      have HS := Lib.hid hs; clear hs
      go_wp2_with fail
      go_roundw
      case rel => exact ⟨i + 1, _, vint (by omega), by omega, E2.out, HS.out, hb.setCell (Nat.le_refl _) _⟩
      case measure => simp [intOf]; omega
    · go_wp2_with fail
      go_ret
      obtain rfl : i = 8 := by omega
      have : a = neg8 := by rw [ha]; rfl
      rw [this] at hr
      exact ⟨rfl, hr, hb⟩

/-- the nodes that the document's pulse tells -/
def rThose (late : Bool) (a : List Int) (L T : Int) (k : Nat) : List Nat := (List.range k).filter fun i => decide (0 ≤ rQuiet a L T (i : Nat)) && (!late || rQuiet a L T (i : Nat) == L)
theorem rThose_succ (late : Bool) (a : List Int) (L T : Int) (k : Nat) : rThose late a L T (k + 1) = rThose late a L T k ++ if decide (0 ≤ rQuiet a L T (k : Nat)) && (!late || rQuiet a L T (k : Nat) == L) then [k] else [] := by
  unfold rThose
  rw [List.range_succ, List.filter_append]
  congr 1
  rw [List.filter_cons]
  simp
theorem rThose_len (late : Bool) (a : List Int) (L T : Int) (k : Nat) : (rThose late a L T k).length ≤ k := by
  unfold rThose
  exact Nat.le_trans (List.length_filter_le _ _) (by simp)

set_option maxRecDepth 100000 in
set_option maxHeartbeats 400000 in
theorem rthose_any {w : World} {g : Nat} {L T : Int} {a : List Int} (h : IsR w g L T a) (late : Bool) :
    Calls Try.prog 20 #[.pointer (some ⟨g, 0, none⟩), .bool late] w fun e w' => ∃ v, e = .returned v ∧ w'.ownsRow w.heap.size 3 1 v (rThose late a L T 8).length (cellsI (rThose late a L T 8)) ∧ Below w.heap.size w w' := by
  obtain ⟨i0, hi, hz0, hz1, hz2⟩ := info_parts int_info
  have hgl := h.blk.lt
  go_enter Try.func20, Try.ntmps20
  go_wp2_with fail
  go_loopw [5, 6, 7] (fun v p _ wr => ∃ i : Nat, p = .int .i64 i ∧ i ≤ 8 ∧ wr.ownsRow w.heap.size 3 1 v (rThose late a L T i).length (cellsI (rThose late a L T i)) ∧ Below w.heap.size w wr) (fun _ p _ _ => 8 - (intOf p).toNat)
  case atStart => exact ⟨0, rfl, by omega, by simpa [rThose, cellsI] using World.ownsRow_nil _ _ _ _, Below.refl _ _⟩
  case round =>
    obtain ⟨i, rfl, hi8, hown, hb⟩ := hrel
    by_cases hlt : i < 8
    · have hp := h.below hb hgl
      have hsucc := rThose_succ late a L T i
      have hlen := rThose_len late a L T i
      have hsz := hb.size
      have c := rquiet_any hp i
      have hcl := hp.cl
      generalize hq : rQuiet a L T (i : Nat) = q at *
      have HQ := Lib.hid hq; clear hq
      by_cases h1 : 0 ≤ q
      · have d1 : decide (0 ≤ q) = true := by simpa using h1
        rw [d1, Bool.true_and] at hsucc
        by_cases h2 : (!late || q == L) = true
        · rw [h2, if_pos rfl] at hsucc
          have HS := Lib.hid hsucc; clear hsucc
          have hown0 : ∀ m, (wr.drewN m).ownsRow w.heap.size 3 1 u5 (rThose late a L T i).length (cellsI (rThose late a L T i)) := fun _ => hown
          cases late
          all_goals try (have h3 : (q == L) = true := by simpa using h2)
          all_goals
            clear h2
            go_wp2_with fail
            refine c.mono ?_
            rintro e w1 ⟨rfl, nq, rfl⟩
            go_wp2_with (at_builtin; refine wpList_append_own _ rfl (.tmp 29) (.tmp 31) 22 rfl w.heap.size 3 i0 _ 1 8 Try.underlying22 hi hz0 hz1 hz2 rfl (by decide) _ _ _ rfl (hown.alloc _) ⟨wr.heap.size, 0, none⟩ 1 1 [.int .i64 i] rfl rfl (new_cells _ _ _ _ rfl) (by simp [Value.oneCell']) (by simp only [maxLen]; omega) (by omega) (by simp only [sz_alloc]; exact Nat.le_succ_of_le hsz) ?_)
            intro v' w1 hown2 hgrow _
            have hb1 : Below w.heap.size w w1 := ((bdrewN hb nq).alloc hsz _).grown hgrow (by simp only [sz_alloc]; exact Nat.le_succ_of_le hsz) (fun k hk => (hown.lt k hk).1)
            go_wp2_with fail
            go_roundw
            case rel => exact ⟨i + 1, vint (by omega), by omega, by rw [HS.out, List.length_append]; simpa [cellsI] using hown2, hb1⟩
            case measure => simp [intOf]; omega
        · have h2' : (!late || q == L) = false := by simpa using h2
          rw [h2', if_neg (by simp), List.append_nil] at hsucc
          have HS := Lib.hid hsucc; clear hsucc
          obtain ⟨rfl, h3⟩ : late = true ∧ (q == L) = false := by simpa using h2'
          clear h2 h2'
          go_wp2_with fail
          refine c.mono ?_
          rintro e w1 ⟨rfl, nq, rfl⟩
          go_wp2_with fail
          go_roundw
          case rel => exact ⟨i + 1, vint (by omega), by omega, by rw [HS.out]; exact hown, bdrewN hb nq⟩
          case measure => simp [intOf]; omega
      · have d1 : decide (0 ≤ q) = false := by simpa using h1
        rw [d1, Bool.false_and, if_neg (by simp), List.append_nil] at hsucc
        have HS := Lib.hid hsucc; clear hsucc
        go_wp2_with fail
        refine c.mono ?_
        rintro e w1 ⟨rfl, nq, rfl⟩
        go_wp2_with fail
        go_roundw
        case rel => exact ⟨i + 1, vint (by omega), by omega, by rw [HS.out]; exact hown, bdrewN hb nq⟩
        case measure => simp [intOf]; omega
    · go_wp2_with fail
      go_ret
      obtain rfl : i = 8 := by omega
      exact ⟨_, rfl, hown, hb⟩

theorem cellsI_get (l : List Nat) (k : Nat) (hk : k < l.length) : (cellsI l)[k]? = some (.int .i64 (l[k] : Nat)) := by simp [cellsI, hk]
set_option maxRecDepth 100000 in
theorem same_any {w : World} {B B' : Nat} {A A' : Option Addr} {n c c' : Nat} {l : List Nat} (hn : l.length = n) (hn2 : n ≤ 1000) (h : Reads w B 1 A n (cellsI l)) (h' : Reads w B' 1 A' n (cellsI l)) :
    Calls Try.prog 19 #[.slice A n c, .slice A' n c'] w fun e w' => e = .returned (.bool true) ∧ ∃ m, w' = w.drewN m := by
  go_enter Try.func19, Try.ntmps19
  go_wp2_with fail
  go_loopw [5] (fun p wr => ∃ i : Nat, p = .int .i64 i ∧ i ≤ n ∧ ∃ m, wr = w.drewN m) (fun p _ => n - (intOf p).toNat)
  case atStart => exact ⟨0, rfl, by omega, 0, rfl⟩
  case round =>
    obtain ⟨i, rfl, hi8, m, rfl⟩ := hrel
    by_cases hlt : i < n
    · obtain ⟨ad, e, _, hc⟩ := h.2 (by omega)
      obtain ⟨ad', e', _, hc'⟩ := h'.2 (by omega)
      subst e; subst e'
      have x := hc i _ (cellsI_get l i (by omega))
      have x' := hc' i _ (cellsI_get l i (by omega))
      clear hc hc'
      go_wp2_with fail
      go_quiet (fail)
      go_wp2_with fail
      go_roundw
      case rel => exact ⟨i + 1, vint (by omega), by omega, _, rfl⟩
      case measure => simp [intOf]; omega
    · go_wp2_with fail
      go_ret
      exact ⟨rfl, m, rfl⟩

/-- the two pulses stand for the same -/
structure Rel (m : Int) (s : List (Bool × Int)) (L T : Int) (a : List Int) : Prop where
  ls : s.length = 8
  la : a.length = 8
  lim : L = m + 1
  each : ∀ i : Nat, i < 8 → (s.getD i (false, 0)).1 = decide (0 ≤ a.getD i (-1)) ∧ (0 ≤ a.getD i (-1) → (s.getD i (false, 0)).2 = min (T - a.getD i (-1)) L)
section
variable {m L T : Int} {s : List (Bool × Int)} {a : List Int}
theorem Rel.seen (h : Rel m s L T a) (n : Int) : seenB s n = isB a n := by
  rcases node_cases n with ho | ⟨k, rfl, hk⟩
  · rw [seenB_out h.ls ho, isB_out h.la ho]
  · simp only [seenB, isB, Int.toNat_natCast, (h.each k hk).1]
theorem Rel.quiet (h : Rel m s L T a) (n : Int) : fQuiet s n = rQuiet a L T n := by
  unfold fQuiet rQuiet
  rw [h.seen n]
  split
  · rename_i hi
    rcases node_cases n with ho | ⟨k, rfl, hk⟩
    · rw [isB_out h.la ho] at hi; cases hi
    · have : 0 ≤ a.getD k (-1) := by simpa [isB] using hi
      exact (h.each k hk).2 this
  · rfl
theorem filter_congr' {α : Type} {p q : α → Bool} {l : List α} (h : ∀ x ∈ l, p x = q x) : l.filter p = l.filter q := by
  induction l with
  | nil => rfl
  | cons x l ih =>
    rw [List.filter_cons, List.filter_cons, h x (by simp), ih (fun y hy => h y (by simp [hy]))]
theorem Rel.those (h : Rel m s L T a) (hm : 0 ≤ m) (hq : ∀ o ∈ s, 0 ≤ o.2 ∧ o.2 ≤ m + 1) (late : Bool) :
    those (fun o => !late || decide (m < o.2)) s 8 = rThose late a L T 8 := by
  unfold Ytdjdplalifngmaa.those rThose
  apply filter_congr'
  intro i hi
  have hi8 : i < 8 := by simpa using hi
  have hl : i < s.length := by rw [h.ls]; exact hi8
  obtain ⟨e1, e2⟩ := h.each i hi8
  have hqi := hq _ (List.getElem_mem hl)
  have eg : s.getD i (false, 0) = s[i] := by simp [List.getD_eq_getElem?_getD, hl]
  rw [← h.quiet, fQuiet, show ((i : Int)).toNat = i from by omega, eg, seenB_in hl]
  cases hb : (s[i]).1
  · simp
  · have hl' := h.lim
    simp only [if_true, Bool.true_and]
    rw [show decide (0 ≤ (s[i]).2) = true by simpa using hqi.1, Bool.true_and]
    congr 1
    rw [Bool.eq_iff_iff]; simp; omega
theorem getD_set' {α : Type} (l : List α) (k i : Nat) (x d : α) (hk : k < l.length) : (l.set k x).getD i d = if i = k then x else l.getD i d := by
  rw [List.getD_eq_getElem?_getD, List.getElem?_set, List.getD_eq_getElem?_getD]
  by_cases h : k = i
  · subst h; simp [hk]
  · rw [if_neg h, if_neg (fun e => h e.symm)]
theorem Rel.set (h : Rel m s L T a) (k : Nat) (hk : k < 8) (b : Bool) (q v : Int) (hb : b = decide (0 ≤ v)) (hq : 0 ≤ v → q = min (T - v) L) : Rel m (s.set k (b, q)) L T (a.set k v) := by
  refine ⟨by simpa using h.ls, by simpa using h.la, h.lim, fun i hi => ?_⟩
  rw [getD_set' _ _ _ _ _ (by rw [h.ls]; exact hk), getD_set' _ _ _ _ _ (by rw [h.la]; exact hk)]
  by_cases e : i = k
  · rw [if_pos e, if_pos e]; exact ⟨hb, hq⟩
  · rw [if_neg e, if_neg e]; exact h.each i hi
theorem Rel.heard (h : Rel m s L T a) (hT : 0 ≤ T) (hL : 1 ≤ L) (n : Int) : Rel m (fHeard s n) L T (rSet a n T) := by
  unfold fHeard rSet
  rw [h.seen n]
  rcases node_cases n with ho | ⟨k, rfl, hk⟩
  · rw [isB_out h.la ho]; exact h
  · split
    · exact h.set k hk _ _ _ (by simp [hT]) (by omega)
    · exact h
theorem Rel.forget (h : Rel m s L T a) (n : Int) : Rel m (fForget s n) L T (rSet a n (-1)) := by
  unfold fForget rSet
  rw [h.seen n]
  rcases node_cases n with ho | ⟨k, rfl, hk⟩
  · rw [isB_out h.la ho]; exact h
  · split
    · exact h.set k hk _ _ _ (by simp) (by omega)
    · exact h
theorem Rel.watch (h : Rel m s L T a) (hT : 0 ≤ T) (hL : 1 ≤ L) (n : Int) : Rel m (fWatch s n) L T (rWatch a T n) := by
  unfold fWatch rWatch
  rw [h.seen n]
  split
  · rename_i hn
    obtain ⟨k, hk⟩ := Int.eq_ofNat_of_zero_le hn.1
    subst hk
    exact h.set k (by omega) _ _ _ (by simp [hT]) (by omega)
  · exact h
theorem Rel.tick (h : Rel m s L T a) (ha : ∀ o ∈ a, -1 ≤ o ∧ o ≤ T) : Rel m (fTick m s) L (T + 1) a := by
  refine ⟨by simp [fTick, h.ls], h.la, h.lim, fun i hi => ?_⟩
  have hl : i < s.length := by rw [h.ls]; exact hi
  have hla : i < a.length := by rw [h.la]; exact hi
  obtain ⟨e1, e2⟩ := h.each i hi
  have hb := ha _ (List.getElem_mem hla)
  have eg : s.getD i (false, 0) = s[i] := by simp [List.getD_eq_getElem?_getD, hl]
  have ea : a.getD i (-1) = a[i] := by simp [List.getD_eq_getElem?_getD, hla]
  have et : (fTick m s).getD i (false, 0) = tick1 m s[i] := by simp [fTick, List.getD_eq_getElem?_getD, hl]
  rw [eg, ea] at e1 e2
  rw [et, ea]
  have hl' := h.lim
  unfold tick1
  split
  · rename_i hw
    rw [hw] at e1
    have := e2 (by simpa using e1.symm)
    exact ⟨e1, fun _ => by simp only []; omega⟩
  · rename_i hw
    refine ⟨e1, fun h0 => ?_⟩
    rw [e1] at hw
    exact absurd h0 (by simpa using hw)
theorem Rel.new (m : Int) : Rel m s0 (m + 1) 0 neg8 := by
  refine ⟨rfl, rfl, rfl, fun i hi => ?_⟩
  have : i = 0 ∨ i = 1 ∨ i = 2 ∨ i = 3 ∨ i = 4 ∨ i = 5 ∨ i = 6 ∨ i = 7 := by omega
  rcases this with rfl | rfl | rfl | rfl | rfl | rfl | rfl | rfl <;> exact ⟨rfl, fun h => absurd h (by decide)⟩
end
end Go.Proofs.Ytdjdplalifngmaa
