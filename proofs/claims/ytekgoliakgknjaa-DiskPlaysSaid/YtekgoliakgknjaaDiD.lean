import Derived.Test.YtekgoliakgknjaaDiC
namespace Go.Proofs.Ytekgoliakgknjaa
open Go.RowKit
set_option linter.unusedVariables false
attribute [local go_sem] b_max2 b_min2 b_max b_min

theorem odd_any (s : ByteArray) (w : World) : Calls Try.prog 65 #[.string s] w fun e w' => e = .returned (.bool ((s.size : Int) != 512)) ∧ w = w' := by
  go_enter Try.func65, Try.ntmps65
  go_wp2_with fail
  go_ret
  exact ⟨rfl, rfl⟩
def oddB (s : ByteArray) : Bool := (s.size : Int) != 512
set_option maxRecDepth 100000 in
set_option maxHeartbeats 400000 in
theorem index_any (A : Option Addr) (n c : Nat) (xs : List ByteArray) (w : World) (hx : xs.length = n) (hr : Reads w w.heap.size 1 A n (xs.map Value.string)) (hn : n ≤ 1000) :
    Calls Try.prog 78 #[.slice A n c, .func (.func 65) #[] #[]] w fun e w' => (∃ i : Int, e = .returned (.int .i64 i) ∧ decide (0 ≤ i) = xs.any oddB ∧ -1 ≤ i) ∧ w = w' := by
  go_enter Try.func78, Try.ntmps78
  go_wp2_with fail
  go_loopw [8, 5] (fun p _ wr => ∃ i : Nat, p = .int .i64 i ∧ i ≤ n ∧ Hid ((xs.take i).any oddB = false) ∧ w = wr) (fun p _ _ => n - (intOf p).toNat)
  case atStart => exact ⟨0, rfl, by omega, Lib.hid (by simp), rfl⟩
  case round =>
    obtain ⟨i, rfl, hi, hpre, rfl⟩ := hrel
    by_cases hlt : i < n
    · obtain ⟨ad, rfl, hb, hc⟩ := hr.2 (by omega)
      have hg := hc i _ (by rw [List.getElem?_map, List.getElem?_eq_getElem (by omega)]; rfl)
      have hs : xs.take (i + 1) = xs.take i ++ [xs[i]'(by omega)] := List.take_succ_eq_append_getElem (by omega)
      have hany : (xs.take (i + 1)).any oddB = oddB (xs[i]'(by omega)) := by rw [hs, List.any_append, hpre.out]; simp
      have hxs : xs = xs.take i ++ (xs[i]'(by omega)) :: xs.drop (i + 1) := by rw [List.getElem_cons_drop]; exact (List.take_append_drop i xs).symm
      have htrue : oddB (xs[i]'(by omega)) = true → xs.any oddB = true := fun h => by rw [hxs, List.any_append, List.any_cons, h]; simp
      clear hs hxs hc
      generalize xs[i]'(by omega) = s at *
      have HA := Lib.hid hany; have HT := Lib.hid htrue; clear hany htrue
      have ho := odd_any s
      rcases Bool.eq_false_or_eq_true (oddB s) with hc | hc
      · have hc' : ((s.size : Int) != 512) = true := hc
        go_wp2_with (go_at_call 65; refine (ho _).mono ?_; rintro e w' ⟨rfl, rfl⟩)
        go_ret
        exact ⟨⟨_, rfl, by rw [HT.out hc, decide_eq_true_eq]; omega, by omega⟩, rfl⟩
      · have hc' : ((s.size : Int) != 512) = false := hc
        go_wp2_with (go_at_call 65; refine (ho _).mono ?_; rintro e w' ⟨rfl, rfl⟩)
        go_roundw
        case rel => exact ⟨i + 1, vint (by omega), by omega, Lib.hid (by rw [HA.out]; exact hc), trivial⟩
        case measure => simp [intOf]; omega
    · obtain rfl : i = n := by omega
      have hall : xs.any oddB = false := by have := hpre.out; rw [List.take_of_length_le (by omega)] at this; exact this
      have HA := Lib.hid hall; clear hall
      go_wp2_with fail
      go_ret
      exact ⟨⟨_, rfl, by rw [HA.out]; rfl, by omega⟩, rfl⟩
theorem contains_any (A : Option Addr) (n c : Nat) (xs : List ByteArray) (w : World) (hx : xs.length = n) (hr : Reads w w.heap.size 1 A n (xs.map Value.string)) (hn : n ≤ 1000) :
    Calls Try.prog 64 #[.slice A n c, .func (.func 65) #[] #[]] w fun e w' => e = .returned (.bool (xs.any oddB)) ∧ w = w' := by
  go_enter Try.func64, Try.ntmps64
  go_wp2_with fail
  refine (index_any A n c xs w hx hr hn).mono ?_
  rintro e w' ⟨⟨i, rfl, hi, _⟩, rfl⟩
  go_wp2_with fail
  go_ret
  exact ⟨by rw [← hi]; rfl, rfl⟩
section
variable {w w' : World} {g : Nat} {F : Nat → Prop} {d : DS}
/-- what commands tell first -/
def fMay (d : DS) (k s : Int) (odd : Bool) : Int := if s < 0 ∨ (d.lies.length : Int) ≤ s ∨ odd = true then 1 else if (d.keys k).getD false then 0 else 14
set_option maxRecDepth 100000 in
set_option maxHeartbeats 400000 in
theorem may_any (h : IsD w g F d) (k s : Int) (A : Option Addr) (n c : Nat) (xs : List ByteArray) (hx : xs.length = n) (hr : Reads w w.heap.size 1 A n (xs.map Value.string)) (hn : n ≤ 1000) :
    Calls Try.prog 45 #[.pointer (some ⟨g, 0, none⟩), .int .i64 k, .int .i64 s, .slice A n c] w fun e w' => e = .returned (.int .i64 (fMay d k s (xs.any oddB))) ∧ w = w' := by
  have hs := @sectors_any w g F d h
  have hct := contains_any A n c xs w hx hr hn
  obtain ⟨vl, vp, kb, cb, cv, h1, h2, h3, h4, h5, h6, h7, h8, h9, h10, h11, h12, h13, h14, h15, h16, h17⟩ := h.form
  have c1 : w.cell? ⟨g, 1, none⟩ = some (.map (some kb)) := h1.cell 1
  have hl := h10.look Try.underlying66 Try.underlying3 (Try.zeroValue4 _) k
  have e1 : ((d.keys k).map Value.bool).getD (Value.bool false) = .bool ((d.keys k).getD false) := by cases d.keys k <;> rfl
  simp only [e1] at hl
  generalize hkk : (d.keys k).getD false = kk at *
  generalize hod : xs.any oddB = od at *
  have hfm : fMay d k s od = if s < 0 ∨ (d.lies.length : Int) ≤ s ∨ od = true then 1 else if kk then 0 else 14 := by rw [fMay, hkk]
  rw [hfm]
  clear hfm hr
  rcases (show s < 0 ∨ (0 ≤ s ∧ (d.lies.length : Int) ≤ s) ∨ (0 ≤ s ∧ s < d.lies.length) by omega) with hlt | ⟨hlt, hge⟩ | ⟨hlt, hge⟩
  · rw [if_pos (.inl hlt)]
    go_enter Try.func45, Try.ntmps45
    go_wp2_with fail
    go_ret
    exact ⟨rfl, rfl⟩
  · rw [if_pos (.inr (.inl hge))]
    go_enter Try.func45, Try.ntmps45
    go_wp2_with (go_at_call 27; refine hs.mono ?_; rintro e w' ⟨rfl, rfl⟩)
    go_ret
    exact ⟨rfl, rfl⟩
  · cases od with
    | true =>
      rw [if_pos (.inr (.inr rfl))]
      go_enter Try.func45, Try.ntmps45
      go_wp2_with (first | (go_at_call 27; refine hs.mono ?_; rintro e w' ⟨rfl, rfl⟩) | (go_at_call 64; refine hct.mono ?_; rintro e w' ⟨rfl, rfl⟩))
      go_ret
      exact ⟨rfl, rfl⟩
    | false =>
      rw [if_neg (by simp; omega)]
      cases kk with
      | true =>
        go_enter Try.func45, Try.ntmps45
        go_wp2_with (first | (go_at_call 27; refine hs.mono ?_; rintro e w' ⟨rfl, rfl⟩) | (go_at_call 64; refine hct.mono ?_; rintro e w' ⟨rfl, rfl⟩))
        go_ret
        exact ⟨rfl, rfl⟩
      | false =>
        go_enter Try.func45, Try.ntmps45
        go_wp2_with (first | (go_at_call 27; refine hs.mono ?_; rintro e w' ⟨rfl, rfl⟩) | (go_at_call 64; refine hct.mono ?_; rintro e w' ⟨rfl, rfl⟩))
        go_ret
        exact ⟨rfl, rfl⟩
end
end Go.Proofs.Ytekgoliakgknjaa
