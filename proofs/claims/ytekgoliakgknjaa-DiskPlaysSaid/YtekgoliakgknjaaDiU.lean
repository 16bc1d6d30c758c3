import Derived.Test.YtekgoliakgknjaaDiT
namespace Go.Proofs.Ytekgoliakgknjaa
open Go.RowKit
set_option linter.unusedVariables false
attribute [local go_sem] b_max2 b_min2 b_max b_min

/-- power goes: each cache's writes, by the picks that are left -/
def fPow : List Int → List Int → DS → DS
  | [], _, d => d
  | k :: ks, zs, d => fPow ks (zs.drop (d.caches k).length) (fSettle d k (pickF zs))
theorem fSettle_caches (d : DS) (k : Int) (st : Nat → Bool) (j : Int) : (fSettle d k st).caches j = if j = k then [] else d.caches j := rfl
theorem fSettle_ok {d : DS} (h : d.ok) (k : Int) (st : Nat → Bool) : (fSettle d k st).ok := by
  intro j p hp
  rw [fSettle_caches] at hp
  by_cases hj : j = k
  · rw [if_pos hj] at hp; cases hp
  · rw [if_neg hj] at hp
    show _ < (laid _ _ _ _).length
    rw [laid_len]; exact h j p hp
section
variable {w w' w1 : World} {g : Nat} {F : Nat → Prop} {d : DS}
theorem Picks.fr {A : Option Addr} {n : Nat} {zs : List Int} (h : Picks w F A n zs) (hf : Fr F w w') : Picks w' F A n zs := by
  obtain ⟨B, hr⟩ := h.rd
  exact ⟨h.len, ⟨B, hr.fr hf h.own⟩, fun h0 ad e => ⟨(h.own h0 ad e).1, Nat.lt_of_lt_of_le (h.own h0 ad e).2 hf.size⟩, h.b⟩
theorem Picks.drop {A : Option Addr} {n c : Nat} {zs : List Int} (h : Picks w F A n zs) (hc : n ≤ c) (m : Nat) (hm : m ≤ n) : Picks w F (if c = m then A else A.map (·.add m)) (n - m) (zs.drop m) := by
  obtain ⟨B, hr⟩ := h.rd
  refine ⟨by rw [List.length_drop, h.len], ⟨B, ?_, ?_⟩, ?_, fun z hz => h.b z (List.mem_of_mem_drop hz)⟩
  · rw [List.length_map, List.length_drop, h.len, Nat.mul_one]
  · intro h0
    have hne : ¬ c = m := by omega
    obtain ⟨ad, e, h1, h2⟩ := hr.2 (by omega)
    refine ⟨ad.add m, by rw [if_neg hne, e]; rfl, by rw [block_of_add]; exact h1, fun j u hj => ?_⟩
    rw [List.map_drop, List.getElem?_drop] at hj
    have := h2 (m + j) u hj
    rw [show (ad.add m).add j = ad.add (m + j) from by
      obtain ⟨b, o, r⟩ := ad
      simp only [Addr.add]
      by_cases h1 : m = 0 <;> by_cases h2 : j = 0 <;> simp [h1, h2] <;> omega]
    exact this
  · intro h0 ad e
    by_cases hne : c = m
    · rw [if_pos hne] at e; exact h.own (by omega) ad e
    · rw [if_neg hne] at e
      cases hA : A with
      | none => rw [hA] at e; cases e
      | some a =>
        rw [hA] at e
        obtain rfl := Option.some.inj e
        dsimp only
        rw [block_of_add]; exact h.own (by omega) a hA
theorem sorted_disk (h : IsD w g F d) (S : List Int) (hS : ∀ k, d.caches k ≠ [] → k ∈ S) (hb : ∀ k ∈ S, -9223372036854775808 ≤ k ∧ k ≤ 9223372036854775807) (hl : S.length ≤ 1000) : ∃ cb, w.cell? ⟨g, 2, none⟩ = some (.map (some cb)) ∧
    Calls Try.prog 50 #[.func (.func 70) #[] #[.pointer (some ⟨w.heap.size, 0, none⟩)]] (w.alloc (.cells #[.map (some cb)] 67)) fun e w' => ∃ (v : Value) (ms : List Int), e = .returned v ∧ ms.Pairwise (· < ·) ∧ (∀ k, k ∈ ms ↔ d.caches k ≠ []) ∧ ms.length ≤ 1000 ∧
      w'.ownsRow (w.heap.size + 1) 3 1 v ms.length (ms.map (Value.int .i64)) ∧ Below w.heap.size w w' := by
  obtain ⟨vl, vp, kb, cb, cv, h1, h2, h3, h4, h5, h6, h7, h8, h9, h10, h11, h12, h13, h14, h15, h16, h17, h18⟩ := h.form
  have hiff : ∀ k, cv k ≠ none ↔ d.caches k ≠ [] := by
    intro k
    refine ⟨h18 k, fun hne e => hne ?_⟩
    have ho := h12 k
    rw [e] at ho
    rcases ho.2 with ⟨_, h0⟩ | ⟨_, _, _, e1, _⟩
    · exact List.eq_nil_of_length_eq_zero h0
    · exact absurd e1 (by simp)
  refine ⟨cb, h1.cell 2, (sorted_call h11 S (fun k hk => hS k ((hiff k).1 hk)) hb hl).mono ?_⟩
  rintro e w' ⟨v, ms, a1, a2, a3, a4⟩
  exact ⟨v, ms, a1, a2, fun k => (a3 k).trans (hiff k), a4⟩
set_option maxRecDepth 100000 in
set_option maxHeartbeats 1000000 in
theorem power_any (h : IsD w g F d) (hok : d.ok) (hl : ∀ k, (d.caches k).length ≤ 100000) (S : List Int) (hS : ∀ k, d.caches k ≠ [] → k ∈ S) (hb : ∀ k ∈ S, -9223372036854775808 ≤ k ∧ k ≤ 9223372036854775807) (hlS : S.length ≤ 1000)
    (A : Option Addr) (n c : Nat) (zs : List Int) (hp : Picks w F A n zs) (hc : n ≤ c) (hn : n ≤ 100000) :
    Calls Try.prog 21 #[.pointer (some ⟨g, 0, none⟩), .slice A n c] w fun e w' => e = .returned (.tuple #[]) ∧ ∃ ms : List Int, ms.Pairwise (· < ·) ∧ (∀ k, k ∈ ms ↔ d.caches k ≠ []) ∧ Aft w w' g F ((fPow ms zs d).setPend []) := by
  obtain ⟨cb, c2, hsd⟩ := sorted_disk h S hS hb hlS
  go_enter Try.func21, Try.ntmps21
  go_wp2_with (first | (go_at_call 51; refine (keys_call _ _).mono ?_; rintro e w1 ⟨rfl, rfl⟩) | (go_at_call 50; refine hsd.mono ?_; rintro e w1 ⟨v, ms, rfl, m1, m2, m3, ho, hbe⟩))
  obtain ⟨R, rc, rfl, _, hR⟩ := Reads.of_own ho
  have hRown : 0 < ms.length → ∀ ad, R = some ad → ¬ F ad.block ∧ ad.block < w1.heap.size := by
    intro _ ad e
    subst e
    have := World.ownsRow.lt ho ad.block rfl
    exact ⟨fun hF => by have := h.fb _ hF; omega, this.2⟩
  have hF1 : Fr F w w1 := Fr.of_below hbe _
  have h1 := h.low hbe
  have hp1 := hp.fr hF1
  clear c2 hsd
  generalize hN : ms.length = N at *
  go_wp2_with fail
  have hle : (Builtin.len_ #[31] 3 #[.slice R N rc]).run Try.prog w1 = .ok (.int .i64 N) w1 := by simp [go_sem]
  rw [hle]
  clear hle
  go_wp2_with fail
  go_loopw [1, 16] (fun pv iv wr => ∃ (i n' c' : Nat) (A' : Option Addr) (zs' : List Int) (d' : DS), iv = .int .i64 i ∧ i ≤ N ∧ pv = .slice A' n' c' ∧ n' ≤ c' ∧ n' ≤ 100000 ∧ Hid (IsD wr g F d' ∧ Fr F w1 wr ∧ Picks wr F A' n' zs' ∧ d'.ok ∧ (∀ k, (d'.caches k).length ≤ 100000) ∧ fPow (ms.drop i) zs' d' = fPow ms zs d)) (fun pv iv _ => N - (intOf iv).toNat)
  case atStart => exact ⟨0, n, c, A, zs, d, rfl, by omega, rfl, hc, hn, Lib.hid ⟨h1, Fr.refl _ _, hp1, hok, hl, rfl⟩⟩
  case round =>
    obtain ⟨i, n', c', A', zs', d', rfl, hi, rfl, hc', hn', hh⟩ := hrel
    by_cases hlt : i < N
    · obtain ⟨hd, hf, hpk, hok', hl', heq⟩ := hh.out
      obtain ⟨ad, hA1, _, hcs⟩ := (hR.fr hf hRown).2 (by omega)
      subst hA1
      have hk := hcs i _ (by rw [List.getElem?_map, List.getElem?_eq_getElem (by omega)]; rfl)
      have hdrop : ms.drop i = ms[i]'(by omega) :: ms.drop (i + 1) := List.drop_eq_getElem_cons (by omega)
      have hdr : fPow (ms.drop i) zs' d' = fPow (ms.drop (i + 1)) (zs'.drop (d'.caches (ms[i]'(by omega))).length) (fSettle d' (ms[i]'(by omega)) (pickF zs')) := by rw [hdrop]; rfl
      generalize ms[i]'(by omega) = k at *
      have hs := settle_picks hd hok' k (hl' k) A' n' c' zs' hpk
      have hlk := hl' k
      obtain ⟨m, hm⟩ : ∃ m, min (d'.caches k).length n' = m := ⟨_, rfl⟩
      have hmi : min ((d'.caches k).length : Int) (n' : Int) = (m : Int) := by omega
      have hHS := Lib.hid hs
      have hHH := Lib.hid (And.intro hf (And.intro hpk (And.intro hok' (And.intro hl' (hdr.symm.trans heq)))))
      clear hdr hs hcs hf hpk hok' hl' heq hdrop hd hh
      generalize hL : (d'.caches k).length = L at *
      go_wp2_with (first | (go_at_call 52; refine (picked_any A' n' c' _).mono ?_; rintro e w2 ⟨rfl, rfl⟩) | (go_at_call 47; refine hHS.out.mono ?_; rintro e w2 ⟨rfl, s1, s2⟩))
      obtain ⟨hf, hpk, hok', hl', heq⟩ := hHH.out
      refine ⟨⟨i + 1, n' - m, c' - m, _, zs'.drop m, fSettle d' k (pickF zs'), vint (by omega), by omega, rfl, by omega, by omega, Lib.hid ⟨s1, hf.trans s2, (hpk.fr s2).drop hc' m (by omega), fSettle_ok hok' k _, fun j => ?_, ?_⟩⟩, by simp [intOf]; omega⟩
      · rw [fSettle_caches]
        by_cases hj : j = k
        · rw [if_pos hj]; simp
        · rw [if_neg hj]; exact hl' j
      · rw [← heq]
        congr 1
        by_cases hmL : L ≤ n'
        · rw [show m = L by omega]
        · rw [List.drop_of_length_le (show zs'.length ≤ m by rw [hpk.len]; omega), List.drop_of_length_le (by rw [hpk.len]; omega)]
    · obtain rfl : i = N := by omega
      obtain ⟨hd, hf, hpk, hok', hl', heq⟩ := hh.out
      rw [List.drop_of_length_le (by omega)] at heq
      obtain rfl : d' = fPow ms zs d := heq
      obtain ⟨vp, c3, _, hvg, hst⟩ := hd.pendSet [] (.slice none 0 0)
      obtain ⟨_, f3, haft⟩ := hst wr (Fr.refl _ _) (ORow.nil _ _) (.inr (.inl rfl))
      have hfin := Lib.hid (Aft.trans (hF1.trans hf) (fun k hk => .inl hk) haft)
      clear hst haft hd hf hpk hh hR hRown ho
      go_wp2_with fail
      go_end0
      exact ⟨rfl, ms, m1, m2, hfin.out⟩
end
end Go.Proofs.Ytekgoliakgknjaa
