import Derived.Test.YtekgoliakgknjaaDiH
namespace Go.Proofs.Ytekgoliakgknjaa
open Go.RowKit
set_option linter.unusedVariables false
attribute [local go_sem] b_max2 b_min2 b_max b_min

section
variable {w w' w1 : World} {g : Nat} {F : Nat → Prop} {d : DS}
/-- picks that are read where they lie -/
structure Picks (w : World) (F : Nat → Prop) (A : Option Addr) (n : Nat) (zs : List Int) : Prop where
  len : zs.length = n
  rd : ∃ B, Reads w B 1 A n (zs.map (Value.int .i64))
  own : 0 < n → ∀ ad, A = some ad → ¬ F ad.block ∧ ad.block < w.heap.size
  b : ∀ z ∈ zs, -9223372036854775808 ≤ z ∧ z ≤ 9223372036854775807
theorem Picks.none_ (w : World) (F : Nat → Prop) : Picks w F none 0 [] := ⟨rfl, ⟨0, Reads.none_⟩, fun h => absurd h (by omega), fun _ h => (by cases h)⟩
/-- settle by picks: the box of picks is made, and each write is asked -/
theorem settle_picks (h : IsD w g F d) (hok : d.ok) (k : Int) (hl : (d.caches k).length ≤ 100000) (A : Option Addr) (n c : Nat) (zs : List Int) (hp : Picks w F A n zs) :
    Calls Try.prog 47 #[.pointer (some ⟨g, 0, none⟩), .int .i64 k, .func (.func 71) #[] #[.pointer (some ⟨w.heap.size, 0, none⟩)]] (w.alloc (.cells #[.slice A n c] 31)) fun e w' => e = .returned (.int .i64 ((d.caches k).length : Nat)) ∧ IsD w' g F (fSettle d k (pickF zs)) ∧ Fr F w w' := by
  have hbox : Blk (w.alloc (.cells #[.slice A n c] 31)) w.heap.size 31 #[.slice A n c] := Blk.new _ _ _
  have hzF : ¬ F w.heap.size := fun e => by have := h.fb _ e; omega
  refine (settle71_any (h.alloc _) k ⟨w.heap.size, 0, none⟩ (pickF zs) (hok k) hl (fun wr hf i hi => ?_)).mono fun e w' ⟨e1, e2, e3⟩ => ⟨e1, e2, (Fr.alloc F w _).trans e3⟩
  obtain ⟨B, hr⟩ := hp.rd
  exact pick_any _ A n c zs i B wr ((hf.blk hbox hzF).cell 0) hp.len (hr.fr ((Fr.alloc F w _).trans hf) hp.own) hp.b (by omega)
set_option maxRecDepth 100000 in
set_option maxHeartbeats 400000 in
theorem drop_any (h : IsD w g F d) (hok : d.ok) (k : Int) (hl : (d.caches k).length ≤ 100000) (A : Option Addr) (n c : Nat) (zs : List Int) (hp : Picks w F A n zs) :
    Calls Try.prog 25 #[.pointer (some ⟨g, 0, none⟩), .int .i64 k, .slice A n c] w fun e w' => e = .returned (.tuple #[]) ∧ IsD w' g F (fSettle d k (pickF zs)) ∧ Fr F w w' := by
  have hs := settle_picks h hok k hl A n c zs hp
  go_enter Try.func25, Try.ntmps25
  go_wp2_with (first | (go_at_call 52; refine (picked_any A n c _).mono ?_; rintro e w' ⟨rfl, rfl⟩) | (go_at_call 47; refine hs.mono ?_; rintro e w' ⟨rfl, h1, h2⟩))
  go_end0
  exact ⟨rfl, h1, h2⟩
theorem drop_nil (k : Int) (v : Value) (w : World) : Calls Try.prog 25 #[.pointer none, .int .i64 k, v] w fun e w' => e = .returned (.tuple #[]) ∧ w = w' := by
  go_enter Try.func25, Try.ntmps25
  go_wp2_with fail
  go_end0
  exact ⟨rfl, rfl⟩
/-- the first fence takes effect -/
def fTakes (d : DS) (zs : List Int) : DS × Int := match d.pend with
  | [] => (d, 0)
  | k :: l => (fSettle ((d.setPend l).setKey k false) k (pickF zs), k)
theorem takes_nil (v : Value) (w : World) : Calls Try.prog 24 #[.pointer none, v] w fun e w' => e = .returned (.int .i64 0) ∧ w = w' := by
  go_enter Try.func24, Try.ntmps24
  go_wp2_with fail
  go_ret
  exact ⟨rfl, rfl⟩
set_option maxRecDepth 100000 in
set_option maxHeartbeats 1000000 in
theorem takes_any (h : IsD w g F d) (hok : d.ok) (hl : ∀ k, (d.caches k).length ≤ 100000) (A : Option Addr) (n c : Nat) (zs : List Int) (hp : Picks w F A n zs) (hpl : d.pend.length ≤ 100000) :
    Calls Try.prog 24 #[.pointer (some ⟨g, 0, none⟩), .slice A n c] w fun e w' => e = .returned (.int .i64 (fTakes d zs).2) ∧ Aft w w' g F (fTakes d zs).1 := by
  cases hpd : d.pend with
  | nil =>
    have hres : fTakes d zs = (d, 0) := by rw [fTakes, hpd]
    rw [hres]
    obtain ⟨vp, c3, ho, _⟩ := h.pendSet [] (.slice none 0 0)
    rw [hpd] at ho
    obtain ⟨A', c', rfl, _, _⟩ := ho.reads
    go_enter Try.func24, Try.ntmps24
    go_wp2_with fail
    go_ret
    exact ⟨rfl, Aft.stay h⟩
  | cons k l =>
    have hres : fTakes d zs = (fSettle ((d.setPend l).setKey k false) k (pickF zs), k) := by rw [fTakes, hpd]
    rw [hres]
    have hpl2 : l.length + 1 ≤ 100000 := by rw [hpd] at hpl; simpa using hpl
    -- the rest, once the tail's value is known
    have main : ∀ vp', (∃ b o cap, w.cell? ⟨g, 3, none⟩ = some (.slice (some ⟨b, o, none⟩) (l.length + 1) cap) ∧ l.length + 1 ≤ cap ∧ cap ≤ maxLen ∧ w.cell? ⟨b, o, none⟩ = some (.int .i64 k) ∧ b ≠ g ∧
        ((cap = 1 ∧ l.length = 0 ∧ vp' = .slice (some ⟨b, o, none⟩) 0 0) ∨ (cap ≠ 1 ∧ vp' = .slice (some ⟨b, o + 1, none⟩) l.length (cap - 1)))) →
        w.frozen? ⟨g, 3, none⟩ = false → Aft w (w.setCell ⟨g, 3, none⟩ vp') g F (d.setPend l) →
        Calls Try.prog 24 #[.pointer (some ⟨g, 0, none⟩), .slice A n c] w fun e w' => e = .returned (.int .i64 k) ∧ Aft w w' g F (fSettle ((d.setPend l).setKey k false) k (pickF zs)) := by
      rintro vp' ⟨b, o, cap, c3, hc1, hc2, hck, hbg, hv⟩ hfz ⟨F1, h1, hf1, hF1⟩
      obtain ⟨kb, w2, k1, k2, k3, k4⟩ := h1.setKey k false
      have c1 : w.cell? ⟨g, 1, none⟩ = some (.map (some kb)) := by
        obtain ⟨vl, vp, kb0, cb, cv, hB, _⟩ := h.form
        have e : (w.setCell ⟨g, 3, none⟩ vp').cell? ⟨g, 1, none⟩ = some (.map (some kb0)) := (hB.set_ 3 vp').cell 1
        rw [k1] at e
        rw [e]; exact hB.cell 1
      have hpk : Picks w2 F1 A n zs := ⟨hp.len, by
        obtain ⟨B, hr⟩ := hp.rd
        exact ⟨B, (hr.fr hf1 hp.own).fr k4 (fun h0 ad e => ⟨fun e2 => (hF1 _ e2).elim (hp.own h0 ad e).1 (fun h => by have := (hp.own h0 ad e).2; omega), Nat.lt_of_lt_of_le (hp.own h0 ad e).2 hf1.size⟩)⟩, fun h0 ad e => ⟨fun e2 => (hF1 _ e2).elim (hp.own h0 ad e).1 (fun h => by have := (hp.own h0 ad e).2; omega), Nat.lt_of_lt_of_le (hp.own h0 ad e).2 (Nat.le_trans hf1.size k4.size)⟩, hp.b⟩
      have hs := settle_picks k3 (d := (d.setPend l).setKey k false) (by exact hok) k (hl k) A n c zs hpk
      have hfin : ∀ w', IsD w' g F1 (fSettle ((d.setPend l).setKey k false) k (pickF zs)) → Fr F1 w2 w' → Aft w w' g F (fSettle ((d.setPend l).setKey k false) k (pickF zs)) := fun w' a1 a2 => Aft.trans hf1 hF1 (Aft.of_same a1 (k4.trans a2))
      have HF := Lib.hid hfin; have HS := Lib.hid hs; clear hfin hs k3 k4 h1 hf1 hF1 hpk
      rcases hv with ⟨hc, hl0, rfl⟩ | ⟨hc, rfl⟩
      · subst hc
        rw [hl0] at c3
        go_enter Try.func24, Try.ntmps24
        go_wp2_with (first | (go_at_call 52; refine (picked_any A n c _).mono ?_; rintro e w' ⟨rfl, rfl⟩) | (go_at_call 47; refine HS.out.mono ?_; rintro e w' ⟨rfl, h1, h2⟩))
        go_ret
        exact ⟨rfl, HF.out _ h1 h2⟩
      · have hN0 : ((l.length : Int) + 1 == 0) = false := by simp; omega
        go_enter Try.func24, Try.ntmps24
        go_wp2_with (first | (go_at_call 52; refine (picked_any A n c _).mono ?_; rintro e w' ⟨rfl, rfl⟩) | (go_at_call 47; refine HS.out.mono ?_; rintro e w' ⟨rfl, h1, h2⟩))
        go_ret
        exact ⟨rfl, HF.out _ h1 h2⟩
    obtain ⟨vl, vp, kb, cb, cv, hB, _, _, _, _, _, _, _, h9, _⟩ := h.form
    rw [hpd] at h9
    obtain ⟨b, o, cap, rfl, hc1, hc2, hck, _, ht1, ht2⟩ := h9.tail
    have hbg : b ≠ g := by
      obtain ⟨vp, c3, _, hn, _⟩ := h.pendSet [] (.slice none 0 0)
      have e : w.cell? ⟨g, 3, none⟩ = some (.slice (some ⟨b, o, none⟩) (l.length + 1) cap) := by simpa using hB.cell 3
      rw [c3] at e
      obtain rfl := Option.some.inj e
      exact fun e => hn (by rw [e]; rfl)
    have c3 : w.cell? ⟨g, 3, none⟩ = some (.slice (some ⟨b, o, none⟩) (l.length + 1) cap) := by simpa using hB.cell 3
    by_cases hc : cap = 1
    · have hl0 : l.length = 0 := by omega
      have ht := ht1 hc
      subst hc
      rw [hl0] at ht
      obtain ⟨vp, e3, _, _, hset⟩ := h.pendSet l (.slice (some ⟨b, o, none⟩) 0 0)
      obtain rfl : vp = .slice (some ⟨b, o, none⟩) (l.length + 1) 1 := by rw [c3] at e3; exact (Option.some.inj e3).symm
      obtain ⟨_, a2, a3⟩ := hset w (Fr.refl _ _) (by rw [hl0]; exact ht) (.inl rfl)
      exact main _ ⟨b, o, 1, c3, hc1, hc2, hck, hbg, .inl ⟨rfl, hl0, rfl⟩⟩ a2 a3
    · have ht := ht2 hc
      obtain ⟨vp, e3, _, _, hset⟩ := h.pendSet l (.slice (some ⟨b, o + 1, none⟩) l.length (cap - 1))
      obtain rfl : vp = .slice (some ⟨b, o, none⟩) (l.length + 1) cap := by rw [c3] at e3; exact (Option.some.inj e3).symm
      obtain ⟨_, a2, a3⟩ := hset w (Fr.refl _ _) ht (.inl rfl)
      exact main _ ⟨b, o, cap, c3, hc1, hc2, hck, hbg, .inr ⟨hc, rfl⟩⟩ a2 a3
/-- a fence is asked -/
def fFence (d : DS) (k t : Int) : DS × Int :=
  if t < 1 then (d, 1) else (if fMay d k 0 false = 0 ∧ (d.keys t).getD false = true ∧ t ∉ d.pend then d.setPend (d.pend ++ [t]) else d, fMay d k 0 false)
set_option maxRecDepth 100000 in
set_option maxHeartbeats 1000000 in
theorem fence_any (h : IsD w g F d) (k t : Int) (hpl : d.pend.length ≤ 100000) :
    Calls Try.prog 20 #[.pointer (some ⟨g, 0, none⟩), .int .i64 k, .int .i64 t] w fun e w' => e = .returned (.int .i64 (fFence d k t).2) ∧ Aft w w' g F (fFence d k t).1 := by
  by_cases ht : t < 1
  · have hres : fFence d k t = (d, 1) := by rw [fFence, if_pos ht]
    rw [hres]
    go_enter Try.func20, Try.ntmps20
    go_wp2_with fail
    go_ret
    exact ⟨rfl, Aft.stay h⟩
  have hm := may_any h k 0 none 0 0 [] rfl Reads.none_ (by omega)
  rw [show ([] : List ByteArray).any oddB = false from rfl] at hm
  have hres : fFence d k t = (if fMay d k 0 false = 0 ∧ (d.keys t).getD false = true ∧ t ∉ d.pend then d.setPend (d.pend ++ [t]) else d, fMay d k 0 false) := by rw [fFence, if_neg ht]
  rw [hres]
  clear hres
  generalize fMay d k 0 false = m at *
  obtain ⟨vl, vp, kb, cb, cv, h1, h2, h3, h4, h5, h6, h7, h8, h9, h10, h11, h12, h13, h14, h15, h16, h17⟩ := h.form
  have c1 : w.cell? ⟨g, 1, none⟩ = some (.map (some kb)) := h1.cell 1
  have c3 : w.cell? ⟨g, 3, none⟩ = some vp := h1.cell 3
  have hlk := h10.look Try.underlying66 Try.underlying3 (Try.zeroValue4 _) t
  have e1 : ((d.keys t).map Value.bool).getD (Value.bool false) = .bool ((d.keys t).getD false) := by cases d.keys t <;> rfl
  simp only [e1] at hlk
  obtain ⟨Ap, cp, rfl, _, hRp⟩ := h9.reads
  have hct := containsi_any Ap d.pend.length cp d.pend t w rfl hRp (by omega)
  generalize hkk : (d.keys t).getD false = kk at *
  generalize hcc : d.pend.contains t = cc at *
  have hmem : (t ∉ d.pend) = (cc = false) := by rw [← hcc, eq_iff_iff]; simp
  simp only [hmem]
  by_cases h0 : m = 0
  · have e0 : (m == 0) = true := by simp [h0]
    by_cases hgo : kk = true ∧ cc = false
    · rw [if_pos ⟨h0, hgo⟩]
      obtain ⟨rfl, rfl⟩ := hgo
      clear h0
      have hcell : (w.alloc (.cells #[.int .i64 t] 3)).cell? ⟨w.heap.size, 0, none⟩ = some (.int .i64 t) := (Blk.new w 3 #[.int .i64 t]).cell 0
      have ho2 := h9.keep (Fr.alloc (fun _ => False) w (.cells #[.int .i64 t] 3)) (fun _ _ h => h)
      clear h1 h2 h3 h4 h5 h6 h7 h8 h9 h10 h11 h12 h13 h14 h15 h16 h17 hRp
      go_enter Try.func20, Try.ntmps20
      go_wp2_with (first | (go_at_call 45; refine hm.mono ?_; rintro e w' ⟨rfl, rfl⟩) | (go_at_call 49; refine hct.mono ?_; rintro e w' ⟨rfl, rfl⟩) | (at_builtin; refine wpList_append_orow rfl (.tmp 36) (.tmp 38) rfl _ _ _ rfl ho2 (by omega) ⟨w.heap.size, 0, none⟩ 1 t rfl hcell ?_))
      intro v' w1 ho3 hgr hown
      obtain ⟨vp2, a1, a2, a3, hset⟩ := h.pendSet (d.pend ++ [t]) v'
      obtain rfl : vp2 = .slice Ap d.pend.length cp := by rw [c3] at a1; exact (Option.some.inj a1).symm
      obtain ⟨b1, b2, b3⟩ := hset w1 ((Fr.alloc _ w _).trans (Fr.of_grown hgr)) (by rw [List.length_append, List.map_append]; exact ho3) (by
        rcases hown with e | e
        · exact .inl e
        · exact .inr (.inr ⟨_, e, by simp⟩))
      have H3 := Lib.hid b3; clear b3 hset hgr hown
      obtain ⟨A', c', rfl, _, _⟩ := ho3.reads
      go_wp2_with fail
      go_ret
      exact ⟨rfl, H3.out⟩
    · rw [if_neg (fun e => hgo e.2)]
      clear h1 h2 h3 h4 h5 h6 h7 h8 h9 h10 h11 h12 h13 h14 h15 h16 h17 hRp h0
      cases kk with
      | false =>
        go_enter Try.func20, Try.ntmps20
        go_wp2_with (first | (go_at_call 45; refine hm.mono ?_; rintro e w' ⟨rfl, rfl⟩) | (go_at_call 49; refine hct.mono ?_; rintro e w' ⟨rfl, rfl⟩))
        go_ret
        exact ⟨rfl, Aft.stay h⟩
      | true =>
        cases cc with
        | false => exact absurd ⟨rfl, rfl⟩ hgo
        | true =>
          go_enter Try.func20, Try.ntmps20
          go_wp2_with (first | (go_at_call 45; refine hm.mono ?_; rintro e w' ⟨rfl, rfl⟩) | (go_at_call 49; refine hct.mono ?_; rintro e w' ⟨rfl, rfl⟩))
          go_ret
          exact ⟨rfl, Aft.stay h⟩
  · rw [if_neg (fun e => h0 e.1)]
    have e0 : (m == 0) = false := by simp [h0]
    clear h1 h2 h3 h4 h5 h6 h7 h8 h9 h10 h11 h12 h13 h14 h15 h16 h17 hRp h0
    go_enter Try.func20, Try.ntmps20
    go_wp2_with (first | (go_at_call 45; refine hm.mono ?_; rintro e w' ⟨rfl, rfl⟩) | (go_at_call 49; refine hct.mono ?_; rintro e w' ⟨rfl, rfl⟩))
    go_ret
    exact ⟨rfl, Aft.stay h⟩
end
end Go.Proofs.Ytekgoliakgknjaa
