import Derived.Test.YtekgoliakgknjaaDo
namespace Go.Proofs.Ytekgoliakgknjaa
open Go.RowKit
set_option linter.unusedVariables false
attribute [local go_sem] b_max2 b_min2 b_max b_min

section
variable {w w' w1 : World} {g : Nat} {F G : Nat → Prop} {R R' : RS} {vs : Nat → Value}
set_option maxRecDepth 100000 in
theorem rflush_any (h : IsR w g F R) (k : Int) : Calls Try.prog 32 #[.pointer (some ⟨g, 0, none⟩), .int .i64 k] w fun e w' => e = .returned (.int .i64 (fFlush R.ds k).2) ∧ AftR w w' g F R (fFlush R.ds k).1 := by
  have hst := AftR.stay h
  have hk := rregistered_any h k
  have hs := rsettle_any h k none 0 0 [] (Picks.none_ w F) true
  have hl0 := h.ok.l0
  unfold fFlush
  rw [show fMay R.ds k 0 false = if (keyOf R.ks R.on k).getD false then 0 else 14 by
    unfold fMay
    rw [if_neg (by
      intro h
      have : (R.ds.lies.length : Int) = R.L.length := rfl
      rcases h with h | h | h
      · omega
      · omega
      · cases h)]; rfl]
  generalize (keyOf R.ks R.on k).getD false = b at *
  clear h
  cases b with
  | true =>
    go_enter Try.func32, Try.ntmps32
    go_wp2_with fail
    refine hk.mono ?_
    rintro e w' ⟨rfl, rfl⟩
    go_wp2_with fail
    refine hs.mono ?_
    rintro e w' ⟨rfl, h2⟩
    go_wp2_with fail
    go_ret
    exact ⟨rfl, h2.aft⟩
  | false =>
    clear hs
    go_enter Try.func32, Try.ntmps32
    go_wp2_with fail
    refine hk.mono ?_
    rintro e w' ⟨rfl, rfl⟩
    go_wp2_with fail
    go_ret
    exact ⟨rfl, hst⟩
set_option maxRecDepth 100000 in
theorem rdrop_any (h : IsR w g F R) (k : Int) (A : Option Addr) (n c : Nat) (zs : List Int) (hp : Picks w F A n zs) : Calls Try.prog 36 #[.pointer (some ⟨g, 0, none⟩), .int .i64 k, .slice A n c] w fun e w' => e = .returned (.tuple #[]) ∧ AftR w w' g F R (fSettle R.ds k (pickF zs)) := by
  have hs := rsettle_any h k A n c zs hp false
  clear h hp
  go_enter Try.func36, Try.ntmps36
  go_wp2_with fail
  refine hs.mono ?_
  rintro e w' ⟨rfl, h2⟩
  have h3 := h2.aft
  clear h2 hs
  go_wp2_with fail
  go_end0
  exact ⟨rfl, h3⟩
theorem keyOf_set (ks : List Int) (on : List Bool) (k : Int) (hk : k ∈ ks) (ho : on.length = ks.length) : keyOf ks (on.set (ks.idxOf k) false) = fun j => if j = k then some false else keyOf ks on j := by
  funext j
  have hi := List.idxOf_lt_length_iff.2 hk
  unfold keyOf
  by_cases hjk : j = k
  · subst hjk
    rw [if_pos hk, if_pos rfl, List.getD_eq_getElem?_getD, List.getElem?_set_self (by omega)]; rfl
  · rw [if_neg hjk]
    by_cases hj : j ∈ ks
    · have hij : ks.idxOf k ≠ ks.idxOf j := by
        intro e
        have hj' := List.idxOf_lt_length_iff.2 hj
        have e1 : ks[ks.idxOf k]'hi = k := List.getElem_idxOf hi
        have e2 : ks[ks.idxOf j]'hj' = j := List.getElem_idxOf hj'
        apply hjk
        rw [← e1, ← e2]
        congr 1
        exact e.symm
      rw [if_pos hj, if_pos hj, List.getD_eq_getElem?_getD, List.getElem?_set_ne hij, ← List.getD_eq_getElem?_getD]
    · rw [if_neg hj, if_neg hj]
/-- a key is registered no more -/
theorem RX.off (h : RX w g F R vs) {n : Nat} (hn : n < R.on.length) (x : Bool) : ∃ b c, vs 2 = .slice (some ⟨b, 0, none⟩) R.on.length c ∧ w.frozen? ⟨b, n, none⟩ = false ∧ w.cell? ⟨b, n, none⟩ = some (.bool (R.on.getD n false)) ∧
    RX (w.setCell ⟨b, n, none⟩ (.bool x)) g F { R with on := R.on.set n x } vs ∧ Fr F w (w.setCell ⟨b, n, none⟩ (.bool x)) := by
  have ho : w.ownsRow 0 4 1 (vs 2) R.on.length (R.on.map Value.bool) := h.row 2 (by omega)
  obtain ⟨b, c, e⟩ := own_form ho (by omega)
  have hR := Reads.of_own ho
  obtain ⟨A, c', e', _, hR⟩ := hR
  rw [e] at e'
  simp only [Value.slice.injEq] at e'
  obtain ⟨rfl, _, rfl⟩ := e'
  obtain ⟨ad, e2, _, hc⟩ := hR.2 (by omega)
  obtain rfl := Option.some.inj e2
  have hcell := hc n _ (by rw [List.getElem?_map, List.getElem?_eq_getElem hn]; rfl)
  rw [add_zero'] at hcell
  rw [e] at ho
  refine ⟨b, c, e, own_frozen ho, by rw [hcell, List.getD_eq_getElem?_getD, List.getElem?_eq_getElem hn]; rfl, h.same (R' := { R with on := R.on.set n x }) 2 (by omega) (Fr.setCell w b n _ (by rw [e]; rfl)) ?_ ?_⟩
  · show (w.setCell ⟨b, n, none⟩ (.bool x)).ownsRow 0 4 1 (vs 2) (R.on.set n x).length ((R.on.set n x).map Value.bool)
    rw [e, List.length_set, List.map_set]
    exact own_set ho hn _
  · intro j hj hne w v hr
    rcases j with _ | _ | _ | _ | _ | j
    · exact hr
    · exact hr
    · exact absurd rfl hne
    all_goals first | exact hr | omega
theorem Picks.up {F F' : Nat → Prop} {w w2 : World} {A : Option Addr} {n : Nat} {zs : List Int} (hp : Picks w F A n zs) (hf : Fr F w w2) (hF : ∀ k, F' k → F k ∨ w.heap.size ≤ k) : Picks w2 F' A n zs :=
  ⟨hp.len, (hp.fr hf).rd, fun h0 ad e => ⟨fun e2 => (hF _ e2).elim (hp.own h0 ad e).1 (fun h => by have := (hp.own h0 ad e).2; omega), Nat.lt_of_lt_of_le (hp.own h0 ad e).2 hf.size⟩, hp.b⟩
set_option maxRecDepth 100000 in
set_option maxHeartbeats 1000000 in
theorem rtakes_any (h : IsR w g F R) (A : Option Addr) (n c : Nat) (zs : List Int) (hp : Picks w F A n zs) :
    Calls Try.prog 35 #[.pointer (some ⟨g, 0, none⟩), .slice A n c] w fun e w' => e = .returned (.int .i64 (fTakes R.ds zs).2) ∧ AftR w w' g F R (fTakes R.ds zs).1 := by
  have hst := AftR.stay h
  have hok := h.ok
  have hcp := h.cap
  obtain ⟨vs, h⟩ := h.x
  have c4 : w.cell? ⟨g, 4, none⟩ = some (vs 4) := by simpa using h.blk.cell 4
  have ho : ORow w 3 (vs 4) R.pend.length (R.pend.map (Value.int .i64)) := h.row 4 (by omega)
  cases hpd : R.pend with
  | nil =>
    have hres : fTakes R.ds zs = (R.ds, 0) := by unfold fTakes; rw [show R.ds.pend = [] from hpd]
    rw [hres]
    rw [hpd] at ho
    obtain ⟨A', c', e4, _, _⟩ := ho.reads
    rw [e4] at c4
    clear ho h e4 hres hpd hp
    go_enter Try.func35, Try.ntmps35
    go_wp2_with fail
    go_ret
    exact ⟨rfl, hst⟩
  | cons k l =>
    have hres : fTakes R.ds zs = (fSettle ((R.ds.setPend l).setKey k false) k (pickF zs), k) := by unfold fTakes; rw [show R.ds.pend = k :: l from hpd]
    rw [hres]
    have hll : l.length ≤ 20000 := by have := hcp.pend; rw [hpd] at this; simp at this; omega
    have hkk : k ∈ R.ks := hok.pend k (by rw [hpd]; simp)
    have hix : R.ks.idxOf k < R.on.length := by rw [hok.on]; exact List.idxOf_lt_length_iff.2 hkk
    rw [hpd] at ho
    obtain ⟨b, o, cap, e4, hc1, hc2, hck, _, ht1, ht2⟩ := ho.tail
    rw [e4] at c4
    have hbg : b ≠ g := (h.fo 4 (by omega) b (by rw [e4]; rfl)).2
    have hfz := h.blk.frozen 4
    -- once the tail's value is known
    have main : ∀ v', ((cap = 1 ∧ l.length = 0 ∧ v' = .slice (some ⟨b, o, none⟩) 0 0) ∨ (cap ≠ 1 ∧ v' = .slice (some ⟨b, o + 1, none⟩) l.length (cap - 1))) → ORow w 3 v' l.length (l.map (Value.int .i64)) → v'.ownBlock = some b →
        Calls Try.prog 35 #[.pointer (some ⟨g, 0, none⟩), .slice A n c] w fun e w' => e = .returned (.int .i64 k) ∧ AftR w w' g F R (fSettle ((R.ds.setPend l).setKey k false) k (pickF zs)) := by
      intro v' hv hrow hvb
      have hu := h.upd (R' := { R with pend := l }) 4 (by omega) (Fr.refl _ _) (v' := v') hrow
        (fun j hj hne w v hr => by rcases j with _ | _ | _ | _ | _ | j; exact hr; exact hr; exact hr; exact hr; exact absurd rfl hne; omega) (.inl (by rw [hvb, e4]; rfl))
      generalize hw1 : w.setCell ⟨g, 4, none⟩ v' = w1 at *
      have hok1 : ({ R with pend := l } : RS).ok := ⟨hok.l0, hok.on, hok.puts, fun x hx => hok.pend x (by rw [hpd]; simp [hx])⟩
      have hi1 : IsR w1 g _ { R with pend := l } := ⟨⟨_, hu.1⟩, hok1, ⟨hcp.l, hcp.ks, hcp.puts, hll⟩⟩
      have hfd := fun m => rfind_any (hi1.low (bdrewN (Below.refl _ _) m)) k
      rw [show fFind ({ R with pend := l } : RS).ks k = (R.ks.idxOf k : Nat) from if_pos hkk] at hfd
      have hu1 := hu.1.low (bdrewN (Below.refl _ _) 1)
      have hu2 : Fr F w (w1.drewN 1) := hu.2.trans (Fr.drewN _ _ 1)
      obtain ⟨b2, cc2, e2, f2, q2, hx2⟩ := hu1.off hix false
      have c2 : w1.cell? ⟨g, 2, none⟩ = some (.slice (some ⟨b2, 0, none⟩) R.on.length cc2) := by
        rw [← e2]; simpa using hu.1.blk.cell 2
      have hg2 : g ≠ b2 := fun e => (hu.1.fo 2 (by omega) b2 (by rw [e2]; rfl)).2 e.symm
      have hw1s := hu.2.size
      have hpk1 : Picks (((w1.drewN 1).setCell ⟨b2, R.ks.idxOf k, none⟩ (.bool false))) (Fup F w w1) A n zs := hp.up (Fr.step hu2 (fup_b F w w1) hx2.2 (fun _ e => .inl e)).1 (fup_b F w w1)
      have hi2 : IsR ((w1.drewN 1).setCell ⟨b2, R.ks.idxOf k, none⟩ (.bool false)) g _ { R with pend := l, on := R.on.set (R.ks.idxOf k) false } := ⟨⟨_, hx2.1⟩, ⟨hok.l0, by simpa using hok.on, hok.puts, hok1.pend⟩, ⟨hcp.l, hcp.ks, hcp.puts, hll⟩⟩
      have hse := rsettle_any hi2 k A n c zs hpk1 false
      have k0 : ((w1.drewN 1).setCell ⟨b2, R.ks.idxOf k, none⟩ (.bool false)).cell? ⟨g, 2, none⟩ = some (.slice (some ⟨b2, 0, none⟩) R.on.length cc2) := by
        rw [← e2]; simpa using hx2.1.blk.cell 2
      have hds : ({ R with pend := l, on := R.on.set (R.ks.idxOf k) false } : RS).ds = (R.ds.setPend l).setKey k false := by
        unfold RS.ds DS.setPend DS.setKey
        dsimp only
        rw [keyOf_set _ _ _ hkk hok.on]
      rw [hds] at hse
      have hfin : ∀ w', AftS (((w1.drewN 1).setCell ⟨b2, R.ks.idxOf k, none⟩ (.bool false))) w' g (Fup F w w1) { R with pend := l, on := R.on.set (R.ks.idxOf k) false } (fSettle ((R.ds.setPend l).setKey k false) k (pickF zs)) (restOf R.puts k) → AftR w w' g F R (fSettle ((R.ds.setPend l).setKey k false) k (pickF zs)) := by
        rintro w' ⟨F', R'', a1, a2, a3, _, a5, a6⟩
        have hs := Fr.step hu2 (fup_b F w w1) (hx2.2.trans a5) (fun kk hk => (a6 kk hk).imp id fun e => Nat.le_trans hx2.2.size e)
        exact ⟨F', R'', a1, a2, ⟨a3.l, by rw [a3.ks]; exact Nat.le_succ _, by have := a3.puts; exact Nat.le_succ_of_le this, by rw [a3.pend, hpd]; simp; omega⟩, hs.1, hs.2⟩
      have HFD := Lib.hid hfd; have HSE := Lib.hid hse; have HF := Lib.hid hfin; have HV := Lib.hid hv
      clear hfd hse hfin hx2 hi2 hpk1 hi1 hu hu1 hu2 h hds hp hrow hres ht1 ht2
      generalize hix2 : R.ks.idxOf k = ix at *
      subst hw1
      have hix3 : (ix : Int) < R.on.length := by omega
      rcases HV.out with ⟨hc, hl0, rfl⟩ | ⟨hc, rfl⟩
      · subst hc
        rw [hl0] at c4
        clear HV
        go_enter Try.func35, Try.ntmps35
        go_wp2_with fail
        go_region_held3 (fun w' => w'.cell? ⟨g, 2, none⟩ = some (.slice (some ⟨b2, 0, none⟩) R.on.length cc2)) (first | exact k0 | go_keep) (first | (go_at_call 54; refine (HFD.out 1).mono ?_; rintro e w' ⟨rfl, rfl⟩))
        all_goals
          go_wp2_with fail
          refine HSE.out.mono ?_
          rintro e w' ⟨rfl, h2⟩
          go_wp2_with fail
          go_ret
          exact ⟨rfl, HF.out _ h2⟩
      · have hN0 : ((l.length : Int) + 1 == 0) = false := by simp; omega
        clear HV
        go_enter Try.func35, Try.ntmps35
        go_wp2_with fail
        go_region_held3 (fun w' => w'.cell? ⟨g, 2, none⟩ = some (.slice (some ⟨b2, 0, none⟩) R.on.length cc2)) (first | exact k0 | go_keep) (first | (go_at_call 54; refine (HFD.out 1).mono ?_; rintro e w' ⟨rfl, rfl⟩))
        all_goals
          go_wp2_with fail
          refine HSE.out.mono ?_
          rintro e w' ⟨rfl, h2⟩
          go_wp2_with fail
          go_ret
          exact ⟨rfl, HF.out _ h2⟩
    by_cases hc : cap = 1
    · have hl0 : l.length = 0 := by omega
      exact main _ (.inl ⟨hc, hl0, rfl⟩) (by have := ht1 hc; subst hc; rw [hl0] at this ⊢; exact this) rfl
    · exact main _ (.inr ⟨hc, rfl⟩) (ht2 hc) rfl
end
end Go.Proofs.Ytekgoliakgknjaa
