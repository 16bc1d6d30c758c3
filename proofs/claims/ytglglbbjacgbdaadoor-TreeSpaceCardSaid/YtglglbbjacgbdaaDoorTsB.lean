import Derived.Test.YtglglbbjacgbdaaDoorTsA
namespace Go.Proofs.YtglglbbjacgbdaaDoor
set_option linter.unusedVariables false
set_option linter.unusedSimpArgs false

/-! ### a node turns, a node comes: under a renaming -/
theorem upd_nd (S : TS) (id x : Id) (r : NR) : (S.upd id r).nd x = if x = id then some r else S.nd x := rfl
theorem upd_same (S : TS) (id : Id) (r : NR) : (S.upd id r).nd id = some r := by rw [upd_nd, if_pos rfl]
theorem upd_other (S : TS) {id x : Id} (r : NR) (h : x ≠ id) : (S.upd id r).nd x = S.nd x := by rw [upd_nd, if_neg h]
section
variable {A S : TS} {loc : Nat → Nat}
theorem Ren.upd (h : Ren A S loc) {id : Id} {r0 : NR} (hr : A.nd id = some r0) (r : NR) : Ren (A.upd id r) (S.upd (rnI loc id) (rnR loc r)) loc := by
  obtain ⟨b, i⟩ := id
  refine ⟨h.rm, fun b2 i2 r2 e => ?_, fun id2 r2 e => ?_, fun b1 b2 i1 i2 r1 r2 e1 e2 e => ?_⟩
  · rw [upd_nd] at e ⊢
    split at e
    · rename_i hh
      cases hh; cases e
      exact if_pos rfl
    · rename_i hh
      rw [if_neg (fun e3 => ?_)]
      · exact h.fwd _ _ _ e
      · unfold rnI at e3
        dsimp only at e3
        injection e3 with e4 e5
        have := h.inj b2 b i2 i r2 r0 e hr e4
        exact hh (by rw [this, e5])
  · rw [upd_nd] at e
    split at e
    · rename_i hh
      cases e
      exact ⟨b, r, by rw [hh]; exact upd_same _ _ _, by rw [hh]; rfl⟩
    · rename_i hh
      obtain ⟨b', r', h1, h2⟩ := h.bwd _ _ e
      refine ⟨b', r', ?_, h2⟩
      rw [upd_other _ _ (fun e3 => hh ?_)]
      · exact h1
      · injection e3 with e4 e5
        obtain ⟨x, y⟩ := id2
        dsimp only at *
        rw [h2, e4, e5]; rfl
  · have ex : ∀ bb ii rr, (A.upd (b, i) r).nd (bb, ii) = some rr → ∃ r', A.nd (bb, ii) = some r' := fun bb ii rr e => by
      rw [upd_nd] at e
      split at e
      · rename_i hh; rw [hh]; exact ⟨_, hr⟩
      · exact ⟨_, e⟩
    obtain ⟨r1', e1'⟩ := ex _ _ _ e1
    obtain ⟨r2', e2'⟩ := ex _ _ _ e2
    exact h.inj _ _ _ _ _ _ e1' e2' e
theorem rnL_congr {loc loc' : Nat → Nat} {l : List Ch} (h : ∀ c ∈ l, loc' c.2 = loc c.2) : rnL loc' l = rnL loc l := by
  unfold rnL
  exact List.map_congr_left (fun c hc => by rw [h c hc])
def locU (loc : Nat → Nat) (m N : Nat) : Nat → Nat := fun x => if x = m then N else loc x
theorem Ren.add (h : Ren A S loc) (ho : OkT A 0) {m N : Nat} (hm : ∀ i, A.nd (m, i) = none) (hN : ∀ i, S.nd (N, i) = none) {r : NR} (hl : r.list = []) :
    Ren (A.upd (m, 0) r) (S.upd (N, 0) r) (locU loc m N) ∧ locU loc m N 0 = loc 0 := by
  have hkid : ∀ id r', A.nd id = some r' → rnR (locU loc m N) r' = rnR loc r' := fun id r' e => by
    unfold rnR
    rw [rnL_congr (fun c hc => ?_)]
    obtain ⟨rc, hrc⟩ := ho.kids _ _ e c hc
    exact if_neg (fun e2 => by rw [e2, hm] at hrc; cases hrc)
  have hloc : ∀ b i r', A.nd (b, i) = some r' → locU loc m N b = loc b := fun b i r' e => if_neg (fun e2 => by rw [e2, hm] at e; cases e)
  have hself : locU loc m N m = N := if_pos rfl
  have hrr : rnR (locU loc m N) r = r := by unfold rnR; rw [hl, rnL, List.map_nil, ← hl]
  have hnN : ∀ b i r', A.nd (b, i) = some r' → loc b ≠ N := fun b i r' e e2 => by
    have := h.fwd _ _ _ e
    rw [e2, hN] at this; cases this
  refine ⟨⟨h.rm, fun b2 i2 r2 e => ?_, fun id2 r2 e => ?_, fun b1 b2 i1 i2 r1 r2 e1 e2 e => ?_⟩, ?_⟩
  · rw [upd_nd] at e
    split at e
    · rename_i hh
      cases hh; cases e
      rw [hself, hrr]; exact upd_same _ _ _
    · rw [hloc _ _ _ e, hkid _ _ e, upd_other _ _ (fun e3 => hnN _ _ _ e (by injection e3))]
      exact h.fwd _ _ _ e
  · rw [upd_nd] at e
    split at e
    · rename_i hh
      cases e
      exact ⟨m, r, by rw [hh]; exact upd_same _ _ _, by rw [hh, hself]⟩
    · obtain ⟨b', r', h1, h2⟩ := h.bwd _ _ e
      refine ⟨b', r', ?_, by rw [hloc _ _ _ h1]; exact h2⟩
      rw [upd_other _ _ (fun e3 => ?_)]
      · exact h1
      · have : b' = m := by injection e3
        rw [this, hm] at h1; cases h1
  · rw [upd_nd] at e1 e2
    split at e1
    · rename_i hh
      cases hh
      split at e2
      · rename_i hh; cases hh; rfl
      · rw [hself, hloc _ _ _ e2] at e; exact absurd e.symm (hnN _ _ _ e2)
    · split at e2
      · rename_i hh
        cases hh
        rw [hself, hloc _ _ _ e1] at e; exact absurd e (hnN _ _ _ e1)
      · rw [hloc _ _ _ e1, hloc _ _ _ e2] at e
        exact h.inj _ _ _ _ _ _ e1 e2 e
  · obtain ⟨i, r0, e⟩ := root_in ho
    exact hloc _ _ _ e
/-! ### ranks, when a thing is put under a node -/
open Classical in
theorem rank_put {rk : Nat → Nat} (hr : Ranked A rk) {P : Nat → Prop} (hP : ∀ x r, A.nd (x, 0) = some r → P x → ∀ c ∈ r.list, P c.2) {q b : Nat} (hq : P q) (hb : ¬ P b) {r : NR} (hbr : A.nd (b, 0) = some r) (s : ByteArray) :
    ∃ rk', Ranked (A.upd (b, 0) (putR r s q)) rk' := by
  refine ⟨fun x => if P x then rk x else rk x + rk q + 1, ⟨fun x rx e c hc => ?_⟩⟩
  have old : ∀ y ry, A.nd (y, 0) = some ry → ∀ c ∈ ry.list, (if P c.2 then rk c.2 else rk c.2 + rk q + 1) < (if P y then rk y else rk y + rk q + 1) := fun y ry e c hc => by
    have h1 := hr.down _ _ e c hc
    by_cases hy : P y
    · rw [if_pos (hP _ _ e hy c hc), if_pos hy]; exact h1
    · rw [if_neg hy]; split <;> omega
  rw [upd_nd] at e
  split at e
  · rename_i hh
    cases hh; cases e
    rcases insC_mem (show c ∈ insC _ _ _ from hc) with rfl | hc
    · dsimp only; rw [if_pos hq, if_neg hb]; omega
    · exact old _ _ hbr c hc
  · exact old _ _ e c hc
theorem rank_root {rk : Nat → Nat} (hr : Ranked A rk) {i : Nat} (hi : i ≠ 0) {b : Nat} (r : NR) : Ranked (A.upd (b, i) r) rk := by
  refine ⟨fun x rx e c hc => ?_⟩
  rw [upd_other _ _ (fun e2 => hi (by injection e2 with _ h; exact h.symm))] at e
  exact hr.down _ _ e c hc
theorem rank_sub {rk : Nat → Nat} (hr : Ranked A rk) {id : Id} {r0 r : NR} (h0 : A.nd id = some r0) (hs : ∀ c ∈ r.list, c ∈ r0.list) : Ranked (A.upd id r) rk := by
  refine ⟨fun x rx e c hc => ?_⟩
  rw [upd_nd] at e
  split at e
  · rename_i hh
    cases e
    exact hr.down x r0 (by rw [hh]; exact h0) c (hs c hc)
  · exact hr.down _ _ e c hc
/-! ### the invariant, step by step -/
theorem Inv.upd {n : Nat} (h : Inv A n) {id : Id} {r0 r : NR} (h0 : A.nd id = some r0) (hk : r.kind = r0.kind) (hl : 0 ≤ r.links) (hok : OkN r) (hkid : ∀ c ∈ r.list, ∃ r', A.nd (c.2, 0) = some r') (hfl : id.2 = 0 → r.kind = 1 → r.list = []) (hrk : ∃ rk, Ranked (A.upd id r) rk) : Inv (A.upd id r) n := by
  have hex : ∀ x rx, A.nd x = some rx → ∃ r', (A.upd id r).nd x = some r' := fun x rx hx => by
    rw [upd_nd]; split
    · exact ⟨_, rfl⟩
    · exact ⟨_, hx⟩
  have hdom : ∀ x rx, (A.upd id r).nd x = some rx → ∃ r', A.nd x = some r' := fun x rx hx => by
    rw [upd_nd] at hx
    split at hx
    · rename_i hh; rw [hh]; exact ⟨_, h0⟩
    · exact ⟨_, hx⟩
  refine ⟨⟨fun z hz => ?_, fun i ri e c hc => ?_, fun i ri e => ?_, ?_⟩, fun i ri e => ?_, ⟨fun b rb e => ?_, fun i ri e => ?_⟩, hrk, h.rm, fun b rb e hb => ?_⟩
  · obtain ⟨rz, e, hkz⟩ := h.ok.root z hz
    rw [upd_nd]
    split
    · rename_i hh
      rw [hh, h0] at e; cases e
      exact ⟨r, rfl, by rw [hk]; exact hkz⟩
    · exact ⟨rz, e, hkz⟩
  · rw [upd_nd] at e
    split at e
    · cases e
      obtain ⟨r', e'⟩ := hkid c hc
      exact hex _ _ e'
    · obtain ⟨r', e'⟩ := h.ok.kids _ _ e c hc
      exact hex _ _ e'
  · rw [upd_nd] at e
    split at e
    · cases e; exact hok
    · exact h.ok.okn _ _ e
  · obtain ⟨U, h1, h2⟩ := h.ok.fin
    exact ⟨U, h1, fun b rb e => by obtain ⟨r', e'⟩ := hdom _ _ e; exact h2 _ _ e'⟩
  · obtain ⟨r', e'⟩ := hdom _ _ e
    exact h.dom _ _ e'
  · rw [upd_nd] at e
    split at e
    · rename_i hh; cases e
      rw [hk]; exact h.kd.kd b r0 (by rw [hh]; exact h0)
    · exact h.kd.kd _ _ e
  · rw [upd_nd] at e
    split at e
    · cases e; exact hl
    · exact h.kd.lk _ _ e
  · rw [upd_nd] at e
    split at e
    · rename_i hh; cases e
      exact hfl (by rw [← hh]) hb
    · exact h.fl _ _ e hb
theorem Inv.fresh {n : Nat} (h : Inv A n) (i : Nat) : A.nd (n + 1, i) = none := by
  cases hx : A.nd (n + 1, i) with
  | none => rfl
  | some r =>
    rcases h.dom _ _ hx with ⟨h1, _⟩ | ⟨_, h2, _⟩
    · dsimp only at h1; omega
    · dsimp only at h2; omega
theorem Inv.add {n : Nat} (h : Inv A n) (hn : n + 1 ≤ 1000) {k l : Int} (hk : k = 1 ∨ k = 2) (hl : 0 ≤ l) : Inv (A.upd (n + 1, 0) ⟨k, l, ⟨#[]⟩, []⟩) (n + 1) := by
  have hf := h.fresh 0
  obtain ⟨h1, h2⟩ := okT_add h.ok h.num hn hf k l
  refine ⟨h1, fun i ri e => ?_, kdT_upd h.kd (fun _ => hk) hl, ?_, h.rm, fun b rb e hb => ?_⟩
  · rw [upd_nd] at e
    split at e
    · rename_i hh; rw [hh]; exact .inr ⟨by dsimp only; omega, Nat.le_refl _, rfl⟩
    · rcases h.dom _ _ e with h3 | ⟨h3, h4, h5⟩
      · exact .inl h3
      · exact .inr ⟨h3, by omega, h5⟩
  · obtain ⟨rk, hr⟩ := h.rk
    refine ⟨rk, ⟨fun b rb e c hc => ?_⟩⟩
    rw [upd_nd] at e
    split at e
    · cases e; simp at hc
    · exact hr.down _ _ e c hc
  · rw [upd_nd] at e
    split at e
    · cases e; rfl
    · exact h.fl _ _ e hb
theorem Inv.put {n : Nat} (h : Inv A n) {id : Id} {r r1 : NR} (hr : A.nd id = some r) {s : ByteArray} (hn : hasN r.list s = false) (hs : s.size ≤ 100) (hl : r.list.length < 2000) {q : Nat} (hq : A.nd (q, 0) = some r1) (hk : r.kind ≠ 1)
    (hP : id.2 = 0 → ∃ P : Nat → Prop, (∀ x r, A.nd (x, 0) = some r → P x → ∀ c ∈ r.list, P c.2) ∧ P q ∧ ¬ P id.1) : Inv (A.upd id (putR r s q)) n := by
  refine h.upd hr rfl (show 0 ≤ r.links from h.kd.lk _ _ hr) (okN_put (h.ok.okn _ _ hr) hn hs hl q) (fun c hc => ?_) (fun _ e => absurd e hk) ?_
  · rcases insC_mem (show c ∈ insC _ _ _ from hc) with rfl | hc
    · exact ⟨_, hq⟩
    · exact h.ok.kids _ _ hr c hc
  · obtain ⟨rk, hrk⟩ := h.rk
    obtain ⟨b, i⟩ := id
    by_cases hi : i = 0
    · subst hi
      obtain ⟨P, h1, h2, h3⟩ := hP rfl
      exact rank_put hrk h1 h2 h3 hr s
    · exact ⟨rk, rank_root hrk hi _⟩
theorem Inv.leaf {n : Nat} (h : Inv A n) {id : Id} {r r1 : NR} (hr : A.nd id = some r) {s : ByteArray} (hn : hasN r.list s = false) (hs : s.size ≤ 100) (hl : r.list.length < 2000) {q : Nat} (hq : A.nd (q, 0) = some r1) (hk : r.kind ≠ 1) (hq1 : r1.list = []) (hne : id ≠ (q, 0)) : Inv (A.upd id (putR r s q)) n := by
  refine h.put hr hn hs hl hq hk (fun hi => ⟨fun x => x = q, fun x rx e hx c hc => ?_, rfl, fun e => hne (Prod.ext e hi)⟩)
  subst hx
  rw [hq] at e; cases e
  rw [hq1] at hc; simp at hc
end
section
variable {A S : TS} {loc : Nat → Nat} {n D N : Nat} {l l2 : List ByteArray} {op : Int}
/-! ### makes -/
theorem makes_rn (h : Ren A S loc) (hi : Inv A n) (hN : ∀ i, S.nd (N, i) = none) : ∃ loc', Ren (makesT A 0 D op l (n + 1)).1 (makesT S (loc 0) D op l N).1 loc' ∧ loc' 0 = loc 0 ∧ (makesT S (loc 0) D op l N).2 = (makesT A 0 D op l (n + 1)).2 := by
  unfold makesT
  rw [lastT_rn h hi.ok]
  dsimp only
  by_cases h1 : (lastT A 0 l).2.2 = 0
  · rw [if_neg (fun e => e h1), if_neg (fun e => e h1)]
    obtain ⟨id, r, hid, hr, hk, _⟩ := lastT_some hi.ok h1
    rw [hid]
    dsimp only [Option.map_some]
    have hS := h.fwd id.1 id.2 r hr
    change S.nd (rnI loc id) = _ at hS
    rw [hS, hr]
    dsimp only
    rw [show (rnR loc r).list = rnL loc r.list from rfl, rnL_hasN, fitsT_rn h hi.ok]
    split
    · exact ⟨loc, h, rfl, rfl⟩
    · split
      · exact ⟨loc, h, rfl, rfl⟩
      · obtain ⟨h2, h3⟩ := h.add hi.ok (r := ⟨op, 1, ⟨#[]⟩, []⟩) hi.fresh hN rfl
        refine ⟨locU loc (n + 1) N, ?_, h3, rfl⟩
        have hne : id ≠ (n + 1, 0) := fun e => by rw [e, hi.fresh] at hr; cases hr
        have hne1 : id.1 ≠ n + 1 := fun e => by obtain ⟨a, b⟩ := id; dsimp only at e; subst e; rw [hi.fresh] at hr; cases hr
        have h4 := h2.upd (id := id) (r0 := r) (by rw [upd_other _ _ hne]; exact hr) (putR r (lastT A 0 l).2.1 (n + 1))
        have e1 : rnI (locU loc (n + 1) N) id = rnI loc id := by unfold rnI locU; rw [if_neg hne1]
        have e2 : rnR (locU loc (n + 1) N) (putR r (lastT A 0 l).2.1 (n + 1)) = putR (rnR loc r) (lastT A 0 l).2.1 N := by
          rw [rnR_put, show locU loc (n + 1) N (n + 1) = N from if_pos rfl]
          congr 1
          unfold rnR
          rw [rnL_congr (fun c hc => ?_)]
          obtain ⟨rc, hrc⟩ := hi.ok.kids _ _ hr c hc
          exact if_neg (fun e2 => by rw [e2, hi.fresh] at hrc; cases hrc)
        rw [e1, e2] at h4
        exact h4
  · rw [if_pos h1, if_pos h1]
    exact ⟨loc, h, rfl, rfl⟩
theorem makes_inv (hi : Inv A n) (hn : n + 1 ≤ 1000) (hop : op = 1 ∨ op = 2) (hne : l ≠ []) (hsz : ∀ s ∈ l, s.size ≤ 100) : Inv (makesT A 0 D op l (n + 1)).1 (n + 1) := by
  have up : Inv A (n + 1) := ⟨hi.ok, fun i ri e => by
    rcases hi.dom _ _ e with h | ⟨a, b, c⟩
    · exact .inl h
    · exact .inr ⟨a, by omega, c⟩, hi.kd, hi.rk, hi.rm, hi.fl⟩
  unfold makesT
  by_cases h1 : (lastT A 0 l).2.2 = 0
  · rw [if_neg (fun e => e h1)]
    obtain ⟨id, r, hid, hr, hk, hnm⟩ := lastT_some hi.ok h1
    rw [hid]
    dsimp only
    rw [hr]
    dsimp only
    split
    · exact up
    · rename_i h2
      split
      · exact up
      · rename_i h3
        have hid2 : id ≠ (n + 1, 0) := fun e => by rw [e, hi.fresh] at hr; cases hr
        have hmem : (lastT A 0 l).2.1 ∈ l := by
          have := List.length_pos_iff.2 hne
          rw [hnm, List.getD_eq_getElem?_getD, List.getElem?_eq_getElem (by omega)]; exact List.getElem_mem _
        have h4 := hi.add hn (k := op) (l := 1) hop (by omega)
        refine h4.leaf (r := r) (by rw [upd_other _ _ hid2]; exact hr) (by simpa using h2) (hsz _ hmem) (fits_len (gr := ((lastT A 0 l).2.1.size : Int) + 6) hk (by omega) (Decidable.of_not_not h3)) (upd_same _ _ _) hk rfl hid2
  · rw [if_pos h1]; exact up
/-! ### link -/
theorem walk_b (hi : Inv A n) (hne : l ≠ []) (h1 : (walkT A 0 none l).2 = 0) : ∃ b r, (walkT A 0 none l).1 = some b ∧ A.nd (b, 0) = some r := by
  obtain ⟨b, hb⟩ := walkT_some l none (.inl hne) h1
  obtain ⟨r, hr⟩ := walkT_ok hi.ok l none (fun b e => by cases e) b hb
  exact ⟨b, r, hb, hr⟩
theorem rnI_ne (h : Ren A S loc) {id id' : Id} {r r' : NR} (hr : A.nd id = some r) (hr' : A.nd id' = some r') (hne : id ≠ id') : rnI loc id ≠ rnI loc id' := fun e => by
  unfold rnI at e
  injection e with e1 e2
  exact hne (Prod.ext (h.inj id.1 id'.1 id.2 id'.2 r r' hr hr' e1) e2)
theorem link_rn (h : Ren A S loc) (hi : Inv A n) (hne : l ≠ []) : Ren (linkT A 0 D l l2).1 (linkT S (loc 0) D l l2).1 loc ∧ (linkT S (loc 0) D l l2).2 = (linkT A 0 D l l2).2 := by
  have hw := walkT_rn h hi.ok l none (fun b e => by cases e)
  rw [Option.map_none] at hw
  unfold linkT
  rw [hw, lastT_rn h hi.ok]
  dsimp only
  by_cases h1 : (walkT A 0 none l).2 = 0
  · rw [if_neg (fun e => e h1), if_neg (fun e => e h1)]
    obtain ⟨b, r, hb, hr⟩ := walk_b hi hne h1
    rw [hb]
    dsimp only [Option.map_some]
    rw [h.fwd b 0 r hr, hr]
    dsimp only [rnR]
    split
    · exact ⟨h, rfl⟩
    split
    · exact ⟨h, rfl⟩
    split
    · exact ⟨h, rfl⟩
    rename_i hnf _ h4
    have h4' : (lastT A 0 l2).2.2 = 0 := by simpa using h4
    obtain ⟨id, r2, hid, hr2, hk2, _⟩ := lastT_some hi.ok h4'
    rw [hid]
    dsimp only [Option.map_some]
    have hS := h.fwd id.1 id.2 r2 hr2
    change S.nd (rnI loc id) = _ at hS
    rw [hS, hr2]
    dsimp only
    rw [fitsT_rn h hi.ok, show (rnR loc r2).list = rnL loc r2.list from rfl, rnL_hasN]
    split
    · exact ⟨h, rfl⟩
    split
    · exact ⟨h, rfl⟩
    refine ⟨?_, rfl⟩
    have hne2 : id ≠ (b, 0) := fun e => by
      rw [e, hr] at hr2; cases hr2
      rcases hi.kd.kd _ _ hr with e | e
      · exact hk2 e
      · exact hnf e
    have k1 := h.upd hr { r with links := r.links + 1 }
    have k2 := k1.upd (id := id) (r0 := r2) (by rw [upd_other _ _ hne2]; exact hr2) (putR r2 (lastT A 0 l2).2.1 b)
    rw [rnR_put] at k2
    exact k2
  · rw [if_pos h1, if_pos h1]; exact ⟨h, rfl⟩
theorem link_inv (hi : Inv A n) (hne : l ≠ []) (hne2 : l2 ≠ []) (hsz : ∀ s ∈ l2, s.size ≤ 100) : Inv (linkT A 0 D l l2).1 n := by
  unfold linkT
  split
  · exact hi
  rename_i h1
  have h1' : (walkT A 0 none l).2 = 0 := by simpa using h1
  obtain ⟨b, r, hb, hr⟩ := walk_b hi hne h1'
  rw [hb]
  dsimp only
  rw [hr]
  dsimp only
  split
  · exact hi
  split
  · exact hi
  split
  · exact hi
  rename_i hnf _ h4
  have h4' : (lastT A 0 l2).2.2 = 0 := by simpa using h4
  obtain ⟨id, r2, hid, hr2, hk2, hnm⟩ := lastT_some hi.ok h4'
  rw [hid]
  dsimp only
  rw [hr2]
  dsimp only
  split
  · exact hi
  rename_i h5
  split
  · exact hi
  rename_i h6
  have hf : r.kind = 1 := by rcases hi.kd.kd _ _ hr with e | e; exact e; exact absurd e hnf
  have hid2 : id ≠ (b, 0) := fun e => by rw [e, hr] at hr2; cases hr2; exact hk2 hf
  have hmem : (lastT A 0 l2).2.1 ∈ l2 := by
    have := List.length_pos_iff.2 hne2
    rw [hnm, List.getD_eq_getElem?_getD, List.getElem?_eq_getElem (by omega)]; exact List.getElem_mem _
  have hl0 := hi.fl _ _ hr hf
  have hlk := hi.kd.lk _ _ hr
  have hokr := hi.ok.okn _ _ hr
  obtain ⟨rk, hrk⟩ := hi.rk
  have k1 : Inv (A.upd (b, 0) { r with links := r.links + 1 }) n := hi.upd hr rfl (by dsimp only; omega) ⟨hokr.so, hokr.len, hokr.nm, hokr.dat⟩ (fun c hc => hi.ok.kids _ _ hr c hc) (fun _ _ => hl0) ⟨rk, rank_sub hrk hr (fun c hc => hc)⟩
  exact k1.leaf (r := r2) (by rw [upd_other _ _ hid2]; exact hr2) (by simpa using h5) (hsz _ hmem) (fits_len (gr := ((lastT A 0 l2).2.1.size : Int) + 6) hk2 (by omega) (Decidable.of_not_not h6)) (upd_same _ _ _) hk2 hl0 hid2
end
end Go.Proofs.YtglglbbjacgbdaaDoor
