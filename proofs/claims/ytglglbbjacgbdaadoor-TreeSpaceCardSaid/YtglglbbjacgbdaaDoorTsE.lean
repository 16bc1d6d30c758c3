import Derived.Test.YtglglbbjacgbdaaDoorTsD
namespace Go.Proofs.YtglglbbjacgbdaaDoor
set_option linter.unusedVariables false
set_option linter.unusedSimpArgs false
section
variable {A S : TS} {loc : Nat → Nat} {n D : Nat} {l l2 : List ByteArray} {op : Int}
/-! ### the links, call by call -/
theorem makes_invL (hi : Inv A n) (hl : InvL A n) (hn : n + 1 ≤ 1000) (hop : op = 1 ∨ op = 2) : InvL (makesT A 0 D op l (n + 1)).1 (n + 1) := by
  unfold makesT
  by_cases h1 : (lastT A 0 l).2.2 = 0
  · rw [if_neg (fun e => e h1)]
    obtain ⟨id, r, hid, hr, hk, hnm⟩ := lastT_some hi.ok h1
    rw [hid]
    dsimp only
    rw [hr]
    dsimp only
    split
    · exact hl.succ hi
    split
    · exact hl.succ hi
    have hid2 : id ≠ (n + 1, 0) := fun e => by rw [e, hi.fresh] at hr; cases hr
    have hadd := hi.add hn (k := op) (l := 1) hop (by omega)
    have hr' : (A.upd (n + 1, 0) ⟨op, 1, ⟨#[]⟩, []⟩).nd id = some r := by rw [upd_other _ _ hid2]; exact hr
    have key : ∀ x, namesOf ((A.upd (n + 1, 0) ⟨op, 1, ⟨#[]⟩, []⟩).upd id (putR r (lastT A 0 l).2.1 (n + 1))) (n + 1) x = namesOf A n x + if n + 1 = x then 1 else 0 := fun x => by
      rw [names_put hr' (hadd.mem hr'), names_new hi]
    have cases_ : ∀ b rb, ((A.upd (n + 1, 0) ⟨op, 1, ⟨#[]⟩, []⟩).upd id (putR r (lastT A 0 l).2.1 (n + 1))).nd (b, 0) = some rb → (b = n + 1 ∧ rb.links = 1) ∨ (b ≠ n + 1 ∧ ∃ r0, A.nd (b, 0) = some r0 ∧ rb.links = r0.links ∧ rb.kind = r0.kind) := fun b rb e => by
      rw [upd_nd] at e
      split at e
      · rename_i hh
        cases e
        right
        refine ⟨fun e => hid2 (by rw [← hh, e]), r, by rw [hh]; exact hr, rfl, rfl⟩
      · rw [upd_nd] at e
        split at e
        · rename_i hh
          cases e
          exact .inl ⟨by injection hh, rfl⟩
        · rename_i hh
          exact .inr ⟨fun e => hh (by rw [e]), rb, e, rfl, rfl⟩
    refine ⟨fun b rb e => ?_, fun b rb e hkb => ?_⟩
    · rw [key]
      rcases cases_ b rb e with ⟨rfl, h2⟩ | ⟨h2, r0, h3, h4, _⟩
      · rw [names_none hi, if_pos rfl, h2]; rfl
      · rw [if_neg (fun e => h2 e.symm), h4, hl.lc _ _ h3]; rfl
    · rw [key]
      rcases cases_ b rb e with ⟨rfl, h2⟩ | ⟨h2, r0, h3, h4, h5⟩
      · rw [names_none hi, if_pos rfl]; omega
      · rw [if_neg (fun e => h2 e.symm)]
        have := hl.f1 _ _ h3 (by rw [← h5]; exact hkb)
        omega
  · rw [if_pos h1]; exact hl.succ hi
theorem link_invL (hi : Inv A n) (hl : InvL A n) (hne : l ≠ []) : InvL (linkT A 0 D l l2).1 n := by
  unfold linkT
  split
  · exact hl
  rename_i h1
  have h1' : (walkT A 0 none l).2 = 0 := by simpa using h1
  obtain ⟨b, r, hb, hr⟩ := walk_b hi hne h1'
  rw [hb]
  dsimp only
  rw [hr]
  dsimp only
  split
  · exact hl
  split
  · exact hl
  split
  · exact hl
  rename_i hnf _ h4
  have h4' : (lastT A 0 l2).2.2 = 0 := by simpa using h4
  obtain ⟨id, r2, hid, hr2, hk2, hnm⟩ := lastT_some hi.ok h4'
  rw [hid]
  dsimp only
  rw [hr2]
  dsimp only
  split
  · exact hl
  split
  · exact hl
  have hf : r.kind = 1 := by rcases hi.kd.kd _ _ hr with e | e; exact e; exact absurd e hnf
  have hid2 : id ≠ (b, 0) := fun e => by rw [e, hr] at hr2; cases hr2; exact hk2 hf
  have hr2' : (A.upd (b, 0) { r with links := r.links + 1 }).nd id = some r2 := by rw [upd_other _ _ hid2]; exact hr2
  have key : ∀ x, namesOf ((A.upd (b, 0) { r with links := r.links + 1 }).upd id (putR r2 (lastT A 0 l2).2.1 b)) n x = namesOf A n x + if b = x then 1 else 0 := fun x => by
    rw [names_put hr2' (hi.mem hr2), names_same (r := { r with links := r.links + 1 }) hr (hi.mem hr) rfl]
  have cases_ : ∀ x rx, ((A.upd (b, 0) { r with links := r.links + 1 }).upd id (putR r2 (lastT A 0 l2).2.1 b)).nd (x, 0) = some rx → (x = b ∧ rx.links = r.links + 1 ∧ rx.kind = r.kind) ∨ (x ≠ b ∧ ∃ r0, A.nd (x, 0) = some r0 ∧ rx.links = r0.links ∧ rx.kind = r0.kind) := fun x rx e => by
    rw [upd_nd] at e
    split at e
    · rename_i hh
      cases e
      exact .inr ⟨fun e => hid2 (by rw [← hh, e]), r2, by rw [hh]; exact hr2, rfl, rfl⟩
    · rw [upd_nd] at e
      split at e
      · rename_i hh
        cases e
        exact .inl ⟨by injection hh, rfl, rfl⟩
      · rename_i hh
        exact .inr ⟨fun e => hh (by rw [e]), rx, e, rfl, rfl⟩
  refine ⟨fun x rx e => ?_, fun x rx e hkx => ?_⟩
  · rw [key]
    rcases cases_ x rx e with ⟨rfl, h2, _⟩ | ⟨h2, r0, h3, h4, _⟩
    · rw [if_pos rfl, h2, hl.lc _ _ hr]; omega
    · rw [if_neg (fun e => h2 e.symm), h4, hl.lc _ _ h3]; rfl
  · rw [key]
    rcases cases_ x rx e with ⟨rfl, h2, h3⟩ | ⟨h2, r0, h3, h4, h5⟩
    · rw [h3, hf] at hkx; cases hkx
    · rw [if_neg (fun e => h2 e.symm)]
      have := hl.f1 _ _ h3 (by rw [← h5]; exact hkx)
      omega
/-! ### unlink -/
theorem unlink_inv (hi : Inv A n) (hl : InvL A n) (hne : l ≠ []) : Inv (unlinkT A 0 l).1 n ∧ InvL (unlinkT A 0 l).1 n := by
  unfold unlinkT
  split
  · exact ⟨hi, hl⟩
  rename_i h1
  have h1' : (walkT A 0 none l).2 = 0 := by simpa using h1
  obtain ⟨b, r, hb, hr⟩ := walk_b hi hne h1'
  obtain ⟨id, r2, hid, h5, hr2, hk2, hk, _⟩ := last_b hi hne hb h1'
  rw [hb, hid]
  dsimp only
  rw [hr]
  dsimp only
  split
  · exact ⟨hi, hl⟩
  rw [if_neg (fun e => e h5), hr2]
  dsimp only
  have hne2 := kid_ne hi hr2 hk
  have hok2 := hi.ok.okn _ _ hr2
  have hokr := hi.ok.okn _ _ hr
  obtain ⟨rk, hrk⟩ := hi.rk
  have k1 : Inv (A.upd id (dropR r2 (lastT A 0 l).2.1)) n := by
    refine hi.upd hr2 (dropR_kind _ _).1 (by rw [(dropR_kind _ _).2.1]; exact hi.kd.lk _ _ hr2) (okN_drop hok2 _) (fun c hc => hi.ok.kids _ _ hr2 c (dropR_sub _ _ c hc)) (fun _ e => absurd ((dropR_kind r2 _).1 ▸ e) hk2) ⟨rk, rank_sub hrk hr2 (dropR_sub _ _)⟩
  have hr' : (A.upd id (dropR r2 (lastT A 0 l).2.1)).nd (b, 0) = some r := by rw [upd_other _ _ hne2.symm]; exact hr
  obtain ⟨rk', hrk'⟩ := k1.rk
  have hnb : 1 ≤ namesOf A n b := by
    have hh := kid_hasN hk
    have hlt := (plc_lt hok2.so hh).1
    have he : (r2.list.getD (plc r2.list (lastT A 0 l).2.1) (⟨#[]⟩, 0)).2 = b := by unfold kid at hk; rw [if_pos hh] at hk; exact Option.some.inj hk
    have := names_mem hr2 (hi.mem hr2) (c := r2.list.getD (plc r2.list (lastT A 0 l).2.1) (⟨#[]⟩, 0)) (by rw [getD_get _ _ _ hlt]; exact List.getElem_mem _)
    rwa [he] at this
  have hlb := hl.lc _ _ hr
  have k2 : Inv ((A.upd id (dropR r2 (lastT A 0 l).2.1)).upd (b, 0) { r with links := r.links - 1 }) n :=
    k1.upd hr' rfl (by dsimp only; omega) ⟨hokr.so, hokr.len, hokr.nm, hokr.dat⟩ (fun c hc => k1.ok.kids _ _ hr' c hc) (fun _ e => show r.list = [] from hi.fl _ _ hr e) ⟨rk', rank_sub hrk' hr' (fun c hc => hc)⟩
  refine ⟨k2, ?_⟩
  have key : ∀ x, namesOf ((A.upd id (dropR r2 (lastT A 0 l).2.1)).upd (b, 0) { r with links := r.links - 1 }) n x + (if b = x then 1 else 0) = namesOf A n x := fun x => by
    rw [names_same (r := { r with links := r.links - 1 }) hr' (hi.mem hr) rfl, names_drop hr2 hok2.so (hi.mem hr2) hk]
  have cases_ : ∀ x rx, ((A.upd id (dropR r2 (lastT A 0 l).2.1)).upd (b, 0) { r with links := r.links - 1 }).nd (x, 0) = some rx → (x = b ∧ rx.links = r.links - 1 ∧ rx.kind = r.kind) ∨ (x ≠ b ∧ ∃ r0, A.nd (x, 0) = some r0 ∧ rx.links = r0.links ∧ rx.kind = r0.kind) := fun x rx e => by
    rw [upd_nd] at e
    split at e
    · rename_i hh
      cases e
      exact .inl ⟨by injection hh, rfl, rfl⟩
    · rename_i hh0
      have hxb : x ≠ b := fun e => hh0 (by rw [e])
      rw [upd_nd] at e
      split at e
      · rename_i hh
        cases e
        exact .inr ⟨hxb, r2, by rw [hh]; exact hr2, (dropR_kind _ _).2.1, (dropR_kind _ _).1⟩
      · exact .inr ⟨hxb, rx, e, rfl, rfl⟩
  refine ⟨fun x rx e => ?_, fun x rx e hkx => ?_⟩
  · have := key x
    rcases cases_ x rx e with ⟨rfl, h2, _⟩ | ⟨h2, r0, h3, h4, _⟩
    · rw [if_pos rfl] at this; rw [h2]; omega
    · rw [if_neg (fun e => h2 e.symm)] at this
      rw [h4, hl.lc _ _ h3]; omega
  · have := key x
    rcases cases_ x rx e with ⟨rfl, h2, h3⟩ | ⟨h2, r0, h3, h4, h5⟩
    · have := hl.f1 _ _ hr (by rw [← h3]; exact hkx); omega
    · have := hl.f1 _ _ h3 (by rw [← h5]; exact hkx); omega
/-! ### rename -/
theorem rnI_eq_iff (h : Ren A S loc) {id id' : Id} {r r' : NR} (hr : A.nd id = some r) (hr' : A.nd id' = some r') : rnI loc id = rnI loc id' ↔ id = id' :=
  ⟨fun e => Classical.byContradiction fun hn => rnI_ne h hr hr' hn e, fun e => by rw [e]⟩
theorem rename_rn (h : Ren A S loc) (hi : Inv A n) (hne : l ≠ []) : Ren (renameT A 0 D l l2).1 (renameT S (loc 0) D l l2).1 loc ∧ (renameT S (loc 0) D l l2).2 = (renameT A 0 D l l2).2 := by
  have hw := walkT_rn h hi.ok l none (fun b e => by cases e)
  rw [Option.map_none] at hw
  unfold renameT
  rw [hw, lastT_rn h hi.ok, lastT_rn h hi.ok]
  dsimp only
  by_cases h1 : (walkT A 0 none l).2 = 0
  · rw [if_neg (fun e => e h1), if_neg (fun e => e h1)]
    obtain ⟨b, r, hb, hr⟩ := walk_b hi hne h1
    obtain ⟨old, ro, hold, h5, hro, _, hk, _⟩ := last_b hi hne hb h1
    rw [hb, hold]
    dsimp only [Option.map_some]
    rw [h.fwd b 0 r hr, hr]
    have hSo := h.fwd old.1 old.2 ro hro
    change S.nd (rnI loc old) = _ at hSo
    dsimp only
    by_cases h4 : (lastT A 0 l2).2.2 = 0
    · rw [if_neg (fun e => e h4), if_neg (fun e => e h4)]
      obtain ⟨id, r2, hid, hr2, hk2, _⟩ := lastT_some hi.ok h4
      rw [hid]
      dsimp only [Option.map_some]
      have hS := h.fwd id.1 id.2 r2 hr2
      change S.nd (rnI loc id) = _ at hS
      rw [hS, hr2, hSo, hro]
      dsimp only
      rw [show (rnR loc r2).list = rnL loc r2.list from rfl, rnL_hasN, belowT_rn h hi.ok hr2 D b r hr, show (rnR loc r).kind = r.kind from rfl]
      have hg : growsT (rnI loc old) (rnI loc id) (lastT A 0 l2).2.1 (lastT A 0 l).2.1 = growsT old id (lastT A 0 l2).2.1 (lastT A 0 l).2.1 := by
        unfold growsT
        by_cases he : old = id
        · rw [if_pos he, if_pos (by rw [he])]
        · rw [if_neg he, if_neg (rnI_ne h hro hr2 he)]
      rw [hg, fitsT_rn h hi.ok]
      split
      · exact ⟨h, rfl⟩
      split
      · exact ⟨h, rfl⟩
      split
      · exact ⟨h, rfl⟩
      refine ⟨?_, rfl⟩
      have k1 := h.upd hro (dropR ro (lastT A 0 l).2.1)
      rw [rnR_drop] at k1
      by_cases he : old = id
      · subst he
        rw [hro] at hr2; cases hr2
        rw [if_pos rfl, if_pos rfl]
        have k2 := k1.upd (id := old) (upd_same _ _ _) (putR (dropR ro (lastT A 0 l).2.1) (lastT A 0 l2).2.1 b)
        rw [rnR_put, rnR_drop] at k2
        exact k2
      · rw [if_neg he, if_neg (rnI_ne h hro hr2 he)]
        have k2 := k1.upd (id := id) (r0 := r2) (by rw [upd_other _ _ (Ne.symm he)]; exact hr2) (putR r2 (lastT A 0 l2).2.1 b)
        rw [rnR_put] at k2
        exact k2
    · rw [if_pos h4, if_pos h4]; exact ⟨h, rfl⟩
  · rw [if_pos h1, if_pos h1]; exact ⟨h, rfl⟩
theorem rename_inv (hi : Inv A n) (hl : InvL A n) (hne : l ≠ []) (hne2 : l2 ≠ []) (hsz : ∀ s ∈ l2, s.size ≤ 100) (hD : n ≤ D) : Inv (renameT A 0 D l l2).1 n ∧ InvL (renameT A 0 D l l2).1 n := by
  unfold renameT
  split
  · exact ⟨hi, hl⟩
  rename_i h1
  have h1' : (walkT A 0 none l).2 = 0 := by simpa using h1
  obtain ⟨b, r, hb, hr⟩ := walk_b hi hne h1'
  obtain ⟨old, ro, hold, h5, hro, hko, hk, _⟩ := last_b hi hne hb h1'
  rw [hb, hold]
  dsimp only
  rw [hr]
  dsimp only
  split
  · exact ⟨hi, hl⟩
  rename_i h4
  have h4' : (lastT A 0 l2).2.2 = 0 := by simpa using h4
  obtain ⟨id, r2, hid, hr2, hk2, hnm⟩ := lastT_some hi.ok h4'
  rw [hid]
  dsimp only
  rw [hr2, hro]
  dsimp only
  split
  · exact ⟨hi, hl⟩
  rename_i h6
  split
  · exact ⟨hi, hl⟩
  rename_i h7
  split
  · exact ⟨hi, hl⟩
  rename_i h8
  have hmem : (lastT A 0 l2).2.1 ∈ l2 := by
    have := List.length_pos_iff.2 hne2
    rw [hnm, List.getD_eq_getElem?_getD, List.getElem?_eq_getElem (by omega)]; exact List.getElem_mem _
  have hsm := hsz _ hmem
  have h6' : hasN r2.list (lastT A 0 l2).2.1 = false := by simpa using h6
  have h8' : fitsT A 0 D r2 (growsT old id (lastT A 0 l2).2.1 (lastT A 0 l).2.1) 0 = 0 := by simpa using h8
  generalize (lastT A 0 l2).2.1 = nm at *
  generalize (lastT A 0 l).2.1 = was at *
  have hok2 := hi.ok.okn _ _ hr2
  have hoko := hi.ok.okn _ _ hro
  obtain ⟨rk, hrk⟩ := hi.rk
  have k1 : Inv (A.upd old (dropR ro was)) n := by
    refine hi.upd hro (dropR_kind _ _).1 (by rw [(dropR_kind _ _).2.1]; exact hi.kd.lk _ _ hro) (okN_drop hoko _) (fun c hc => hi.ok.kids _ _ hro c (dropR_sub _ _ c hc)) (fun _ e => absurd ((dropR_kind ro _).1 ▸ e) hko) ⟨rk, rank_sub hrk hro (dropR_sub _ _)⟩
  have hob := kid_ne hi hro hk
  have hr' : (A.upd old (dropR ro was)).nd (b, 0) = some r := by rw [upd_other _ _ hob.symm]; exact hr
  -- the list that takes the name
  obtain ⟨r3, hr3, e3, h6'', hlen3, hk3, hkl3⟩ : ∃ r3, (A.upd old (dropR ro was)).nd id = some r3 ∧ (if old = id then dropR ro was else r2) = r3 ∧ hasN r3.list nm = false ∧ r3.list.length < 2000 ∧ r3.kind ≠ 1 ∧ r3.kind = r2.kind ∧ r3.links = r2.links := by
    by_cases he : old = id
    · subst he
      rw [hro] at hr2; cases hr2
      refine ⟨_, upd_same _ _ _, if_pos rfl, dropR_has h6', ?_, by rw [(dropR_kind _ _).1]; exact hko, (dropR_kind _ _).1, (dropR_kind _ _).2.1⟩
      have := dropR_lt hoko.so (kid_hasN hk)
      have := hoko.len
      omega
    · refine ⟨r2, by rw [upd_other _ _ (Ne.symm he)]; exact hr2, if_neg he, h6', ?_, hk2, rfl, rfl⟩
      have hg : growsT old id nm was = nm.size + 6 := if_neg he
      rw [hg] at h8'
      exact fits_len hk2 (by omega) h8'
  rw [e3]
  have k2 : Inv ((A.upd old (dropR ro was)).upd id (putR r3 nm b)) n := by
    refine k1.put hr3 h6'' hsm hlen3 hr' hk3 (fun hi0 => ?_)
    refine ⟨InB A b, fun x rx e hx c hc => ?_, InB.refl A b, ?_⟩
    · rw [upd_nd] at e
      split at e
      · rename_i hh
        cases e
        exact hx.kid c (by unfold kidsOf; rw [hh, hro]; exact dropR_sub _ _ c hc)
      · exact hx.kid c (by unfold kidsOf; rw [e]; exact hc)
    · have hidb : A.nd (id.1, 0) = some r2 := by rw [← hr2]; congr 1; exact Prod.ext rfl hi0.symm
      rcases hi.kd.kd _ _ hr with hf | hf
      · intro hx
        have hl0 := hi.fl _ _ hr hf
        have := hx (fun y => y = b) rfl (fun y hy c hc => by
          subst hy; unfold kidsOf at hc; rw [hr] at hc; dsimp at hc; rw [hl0] at hc; simp at hc)
        rw [this, hr] at hidb
        cases hidb
        exact hk2 hf
      · have hbf : belowT A id D b = false := by
          cases hx : belowT A id D b with
          | false => rfl
          | true => exact absurd ⟨hf, hx⟩ h7
        obtain ⟨rk1, hk1, hb1⟩ := rank_small hrk hi.ok hi.dom0
        have := hb1 _ _ hr
        refine not_inB hk1 (D := D) (by omega) ?_
        rw [← hbf]; congr 1; exact Prod.ext rfl hi0.symm
  refine ⟨k2, ?_⟩
  have key : ∀ x, namesOf ((A.upd old (dropR ro was)).upd id (putR r3 nm b)) n x = namesOf A n x := fun x => by
    have h1 := names_put hr3 (hi.mem hr2) nm b x
    have h2 := names_drop hro hoko.so (hi.mem hro) hk x
    omega
  have cases_ : ∀ x rx, ((A.upd old (dropR ro was)).upd id (putR r3 nm b)).nd (x, 0) = some rx → ∃ r0, A.nd (x, 0) = some r0 ∧ rx.links = r0.links ∧ rx.kind = r0.kind := fun x rx e => by
    rw [upd_nd] at e
    split at e
    · rename_i hh
      cases e
      exact ⟨r2, by rw [hh]; exact hr2, hkl3.2, hkl3.1⟩
    · rw [upd_nd] at e
      split at e
      · rename_i hh
        cases e
        exact ⟨ro, by rw [hh]; exact hro, (dropR_kind _ _).2.1, (dropR_kind _ _).1⟩
      · exact ⟨rx, e, rfl, rfl⟩
  refine ⟨fun x rx e => ?_, fun x rx e hkx => ?_⟩
  · obtain ⟨r0, h3, h4, _⟩ := cases_ x rx e
    rw [key, h4, hl.lc _ _ h3]
  · obtain ⟨r0, h3, _, h5⟩ := cases_ x rx e
    rw [key]
    exact hl.f1 _ _ h3 (by rw [← h5]; exact hkx)
/-! ### bytes -/
theorem bytes_rn {c : CallV} (h : Ren A S loc) (hi : Inv A n) : Ren (bytesT A 0 D l c).1 (bytesT S (loc 0) D l c).1 loc ∧ (bytesT S (loc 0) D l c).2 = (bytesT A 0 D l c).2 := by
  have hw := walkT_rn h hi.ok l none (fun b e => by cases e)
  rw [Option.map_none] at hw
  unfold bytesT
  rw [hw]
  dsimp only
  split
  · exact ⟨h, rfl⟩
  cases hb : (walkT A 0 none l).1 with
  | none => exact ⟨h, rfl⟩
  | some b =>
    obtain ⟨r, hr⟩ := walkT_ok hi.ok l none (fun b e => by cases e) b hb
    dsimp only [Option.map_some]
    rw [h.fwd b 0 r hr, hr, freeT_rn h hi.ok]
    dsimp only [rnR]
    split
    · exact ⟨h, rfl⟩
    split
    · exact ⟨h, rfl⟩
    split
    · exact ⟨h, rfl⟩
    exact ⟨h.upd hr { r with data := newB c r.data }, rfl⟩
theorem newB_size (c : CallV) (s : ByteArray) (h1 : c.op = 7 → 0 ≤ c.at_ ∧ c.at_ + c.data.size ≤ 6144) (h2 : c.op ≠ 7 → 0 ≤ c.n ∧ c.n ≤ 6144) : ((newB c s).size : Int) = newN c s := by
  have hb : ∀ n : Int, 0 ≤ n → ((baseB s n).size : Int) = n := fun n hn => by
    unfold baseB
    rw [ByteArray.size_append, ByteArray.size_extract]
    have : (zerosB (max (n - s.size) 0).toNat).size = (max (n - s.size) 0).toNat := by
      show (List.replicate _ (0 : UInt8)).toArray.size = _
      rw [List.size_toArray, List.length_replicate]
    rw [this]; omega
  unfold newB newN
  by_cases h : c.op = 7
  · obtain ⟨h3, h4⟩ := h1 h
    rw [if_pos h, if_pos h, ByteArray.size_append, ByteArray.size_append, ByteArray.size_extract, ByteArray.size_extract]
    have := hb (max s.size (c.at_ + c.data.size)) (by omega)
    generalize (baseB s (max s.size (c.at_ + c.data.size))).size = m at *
    omega
  · rw [if_neg h, if_neg h]
    exact hb _ (h2 h).1
theorem bytes_inv {c : CallV} (hi : Inv A n) (hl : InvL A n) (h1 : c.op = 7 → 0 ≤ c.at_ ∧ c.at_ + c.data.size ≤ 6144) (h2 : c.op ≠ 7 → c.op ≠ 6 → 0 ≤ c.n ∧ c.n ≤ 6144) : Inv (bytesT A 0 D l c).1 n ∧ InvL (bytesT A 0 D l c).1 n := by
  unfold bytesT
  split
  · exact ⟨hi, hl⟩
  cases hb : (walkT A 0 none l).1 with
  | none => exact ⟨hi, hl⟩
  | some b =>
    obtain ⟨r, hr⟩ := walkT_ok hi.ok l none (fun b e => by cases e) b hb
    dsimp only
    rw [hr]
    dsimp only
    split
    · exact ⟨hi, hl⟩
    split
    · exact ⟨hi, hl⟩
    rename_i h6
    split
    · exact ⟨hi, hl⟩
    have hokr := hi.ok.okn _ _ hr
    obtain ⟨rk, hrk⟩ := hi.rk
    have hsz := newB_size c r.data h1 (fun h7 => h2 h7 h6)
    have hb : newN c r.data ≤ 10000 := by
      unfold newN
      have := hokr.dat
      split
      · rename_i h7; have := h1 h7; omega
      · rename_i h7; have := h2 h7 h6; omega
    have key : ∀ x, namesOf (A.upd (b, 0) { r with data := newB c r.data }) n x = namesOf A n x := fun x => names_same (r := { r with data := newB c r.data }) hr (hi.mem hr) rfl x
    have cases_ : ∀ x rx, (A.upd (b, 0) { r with data := newB c r.data }).nd (x, 0) = some rx → ∃ r0, A.nd (x, 0) = some r0 ∧ rx.links = r0.links ∧ rx.kind = r0.kind := fun x rx e => by
      rw [upd_nd] at e
      split at e
      · rename_i hh
        cases e
        exact ⟨r, by rw [hh]; exact hr, rfl, rfl⟩
      · exact ⟨rx, e, rfl, rfl⟩
    refine ⟨hi.upd hr rfl (show 0 ≤ r.links from hi.kd.lk _ _ hr) ⟨hokr.so, hokr.len, hokr.nm, by dsimp only; omega⟩ (fun c hc => hi.ok.kids _ _ hr c hc) (fun _ e => show r.list = [] from hi.fl _ _ hr e) ⟨rk, rank_sub hrk hr (fun c hc => hc)⟩, ⟨fun x rx e => ?_, fun x rx e hkx => ?_⟩⟩
    · obtain ⟨r0, h3, h4, _⟩ := cases_ x rx e
      rw [key, h4, hl.lc _ _ h3]
    · obtain ⟨r0, h3, _, h5⟩ := cases_ x rx e
      rw [key]
      exact hl.f1 _ _ h3 (by rw [← h5]; exact hkx)
end
end Go.Proofs.YtglglbbjacgbdaaDoor
