import Derived.Test.YtglglbbjacgbdaaDoorTsB
namespace Go.Proofs.YtglglbbjacgbdaaDoor
set_option linter.unusedVariables false
set_option linter.unusedSimpArgs false

/-! ### a path's last step -/
theorem walkT_cons {S : TS} {g : Nat} (cur : Option Nat) (s : ByteArray) (l : List ByteArray) : walkT S g cur (s :: l) = match listOf S g cur s with
      | none => (cur, 19)
      | some id => match (S.nd id).bind (fun r => kid r.list s) with
        | none => (cur, 12)
        | some b => walkT S g (some b) l := by rw [walkT]; rfl
theorem walkT_app0 {S : TS} {g : Nat} (x : ByteArray) : ∀ (l : List ByteArray) (cur : Option Nat), (walkT S g cur l).2 ≠ 0 → walkT S g cur (l ++ [x]) = walkT S g cur l
  | [], cur, h => absurd rfl h
  | s :: l, cur, h => by
    rw [List.cons_append]
    rw [walkT_cons] at h ⊢
    rw [walkT_cons cur s l]
    cases hl : listOf S g cur s with
    | none => rfl
    | some id =>
      rw [hl] at h
      dsimp only at h ⊢
      cases hb : (S.nd id).bind (fun r => kid r.list s) with
      | none => rfl
      | some b =>
        rw [hb] at h
        exact walkT_app0 x l (some b) h
theorem walkT_app1 {S : TS} {g : Nat} (x : ByteArray) : ∀ (l : List ByteArray) (cur : Option Nat), (walkT S g cur l).2 = 0 → walkT S g cur (l ++ [x]) = walkT S g (walkT S g cur l).1 [x]
  | [], cur, h => rfl
  | s :: l, cur, h => by
    rw [List.cons_append]
    rw [walkT_cons] at h
    rw [walkT_cons cur s (l ++ [x]), walkT_cons cur s l]
    cases hl : listOf S g cur s with
    | none => rw [hl] at h; cases h
    | some id =>
      rw [hl] at h
      dsimp only at h ⊢
      cases hb : (S.nd id).bind (fun r => kid r.list s) with
      | none => rw [hb] at h; cases h
      | some b =>
        rw [hb] at h
        exact walkT_app1 x l (some b) h
theorem walkT_last {S : TS} {g : Nat} {l : List ByteArray} (hne : l ≠ []) {b : Nat} (h : (walkT S g none l).1 = some b) (h2 : (walkT S g none l).2 = 0) :
    ∃ id r, lastT S g l = (some id, l.getD (l.length - 1) ⟨#[]⟩, 0) ∧ S.nd id = some r ∧ kid r.list (l.getD (l.length - 1) ⟨#[]⟩) = some b := by
  have hl : l = l.dropLast ++ [l.getD (l.length - 1) ⟨#[]⟩] := by
    have h0 := List.length_pos_iff.2 hne
    conv => lhs; rw [← List.dropLast_concat_getLast hne]
    rw [List.getLast_eq_getElem, List.getD_eq_getElem?_getD, List.getElem?_eq_getElem (by omega)]; rfl
  generalize l.getD (l.length - 1) ⟨#[]⟩ = x at *
  by_cases h3 : (walkT S g none l.dropLast).2 = 0
  · have hw : walkT S g none l = walkT S g (walkT S g none l.dropLast).1 [x] := by
      conv => lhs; rw [hl]
      exact walkT_app1 x _ _ h3
    rw [hw] at h h2
    unfold lastT
    dsimp only
    rw [if_neg (fun e => e h3)]
    have hx : l.getD (l.length - 1) ⟨#[]⟩ = x := by
      rw [hl]; simp
    rw [hx]
    rw [walkT_cons] at h h2
    cases hlo : listOf S g (walkT S g none l.dropLast).1 x with
    | none => rw [hlo] at h2; simp at h2
    | some id =>
      rw [hlo] at h h2
      dsimp only at h h2
      cases hnd : S.nd id with
      | none => rw [hnd] at h2; simp at h2
      | some r =>
        rw [hnd] at h h2
        dsimp only [Option.bind_some] at h h2
        cases hk : kid r.list x with
        | none => rw [hk] at h2; simp at h2
        | some b' =>
          rw [hk] at h
          dsimp only [walkT] at h
          refine ⟨id, r, rfl, hnd, ?_⟩
          rw [hk]; exact h
  · rw [hl, walkT_app0 x _ _ h3] at h2
    exact absurd h2 h3
theorem kid_hasN {l : List Ch} {s : ByteArray} {b : Nat} (h : kid l s = some b) : hasN l s = true := by
  unfold kid at h
  split at h
  · rename_i hh; exact hh
  · cases h
/-! ### a name goes -/
def dropR (r : NR) (s : ByteArray) : NR := if hasN r.list s = true then { r with list := r.list.eraseIdx (plc r.list s) } else r
theorem dropR_sub (r : NR) (s : ByteArray) : ∀ c ∈ (dropR r s).list, c ∈ r.list := by
  unfold dropR
  split
  · intro c hc; exact List.mem_of_mem_eraseIdx hc
  · intro c hc; exact hc
theorem dropR_kind (r : NR) (s : ByteArray) : (dropR r s).kind = r.kind ∧ (dropR r s).links = r.links ∧ (dropR r s).data = r.data := by
  unfold dropR
  split <;> exact ⟨rfl, rfl, rfl⟩
theorem dropR_len (r : NR) (s : ByteArray) : (dropR r s).list.length ≤ r.list.length := by
  unfold dropR
  split
  · exact List.length_eraseIdx_le _ _
  · exact Nat.le_refl _
theorem dropR_sublist (r : NR) (s : ByteArray) : (dropR r s).list.Sublist r.list := by
  unfold dropR
  split
  · exact List.eraseIdx_sublist _ _
  · exact List.Sublist.refl _
theorem okN_drop {r : NR} (h : OkN r) (s : ByteArray) : OkN (dropR r s) :=
  ⟨List.Pairwise.sublist (dropR_sublist r s) h.so, Nat.le_trans (dropR_len r s) h.len, fun c hc => h.nm c (dropR_sub r s c hc), by rw [(dropR_kind r s).2.2]; exact h.dat⟩
theorem dropR_has {r : NR} {s t : ByteArray} (h : hasN r.list s = false) : hasN (dropR r t).list s = false := by
  rw [Bool.eq_false_iff] at h ⊢
  intro e
  obtain ⟨c, hc, hs⟩ := List.any_eq_true.1 e
  exact h (List.any_eq_true.2 ⟨c, dropR_sub r t c hc, hs⟩)
theorem dropR_lt {r : NR} {s : ByteArray} (hs : SortedC r.list) (h : hasN r.list s = true) : (dropR r s).list.length + 1 = r.list.length := by
  unfold dropR
  rw [if_pos h]
  have := (plc_lt hs h).1
  dsimp only
  rw [List.length_eraseIdx, if_pos this]; omega
theorem rnR_drop (loc : Nat → Nat) (r : NR) (s : ByteArray) : rnR loc (dropR r s) = dropR (rnR loc r) s := by
  unfold dropR
  rw [show (rnR loc r).list = rnL loc r.list from rfl, rnL_hasN, rnL_plc]
  split
  · unfold rnR rnL; dsimp only; rw [map_erase]
  · rfl
/-! ### the other calls, in plain words -/
def unlinkT (S : TS) (g : Nat) (l : List ByteArray) : TS × Int :=
  if (walkT S g none l).2 ≠ 0 then (S, (walkT S g none l).2) else match (walkT S g none l).1 with
  | none => (S, 0)
  | some b => match S.nd (b, 0) with
    | none => (S, 0)
    | some r => if r.list ≠ [] then (S, 20) else
      if (lastT S g l).2.2 ≠ 0 then (S, (lastT S g l).2.2) else match (lastT S g l).1 with
      | none => (S, 0)
      | some id => match S.nd id with
        | none => (S, 0)
        | some r2 => ((S.upd id (dropR r2 (lastT S g l).2.1)).upd (b, 0) { r with links := r.links - 1 }, 0)
def growsT (old id : Id) (nm was : ByteArray) : Int := if old = id then (nm.size : Int) + 6 - (was.size + 6) else nm.size + 6
def renameT (S : TS) (g D : Nat) (l1 l2 : List ByteArray) : TS × Int :=
  if (walkT S g none l1).2 ≠ 0 then (S, (walkT S g none l1).2) else match (walkT S g none l1).1 with
  | none => (S, 0)
  | some b => match S.nd (b, 0) with
    | none => (S, 0)
    | some r => if (lastT S g l2).2.2 ≠ 0 then (S, (lastT S g l2).2.2) else match (lastT S g l2).1 with
      | none => (S, 0)
      | some id => match S.nd id with
        | none => (S, 0)
        | some r2 => if hasN r2.list (lastT S g l2).2.1 = true then (S, 17) else
          if r.kind = 2 ∧ belowT S id D b = true then (S, 1) else match (lastT S g l1).1 with
          | none => (S, 0)
          | some old => match S.nd old with
            | none => (S, 0)
            | some ro => if fitsT S g D r2 (growsT old id (lastT S g l2).2.1 (lastT S g l1).2.1) 0 ≠ 0 then (S, fitsT S g D r2 (growsT old id (lastT S g l2).2.1 (lastT S g l1).2.1) 0)
              else ((S.upd old (dropR ro (lastT S g l1).2.1)).upd id (putR (if old = id then dropR ro (lastT S g l1).2.1 else r2) (lastT S g l2).2.1 b), 0)
def zerosB (n : Nat) : ByteArray := ⟨(List.replicate n 0).toArray⟩
def readB (s : ByteArray) (at_ n : Int) : ByteArray := (s.extract (min at_ s.size).toNat s.size).extract 0 (min n ((s.size : Int) - min at_ s.size)).toNat
def baseB (s : ByteArray) (n : Int) : ByteArray := s.extract 0 (min n s.size).toNat ++ zerosB (max (n - s.size) 0).toNat
def newB (c : CallV) (s : ByteArray) : ByteArray :=
  if c.op = 7 then (baseB s (max s.size (c.at_ + c.data.size))).extract 0 c.at_.toNat ++ c.data ++ (baseB s (max s.size (c.at_ + c.data.size))).extract (c.at_.toNat + c.data.size) (baseB s (max s.size (c.at_ + c.data.size))).size
  else baseB s c.n
def newN (c : CallV) (s : ByteArray) : Int := if c.op = 7 then max s.size (c.at_ + c.data.size) else c.n
def bytesT (S : TS) (g D : Nat) (l : List ByteArray) (c : CallV) : TS × Rep :=
  if (walkT S g none l).2 ≠ 0 then (S, failR (walkT S g none l).2) else match (walkT S g none l).1 with
  | none => (S, failR 18)
  | some b => match S.nd (b, 0) with
    | none => (S, failR 18)
    | some r => if r.kind = 2 then (S, failR 18) else
      if c.op = 6 then (S, ⟨0, readB r.data c.at_ c.n, 0, 0, 0, 0⟩) else
      if freeT S g D < need (newN c r.data) - need r.data.size then (S, failR 15)
      else (S.upd (b, 0) { r with data := newB c r.data }, failR 0)
/-! ### ways down -/
theorem belowT_fuel {S : TS} {rk : Nat → Nat} (hr : Ranked S rk) (lid : Id) : ∀ (f b f' : Nat), rk b ≤ f → rk b ≤ f' → belowT S lid f b = belowT S lid f' b := by
  have nokid : ∀ b, rk b = 0 → kidsOf S b = [] := fun b h0 => by
    unfold kidsOf
    cases hx : S.nd (b, 0) with
    | none => rfl
    | some r =>
      cases hl : r.list with
      | nil => dsimp; exact hl
      | cons c l => have := hr.down b r hx c (by rw [hl]; simp); omega
  have kidlt : ∀ b, ∀ c ∈ kidsOf S b, rk c.2 < rk b := fun b c hc => by
    unfold kidsOf at hc
    cases hx : S.nd (b, 0) with
    | none => rw [hx] at hc; simp at hc
    | some r => rw [hx] at hc; exact hr.down b r hx c hc
  intro f
  induction f with
  | zero =>
    intro b f' h1 h2
    have hk := nokid b (by omega)
    cases f' with
    | zero => rfl
    | succ f' => rw [belowT, belowT, hk]; simp
  | succ f ih =>
    intro b f' h1 h2
    cases f' with
    | zero =>
      have hk := nokid b (by omega)
      rw [belowT, belowT, hk]; simp
    | succ f' =>
      rw [belowT, belowT]
      congr 1
      rw [Bool.eq_iff_iff, List.any_eq_true, List.any_eq_true]
      constructor
      · rintro ⟨c, hc, h⟩
        have := kidlt b c hc
        exact ⟨c, hc, by rw [← ih c.2 f' (by omega) (by omega)]; exact h⟩
      · rintro ⟨c, hc, h⟩
        have := kidlt b c hc
        exact ⟨c, hc, by rw [ih c.2 f' (by omega) (by omega)]; exact h⟩
/-- what lies in b, or is b -/
def InB (S : TS) (b y : Nat) : Prop := ∀ Q : Nat → Prop, Q b → (∀ x, Q x → ∀ c ∈ kidsOf S x, Q c.2) → Q y
theorem InB.refl (S : TS) (b : Nat) : InB S b b := fun Q h _ => h
theorem InB.kid {S : TS} {b x : Nat} (h : InB S b x) : ∀ c ∈ kidsOf S x, InB S b c.2 := fun c hc Q h1 h2 => h2 x (h Q h1 h2) c hc
theorem not_inB {S : TS} {rk : Nat → Nat} (hr : Ranked S rk) {x b D : Nat} (hD : rk b ≤ D) (h : belowT S (x, 0) D b = false) : ¬ InB S b x := by
  intro hi
  have kidlt : ∀ b, ∀ c ∈ kidsOf S b, rk c.2 < rk b := fun b c hc => by
    unfold kidsOf at hc
    cases hx : S.nd (b, 0) with
    | none => rw [hx] at hc; simp at hc
    | some r => rw [hx] at hc; exact hr.down b r hx c hc
  have := hi (fun y => belowT S (x, 0) (rk y + 1) y = false) (by rw [belowT_fuel hr _ _ _ D (by omega) hD]; exact h) (fun y hy c hc => by
    rw [belowT, Bool.or_eq_false_iff, List.any_eq_false] at hy
    have h1 := hy.2 c hc
    have h2 := kidlt y c hc
    rw [belowT_fuel hr _ _ _ (rk y) (by omega) (by omega)]
    simpa using h1)
  rw [belowT] at this
  simp at this
theorem belowT_rn {A S : TS} {loc : Nat → Nat} (h : Ren A S loc) (ho : OkT A 0) {lid : Id} {r0 : NR} (hl : A.nd lid = some r0) : ∀ (f b : Nat) (r : NR), A.nd (b, 0) = some r → belowT S (rnI loc lid) f (loc b) = belowT A lid f b := by
  have key : ∀ b r, A.nd (b, 0) = some r → decide (rnI loc lid = (loc b, 0)) = decide (lid = (b, 0)) := fun b r hr => by
    rw [decide_eq_decide]
    constructor
    · intro e
      unfold rnI at e
      injection e with e1 e2
      exact Prod.ext (h.inj _ _ lid.2 0 r0 r hl hr e1) e2
    · intro e; rw [e]; rfl
  intro f
  induction f with
  | zero => intro b r hr; rw [belowT, belowT]; exact key b r hr
  | succ f ih =>
    intro b r hr
    rw [belowT, belowT, key b r hr, kidsOf_rn h hr]
    congr 1
    unfold rnL
    rw [List.any_map, Bool.eq_iff_iff, List.any_eq_true, List.any_eq_true]
    constructor
    · rintro ⟨c, hc, hx⟩
      obtain ⟨rc, hrc⟩ := kidsOf_in ho c hc
      exact ⟨c, hc, by rw [← ih c.2 rc hrc]; exact hx⟩
    · rintro ⟨c, hc, hx⟩
      obtain ⟨rc, hrc⟩ := kidsOf_in ho c hc
      exact ⟨c, hc, by simp only [Function.comp]; rw [ih c.2 rc hrc]; exact hx⟩
section
variable {A S : TS} {loc : Nat → Nat} {n D : Nat} {l l2 : List ByteArray}
/-! ### unlink -/
theorem last_b (hi : Inv A n) (hne : l ≠ []) {b : Nat} (hb : (walkT A 0 none l).1 = some b) (h1 : (walkT A 0 none l).2 = 0) : ∃ id r2, (lastT A 0 l).1 = some id ∧ (lastT A 0 l).2.2 = 0 ∧ A.nd id = some r2 ∧ r2.kind ≠ 1 ∧ kid r2.list (lastT A 0 l).2.1 = some b ∧ (lastT A 0 l).2.1 = l.getD (l.length - 1) ⟨#[]⟩ := by
  obtain ⟨id, r2, h2, h3, h4⟩ := walkT_last hne hb h1
  have h5 : (lastT A 0 l).2.2 = 0 := by rw [h2]
  obtain ⟨id', r2', e1, e2, e3, e4⟩ := lastT_some hi.ok h5
  rw [h2] at e1
  cases e1
  rw [h3] at e2; cases e2
  exact ⟨id, r2, by rw [h2], h5, h3, e3, by rw [h2]; exact h4, by rw [h2]⟩
theorem kid_ne (hi : Inv A n) {id : Id} {r2 : NR} (hr2 : A.nd id = some r2) {s : ByteArray} {b : Nat} (hk : kid r2.list s = some b) : id ≠ (b, 0) := by
  intro e
  obtain ⟨rk, hrk⟩ := hi.rk
  have hh := kid_hasN hk
  have hlt := (plc_lt (hi.ok.okn _ _ hr2).so hh).1
  have hm : r2.list.getD (plc r2.list s) (⟨#[]⟩, 0) ∈ r2.list := by rw [getD_get _ _ _ hlt]; exact List.getElem_mem _
  have he : (r2.list.getD (plc r2.list s) (⟨#[]⟩, 0)).2 = b := by
    unfold kid at hk; rw [if_pos hh] at hk; exact Option.some.inj hk
  have := hrk.down b r2 (by rw [← e]; exact hr2) _ hm
  rw [he] at this
  omega
theorem unlink_rn (h : Ren A S loc) (hi : Inv A n) (hne : l ≠ []) : Ren (unlinkT A 0 l).1 (unlinkT S (loc 0) l).1 loc ∧ (unlinkT S (loc 0) l).2 = (unlinkT A 0 l).2 := by
  have hw := walkT_rn h hi.ok l none (fun b e => by cases e)
  rw [Option.map_none] at hw
  unfold unlinkT
  rw [hw, lastT_rn h hi.ok]
  dsimp only
  by_cases h1 : (walkT A 0 none l).2 = 0
  · rw [if_neg (fun e => e h1), if_neg (fun e => e h1)]
    obtain ⟨b, r, hb, hr⟩ := walk_b hi hne h1
    obtain ⟨id, r2, hid, h5, hr2, _, hk, _⟩ := last_b hi hne hb h1
    rw [hb, hid]
    dsimp only [Option.map_some]
    rw [h.fwd b 0 r hr, hr]
    have hS := h.fwd id.1 id.2 r2 hr2
    change S.nd (rnI loc id) = _ at hS
    dsimp only
    rw [hS, hr2]
    have hl : ((rnR loc r).list ≠ []) ↔ (r.list ≠ []) := by simp [rnR, rnL]
    dsimp only
    by_cases hl0 : r.list ≠ []
    · rw [if_pos hl0, if_pos (hl.2 hl0)]; exact ⟨h, rfl⟩
    · rw [if_neg hl0, if_neg (fun e => hl0 (hl.1 e)), if_neg (fun e => e h5), if_neg (fun e => e h5)]
      refine ⟨?_, rfl⟩
      have k1 := h.upd hr2 (dropR r2 (lastT A 0 l).2.1)
      have k2 := k1.upd (id := (b, 0)) (r0 := r) (by rw [upd_other _ _ (kid_ne hi hr2 hk).symm]; exact hr) { r with links := r.links - 1 }
      rw [rnR_drop] at k2
      exact k2
  · rw [if_pos h1, if_pos h1]; exact ⟨h, rfl⟩
end
end Go.Proofs.YtglglbbjacgbdaaDoor
