import Derived.Test.YtglglbbjacgbdaaDoorTrX
namespace Go.Proofs.YtglglbbjacgbdaaDoor
set_option linter.unusedVariables false
set_option linter.unusedSimpArgs false

/-! ### one tree, its blocks renamed -/
def rnL (loc : Nat → Nat) (l : List Ch) : List Ch := l.map fun c => (c.1, loc c.2)
def rnR (loc : Nat → Nat) (r : NR) : NR := { r with list := rnL loc r.list }
def rnI (loc : Nat → Nat) (id : Id) : Id := (loc id.1, id.2)
structure Ren (A S : TS) (loc : Nat → Nat) : Prop where
  rm : S.room = A.room
  fwd : ∀ b i r, A.nd (b, i) = some r → S.nd (loc b, i) = some (rnR loc r)
  bwd : ∀ id r, S.nd id = some r → ∃ b r0, A.nd (b, id.2) = some r0 ∧ id.1 = loc b
  inj : ∀ b b' i i' r r', A.nd (b, i) = some r → A.nd (b', i') = some r' → loc b = loc b' → b = b'
section
variable {A S : TS} {loc : Nat → Nat}
theorem rnL_length (l : List Ch) : (rnL loc l).length = l.length := by simp [rnL]
theorem rnL_hasN (l : List Ch) (s : ByteArray) : hasN (rnL loc l) s = hasN l s := by simp [hasN, rnL, List.any_map, Function.comp_def]
theorem rnL_plc (l : List Ch) (s : ByteArray) : plc (rnL loc l) s = plc l s := by simp [plc, rnL, List.countP_map, Function.comp_def]
theorem rnL_sum (l : List Ch) : sumN (rnL loc l) = sumN l := by simp [sumN, rnL, List.map_map, Function.comp_def]
theorem rnR_size (r : NR) : sizeN (rnR loc r) = sizeN r := by simp [sizeN, rnR, rnL_sum]
theorem rnL_getD (l : List Ch) (i : Nat) (h : i < l.length) : (rnL loc l).getD i (⟨#[]⟩, 0) = ((l.getD i (⟨#[]⟩, 0)).1, loc (l.getD i (⟨#[]⟩, 0)).2) := by
  rw [getD_get _ _ _ (by rw [rnL_length]; exact h), getD_get _ _ _ h]; simp [rnL]
theorem rnL_sorted {l : List Ch} (h : SortedC l) : SortedC (rnL loc l) := by
  unfold SortedC rnL at *
  rw [List.pairwise_map]
  exact h
theorem rnL_kid {l : List Ch} (h : SortedC l) (s : ByteArray) : kid (rnL loc l) s = (kid l s).map loc := by
  unfold kid
  rw [rnL_hasN, rnL_plc]
  split
  · rename_i hh
    rw [rnL_getD _ _ (plc_lt h hh).1]; rfl
  · rfl
theorem rnL_ins (l : List Ch) (i : Nat) (s : ByteArray) (q : Nat) : rnL loc (insC l i (s, q)) = insC (rnL loc l) i (s, loc q) := by simp [rnL, insC, List.map_take, List.map_drop]
theorem rnR_put (r : NR) (s : ByteArray) (q : Nat) : rnR loc (putR r s q) = putR (rnR loc r) s (loc q) := by
  unfold rnR putR
  dsimp only
  rw [rnL_ins, rnL_plc]
theorem Ren.at (h : Ren A S loc) {b i0 : Nat} {r0 : NR} (hb : A.nd (b, i0) = some r0) (i : Nat) : S.nd (loc b, i) = (A.nd (b, i)).map (rnR loc) := by
  cases hx : A.nd (b, i) with
  | some r => rw [h.fwd b i r hx]; rfl
  | none =>
    cases hy : S.nd (loc b, i) with
    | none => rfl
    | some r =>
      obtain ⟨b', r', h1, h2⟩ := h.bwd _ _ hy
      dsimp only at h1 h2
      have e := h.inj b b' i0 i r0 r' hb h1 h2
      rw [← e, hx] at h1; cases h1
theorem root_in (ho : OkT A 0) : ∃ i r, A.nd (0, i) = some r := by
  obtain ⟨r, h, _⟩ := ho.root 0 (by omega)
  exact ⟨_, r, h⟩
theorem Ren.root (h : Ren A S loc) (ho : OkT A 0) (i : Nat) : S.nd (loc 0, i) = (A.nd (0, i)).map (rnR loc) := by
  obtain ⟨i0, r0, h0⟩ := root_in ho
  exact h.at h0 i
theorem listOf_rn (h : Ren A S loc) (ho : OkT A 0) {cur : Option Nat} (hc : CurOK A cur) (s : ByteArray) : listOf S (loc 0) (cur.map loc) s = (listOf A 0 cur s).map (rnI loc) := by
  cases cur with
  | none => rfl
  | some b =>
    obtain ⟨r, hr⟩ := hc b rfl
    have e : (S.nd (loc b, 0)).map NR.kind = (A.nd (b, 0)).map NR.kind := by rw [h.fwd b 0 r hr, hr]; rfl
    show (if (S.nd (loc b, 0)).map NR.kind = some 1 then none else some (loc b, 0)) = Option.map (rnI loc) (if (A.nd (b, 0)).map NR.kind = some 1 then none else some (b, 0))
    rw [e]
    split <;> rfl
theorem walkT_rn (h : Ren A S loc) (ho : OkT A 0) : ∀ (l : List ByteArray) (cur : Option Nat), CurOK A cur → walkT S (loc 0) (cur.map loc) l = ((walkT A 0 cur l).1.map loc, (walkT A 0 cur l).2)
  | [], cur, _ => rfl
  | s :: rest, cur, hc => by
    unfold walkT
    rw [listOf_rn h ho hc]
    cases hl : listOf A 0 cur s with
    | none => rfl
    | some id =>
      obtain ⟨r, hr⟩ := listOf_ok ho hc hl
      dsimp only [Option.map_some, rnI]
      rw [h.fwd id.1 id.2 r hr, hr]
      dsimp only [Option.bind_some, rnR]
      rw [rnL_kid (ho.okn _ _ hr).so]
      cases hk : kid r.list s with
      | none => rfl
      | some b =>
        dsimp only [Option.map_some]
        exact walkT_rn h ho rest (some b) (fun b' e => by cases e; exact kid_ok ho hr hk)
theorem lastT_rn (h : Ren A S loc) (ho : OkT A 0) (l : List ByteArray) : lastT S (loc 0) l = ((lastT A 0 l).1.map (rnI loc), (lastT A 0 l).2.1, (lastT A 0 l).2.2) := by
  have hw := walkT_rn h ho l.dropLast none (fun b e => by cases e)
  rw [Option.map_none] at hw
  unfold lastT
  dsimp only
  rw [hw]
  dsimp only
  split
  · rfl
  · rw [listOf_rn h ho (walkT_ok ho _ _ (fun b e => by cases e))]
    cases listOf A 0 (walkT A 0 none l.dropLast).1 (l.getD (l.length - 1) ⟨#[]⟩) <;> rfl
theorem kidsOf_rn (h : Ren A S loc) {b : Nat} {r : NR} (hr : A.nd (b, 0) = some r) : kidsOf S (loc b) = rnL loc (kidsOf A b) := by
  unfold kidsOf
  rw [h.fwd b 0 r hr, hr]; rfl
theorem kidsOf_in (ho : OkT A 0) {b : Nat} : ∀ c ∈ kidsOf A b, ∃ r, A.nd (c.2, 0) = some r := by
  intro c hc
  unfold kidsOf at hc
  cases hx : A.nd (b, 0) with
  | none => rw [hx] at hc; simp at hc
  | some r => rw [hx] at hc; exact ho.kids _ _ hx c hc
theorem trav_rn (h : Ren A S loc) (ho : OkT A 0) : ∀ (f : Nat) (p : ByteArray) (l : List Ch), (∀ c ∈ l, ∃ r, A.nd (c.2, 0) = some r) → trav S f p (rnL loc l) = (trav A f p l).map fun x => (x.1, loc x.2)
  | 0, _, _, _ => rfl
  | f + 1, p, [], _ => by rw [trav_nil]; exact trav_nil _ _ _
  | f + 1, p, c :: l, hl => by
    have e : ∀ (S : TS) (c : Ch) (l : List Ch), trav S (f + 1) p (c :: l) = (subP p c, c.2) :: trav S f (subP p c) (kidsOf S c.2) ++ trav S (f + 1) p l := fun S c l => by rw [trav, List.flatMap_cons, trav]
    have ih := trav_rn h ho (f + 1) p l (fun c hc => hl c (by simp [hc]))
    obtain ⟨r, hr⟩ := hl c (by simp)
    have ih2 := trav_rn h ho f (subP p c) (kidsOf A c.2) (kidsOf_in ho)
    rw [show rnL loc (c :: l) = (c.1, loc c.2) :: rnL loc l from rfl, e, ih]
    dsimp only
    rw [kidsOf_rn h hr, show subP p (c.1, loc c.2) = subP p c from rfl, ih2, e]
    simp
theorem rootL_rn (h : Ren A S loc) (ho : OkT A 0) (z : Nat) : rootL S (loc 0) z = rnL loc (rootL A 0 z) := by
  unfold rootL
  rw [h.root ho]
  cases A.nd (0, 1 + z * 4) <;> rfl
theorem rootL_in (ho : OkT A 0) (z : Nat) : ∀ c ∈ rootL A 0 z, ∃ r, A.nd (c.2, 0) = some r := by
  intro c hc
  unfold rootL at hc
  cases hx : A.nd (0, 1 + z * 4) with
  | none => rw [hx] at hc; simp at hc
  | some r => rw [hx] at hc; exact ho.kids _ _ hx c hc
theorem travR_rn (h : Ren A S loc) (ho : OkT A 0) (D : Nat) : ∀ z, travR S (loc 0) D z = (travR A 0 D z).map fun x => (x.1, loc x.2)
  | 0 => rfl
  | z + 1 => by
    rw [travR, travR, List.map_append, travR_rn h ho D z, rootL_rn h ho, trav_rn h ho D _ _ (rootL_in ho z)]
theorem trav_in (ho : OkT A 0) : ∀ (f : Nat) (p : ByteArray) (l : List Ch), (∀ c ∈ l, ∃ r, A.nd (c.2, 0) = some r) → ∀ x ∈ trav A f p l, ∃ r, A.nd (x.2, 0) = some r
  | 0, _, _, _, x, hx => by simp [trav] at hx
  | f + 1, p, l, hl, x, hx => by
    rw [trav, List.mem_flatMap] at hx
    obtain ⟨c, hc, hx⟩ := hx
    rcases List.mem_cons.1 hx with rfl | hx
    · exact hl c hc
    · exact trav_in ho f _ _ (kidsOf_in ho) x hx
theorem travR_in (ho : OkT A 0) (D : Nat) : ∀ z, ∀ x ∈ travR A 0 D z, ∃ r, A.nd (x.2, 0) = some r
  | 0, x, hx => by simp [travR] at hx
  | z + 1, x, hx => by
    rw [travR, List.mem_append] at hx
    rcases hx with hx | hx
    · exact travR_in ho D z x hx
    · exact trav_in ho D _ _ (rootL_in ho z) x hx
theorem seen_rn (hinj : ∀ b b' r r', A.nd (b, 0) = some r → A.nd (b', 0) = some r' → loc b = loc b' → b = b') : ∀ (pre : List (ByteArray × Nat)) (acc : List Nat), (∀ x ∈ pre, ∃ r, A.nd (x.2, 0) = some r) → (∀ x ∈ acc, ∃ r, A.nd (x, 0) = some r) →
    (pre.map fun x => (x.1, loc x.2)).foldl seenStep (acc.map loc) = (pre.foldl seenStep acc).map loc
  | [], acc, _, _ => rfl
  | x :: pre, acc, hp, ha => by
    rw [List.map_cons, List.foldl_cons, List.foldl_cons]
    obtain ⟨r, hr⟩ := hp x (by simp)
    have hs : seenStep (acc.map loc) (x.1, loc x.2) = (seenStep acc x).map loc := by
      unfold seenStep
      dsimp only
      by_cases hm : x.2 ∈ acc
      · rw [if_pos hm, if_pos (List.mem_map_of_mem hm)]
      · rw [if_neg hm, if_neg, List.map_append]; rfl
        intro hm2
        obtain ⟨y, hy, e⟩ := List.mem_map.1 hm2
        obtain ⟨r', hr'⟩ := ha y hy
        exact hm (by rw [← hinj y x.2 r' r hr' hr e]; exact hy)
    rw [hs]
    refine seen_rn hinj pre _ (fun y hy => hp y (by simp [hy])) (fun y hy => ?_)
    unfold seenStep at hy
    split at hy
    · exact ha y hy
    · rcases List.mem_append.1 hy with hy | hy
      · exact ha y hy
      · rw [List.mem_singleton.1 hy]; exact ⟨r, hr⟩
theorem seenL_rn (h : Ren A S loc) (pre : List (ByteArray × Nat)) (hp : ∀ x ∈ pre, ∃ r, A.nd (x.2, 0) = some r) : seenL (pre.map fun x => (x.1, loc x.2)) = (seenL pre).map loc :=
  seen_rn (fun b b' r r' h1 h2 e => h.inj b b' 0 0 r r' h1 h2 e) pre [] hp (fun x hx => by simp at hx)
theorem costL_rn (h : Ren A S loc) : ∀ (l : List Nat), (∀ x ∈ l, ∃ r, A.nd (x, 0) = some r) → costL S (l.map loc) = costL A l
  | [], _ => rfl
  | x :: l, hl => by
    obtain ⟨r, hr⟩ := hl x (by simp)
    have ih := costL_rn h l (fun y hy => hl y (by simp [hy]))
    have e : costB S (loc x) = costB A x := by
      unfold costB sizeB
      rw [h.fwd x 0 r hr, hr]
      dsimp only [Option.map_some, Option.getD_some]
      rw [rnR_size]
    unfold costL at *
    rw [List.map_cons, List.map_cons, List.sum_cons, List.map_cons, List.sum_cons, ih, e]
theorem seenL_in {pre : List (ByteArray × Nat)} {P : Nat → Prop} (hp : ∀ x ∈ pre, P x.2) : ∀ x ∈ seenL pre, P x := by
  have key : ∀ (pre : List (ByteArray × Nat)) (acc : List Nat), (∀ x ∈ pre, P x.2) → (∀ x ∈ acc, P x) → ∀ x ∈ pre.foldl seenStep acc, P x := by
    intro pre
    induction pre with
    | nil => intro acc _ ha; exact ha
    | cons y pre ih =>
      intro acc hp ha
      rw [List.foldl_cons]
      refine ih _ (fun x hx => hp x (by simp [hx])) (fun x hx => ?_)
      unfold seenStep at hx
      split at hx
      · exact ha x hx
      · rcases List.mem_append.1 hx with hx | hx
        · exact ha x hx
        · rw [List.mem_singleton.1 hx]; exact hp y (by simp)
  exact key pre [] hp (fun x hx => by simp at hx)
theorem rootC_rn (h : Ren A S loc) (ho : OkT A 0) : ∀ z, rootC S (loc 0) z = rootC A 0 z
  | 0 => rfl
  | z + 1 => by
    rw [rootC, rootC, rootC_rn h ho z]
    congr 2
    unfold rootN
    rw [h.root ho]
    cases A.nd (0, 1 + z * 4) with
    | none => rfl
    | some r => exact rnR_size r
theorem freeT_rn (h : Ren A S loc) (ho : OkT A 0) (D : Nat) : freeT S (loc 0) D = freeT A 0 D := by
  unfold freeT
  rw [h.rm, rootC_rn h ho, travR_rn h ho, seenL_rn h _ (travR_in ho D 4), costL_rn h _ (seenL_in (P := fun x => ∃ r, A.nd (x, 0) = some r) (travR_in ho D 4))]
theorem fitsT_rn (h : Ren A S loc) (ho : OkT A 0) (D : Nat) (r : NR) (gr be : Int) : fitsT S (loc 0) D (rnR loc r) gr be = fitsT A 0 D r gr be := by
  unfold fitsT
  rw [rnR_size, freeT_rn h ho]
/-! ### what a renaming carries over -/
theorem Ren.okT (h : Ren A S loc) (ho : OkT A 0) : OkT S (loc 0) := by
  have back : ∀ id r, S.nd id = some r → ∃ b r0, A.nd (b, id.2) = some r0 ∧ id.1 = loc b ∧ r = rnR loc r0 := fun id r e => by
    obtain ⟨b, r0, h1, h2⟩ := h.bwd id r e
    refine ⟨b, r0, h1, h2, ?_⟩
    have := h.fwd b id.2 r0 h1
    rw [← h2, e] at this
    exact Option.some.inj this
  refine ⟨fun z hz => ?_, fun id r e c hc => ?_, fun id r e => ?_, ?_⟩
  · obtain ⟨r, e, hk⟩ := ho.root z hz
    exact ⟨_, h.fwd _ _ _ e, hk⟩
  · obtain ⟨b, r0, h1, h2, rfl⟩ := back id r e
    obtain ⟨c0, hc0, rfl⟩ := List.mem_map.1 (show c ∈ rnL loc r0.list from hc)
    obtain ⟨r', e'⟩ := ho.kids _ _ h1 c0 hc0
    exact ⟨_, h.fwd _ _ _ e'⟩
  · obtain ⟨b, r0, h1, h2, rfl⟩ := back id r e
    have hk := ho.okn _ _ h1
    refine ⟨rnL_sorted hk.so, ?_, fun c hc => ?_, hk.dat⟩
    · show (rnL loc r0.list).length ≤ 2000; rw [rnL_length]; exact hk.len
    · obtain ⟨c0, hc0, rfl⟩ := List.mem_map.1 (show c ∈ rnL loc r0.list from hc)
      exact hk.nm c0 hc0
  · obtain ⟨U, h1, h2⟩ := ho.fin
    refine ⟨U.map loc, by simpa using h1, fun b r e => ?_⟩
    obtain ⟨b0, r0, h3, h4⟩ := h.bwd _ _ e
    dsimp only at h3 h4
    rw [h4]
    exact List.mem_map_of_mem (h2 b0 r0 h3)
theorem Ren.kdT (h : Ren A S loc) (hk : KdT A) : KdT S := by
  refine ⟨fun b r e => ?_, fun id r e => ?_⟩
  · obtain ⟨b0, r0, h1, h2⟩ := h.bwd _ _ e
    dsimp only at h1 h2
    have h3 := h.fwd _ _ _ h1
    rw [← h2, e] at h3
    cases h3
    show r0.kind = 1 ∨ r0.kind = 2
    exact hk.kd _ _ h1
  · obtain ⟨b0, r0, h1, h2⟩ := h.bwd _ _ e
    have h3 := h.fwd _ _ _ h1
    rw [← h2, e] at h3
    cases h3
    show 0 ≤ r0.links
    exact hk.lk _ _ h1
open Classical in
theorem Ren.ranked (h : Ren A S loc) (ho : OkT A 0) {rk : Nat → Nat} (hr : Ranked A rk) : ∃ rk', Ranked S rk' ∧ ∀ b r, A.nd (b, 0) = some r → rk' (loc b) = rk b := by
  have hex : ∀ b r, A.nd (b, 0) = some r → (if hx : ∃ b', (∃ r', A.nd (b', 0) = some r') ∧ loc b = loc b' then rk hx.choose else 0) = rk b := fun b r e => by
    have hx : ∃ b', (∃ r', A.nd (b', 0) = some r') ∧ loc b = loc b' := ⟨b, ⟨r, e⟩, rfl⟩
    rw [dif_pos hx]
    obtain ⟨⟨r', h1⟩, h2⟩ := hx.choose_spec
    exact congrArg rk (h.inj b _ 0 0 r r' e h1 h2).symm
  refine ⟨fun x => if hx : ∃ b', (∃ r', A.nd (b', 0) = some r') ∧ x = loc b' then rk hx.choose else 0, ⟨fun b r e c hc => ?_⟩, hex⟩
  obtain ⟨b0, r0, h1, h2⟩ := h.bwd _ _ e
  dsimp only at h1 h2
  have h3 := h.fwd _ _ _ h1
  rw [← h2, e] at h3
  cases h3
  obtain ⟨c0, hc0, rfl⟩ := List.mem_map.1 (show c ∈ rnL loc r0.list from hc)
  obtain ⟨rc, hrc⟩ := ho.kids _ _ h1 c0 hc0
  rw [h2]
  have e1 := hex b0 r0 h1
  have e2 := hex c0.2 rc hrc
  dsimp only
  rw [e1, e2]
  exact hr.down _ _ h1 c0 hc0
/-- ranks can be small: not more than there are nodes -/
theorem rank_small {rk : Nat → Nat} (hr : Ranked A rk) (ho : OkT A 0) {n : Nat} (hn : ∀ b r, A.nd (b, 0) = some r → 1 ≤ b ∧ b ≤ n) : ∃ rk', Ranked A rk' ∧ ∀ b r, A.nd (b, 0) = some r → rk' b < n := by
  let U := (List.range n).map (· + 1)
  have hU : U.length ≤ n := by simp [U]
  have hm : ∀ b r, A.nd (b, 0) = some r → b ∈ U := fun b r e => by
    have := hn b r e
    simp only [U, List.mem_map, List.mem_range]
    exact ⟨b - 1, by omega, by omega⟩
  refine ⟨fun b => U.countP fun u => decide (rk u < rk b), ⟨fun b r e c hc => ?_⟩, fun b r e => ?_⟩
  · have h1 := hr.down _ _ e c hc
    obtain ⟨rc, hrc⟩ := ho.kids _ _ e c hc
    have hcu := hm _ _ hrc
    have key : ∀ (V : List Nat), V.countP (fun u => decide (rk u < rk c.2)) ≤ V.countP (fun u => decide (rk u < rk b)) := fun V => List.countP_mono_left (fun u _ hu => by simp at hu ⊢; omega)
    obtain ⟨s, t, hst⟩ := List.append_of_mem hcu
    show U.countP (fun u => decide (rk u < rk c.2)) < U.countP (fun u => decide (rk u < rk b))
    rw [hst, List.countP_append, List.countP_append, List.countP_cons_of_neg (p := fun u => decide (rk u < rk c.2)) (by simp), List.countP_cons_of_pos (p := fun u => decide (rk u < rk b)) (by simpa using h1)]
    have := key s
    have := key t
    omega
  · obtain ⟨s, t, hst⟩ := List.append_of_mem (hm b r e)
    have hl : U.length = s.length + (t.length + 1) := by rw [hst]; simp
    show U.countP (fun u => decide (rk u < rk b)) < n
    rw [hst, List.countP_append, List.countP_cons_of_neg (by simp)]
    have h1 : List.countP (fun u => decide (rk u < rk b)) s ≤ s.length := List.countP_le_length
    have h2 : List.countP (fun u => decide (rk u < rk b)) t ≤ t.length := List.countP_le_length
    omega
end
/-! ### a tree of numbered things: what holds of it all the way -/
structure Inv (A : TS) (n : Nat) : Prop where
  ok : OkT A 0
  dom : ∀ id r, A.nd id = some r → (id.1 = 0 ∧ ∃ z, z < 4 ∧ id.2 = 1 + z * 4) ∨ (1 ≤ id.1 ∧ id.1 ≤ n ∧ id.2 = 0)
  kd : KdT A
  rk : ∃ rk, Ranked A rk
  rm : 0 ≤ A.room ∧ A.room ≤ 1099511627776
  fl : ∀ b r, A.nd (b, 0) = some r → r.kind = 1 → r.list = []
theorem Inv.dom0 {A : TS} {n : Nat} (h : Inv A n) : ∀ b r, A.nd (b, 0) = some r → 1 ≤ b ∧ b ≤ n := fun b r e => by
  rcases h.dom _ _ e with ⟨_, z, _, hz⟩ | ⟨h1, h2, _⟩
  · dsimp only at hz; omega
  · exact ⟨h1, h2⟩
theorem Inv.num {A : TS} {n : Nat} (h : Inv A n) : NumT A n := by
  refine ⟨(List.range n).map (· + 1), by simp, fun b r e => ?_⟩
  have := h.dom0 b r e
  simp only [List.mem_map, List.mem_range]
  exact ⟨b - 1, by omega, by omega⟩
/-- the ranks that the contracts ask for, of the tree in memory -/
theorem Inv.rkT {A S : TS} {loc : Nat → Nat} {n D : Nat} (h : Inv A n) (hr : Ren A S loc) (hn : n ≤ D) (hD : D ≤ 9000) : ∃ rk, RkT S (loc 0) rk D := by
  obtain ⟨rk0, hk0⟩ := h.rk
  obtain ⟨rk1, hk1, hb⟩ := rank_small hk0 h.ok h.dom0
  obtain ⟨rk, hk, he⟩ := hr.ranked h.ok hk1
  refine ⟨rk, hk, fun z hz c hc => ?_, hD, by rw [hr.rm]; exact h.rm, fun x hx => ?_⟩
  · rw [rootL_rn hr h.ok] at hc
    obtain ⟨c0, hc0, rfl⟩ := List.mem_map.1 hc
    obtain ⟨r, e⟩ := rootL_in h.ok z c0 hc0
    have h1 := he _ _ e
    have h2 := hb _ _ e
    dsimp only
    omega
  · rw [travR_rn hr h.ok] at hx
    obtain ⟨x0, hx0, rfl⟩ := List.mem_map.1 hx
    obtain ⟨r, e⟩ := travR_in h.ok D 4 x0 hx0
    exact ⟨_, hr.fwd _ _ _ e⟩
end Go.Proofs.YtglglbbjacgbdaaDoor
