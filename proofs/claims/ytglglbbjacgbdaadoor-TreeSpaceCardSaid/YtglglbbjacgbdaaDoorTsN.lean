import Derived.Test.YtglglbbjacgbdaaDoorTsE
import Derived.Test.YtglglbbjacgbdaaDoorTsI
import Derived.Test.YtglglbbjacgbdaaDoorTsL
import Derived.Test.YtglglbbjacgbdaaDoorTsM
import Derived.Test.YtglglbbjacgbdaaDoorTrY
namespace Go.Proofs.YtglglbbjacgbdaaDoor
open Go.RowKit
set_option linter.unusedVariables false
set_option linter.unusedSimpArgs false

/-! ### a tree of numbered things in memory; R: blocks that are not the tree's -/
structure TA (w : World) (base g : Nat) (A : TS) (R : List Nat) : Prop where
  ex : ∃ S loc vs, Ren A S loc ∧ loc 0 = g ∧ IsT w g S vs ∧ SepT w g S vs ∧ ∀ k, ownT g S vs k → base ≤ k ∧ k ∉ R
section
variable {w w' : World} {base g n D : Nat} {A A' : TS} {R : List Nat}
theorem TA.low (h : TA w base g A R) (hb : Below w.heap.size w w') : TA w' base g A R := by
  obtain ⟨S, loc, vs, h1, h2, h3, h4, h5⟩ := h.ex
  exact ⟨S, loc, vs, h1, h2, h3.low hb, h4.low hb, h5⟩
theorem TA.more (h : TA w base g A R) : TA w base g A (w.heap.size :: R) := by
  obtain ⟨S, loc, vs, h1, h2, h3, h4, h5⟩ := h.ex
  refine ⟨S, loc, vs, h1, h2, h3, h4, fun k hk => ?_⟩
  have := own_lt h3 hk
  obtain ⟨h6, h7⟩ := h5 k hk
  refine ⟨h6, fun hm => ?_⟩
  rcases List.mem_cons.1 hm with e | e
  · omega
  · exact h7 e
theorem TA.lt (h : TA w base g A R) : g < w.heap.size := by
  obtain ⟨S, loc, vs, h1, h2, h3, h4, h5⟩ := h.ex
  exact World.block_lt_of_cell? _ _ h3.rm
theorem TA.step {S S' : TS} {loc' : Nat → Nat} {vs vs' : Id → Value} (h3 : IsT w g S vs) (h5 : ∀ k, ownT g S vs k → base ≤ k ∧ k ∉ R) (hR : ∀ b ∈ R, b < w.heap.size) (hb : base ≤ w.heap.size) (hW : Went w w' g S vs S' vs') (hr : Ren A' S' loc') (hl : loc' 0 = g) :
    TA w' base g A' R ∧ Fr (fun k => base ≤ k ∧ k ∉ R) w w' := by
  refine ⟨⟨S', loc', vs', hr, hl, hW.tree, hW.sep, fun k hk => ?_⟩, hW.fr.mono fun k hk _ => h5 k hk⟩
  rcases hW.own k hk with e | e
  · exact h5 k e
  · exact ⟨by omega, fun hm => by have := hR k hm; omega⟩
/-- read, laid so that Do takes it -/
theorem reads_one (c : CallV) (mx : Int) (l1 l2 : List ByteArray) (h1 : (fSplit c.path).getD [] = l1) (h2 : (fSplit c.dest).getD [] = l2)
    (h : ∀ W : World, W.cell? ⟨0, 0, none⟩ = some (.int .i64 mx) → Calls Tryd.prog 10 #[callV c] W fun e w' => ∃ vf vt, e = .returned (.tuple #[planV c vf vt, .int .i64 0]) ∧ NmV w' vf ((fSplit c.path).getD []) ∧ NmV w' vt ((fSplit c.dest).getD []) ∧ Below W.heap.size W w') : Reads0 c mx l1 l2 := by
  intro W hm
  rw [← h1, ← h2]
  exact h W hm
theorem makes_TA (h : TA w base g A R) (hR : ∀ b ∈ R, b < w.heap.size) (hb : base ≤ w.heap.size) (hi : Inv A n) (hD : n ≤ D) (hD9 : D ≤ 9000) (c : CallV) (mx : Int) (hmx : w.cell? ⟨0, 0, none⟩ = some (.int .i64 mx)) (l1 l2 : List ByteArray) (hrd : Reads0 c mx l1 l2)
    (hne : l1 ≠ []) (hln : l1.length ≤ 100000) (hsz : ∀ s ∈ l1, s.size ≤ 100) (hop : c.op = 1 ∨ c.op = 2) (er : Int) (he : makesT A 0 D c.op l1 (n + 1) = (A', er)) :
    Calls Tryd.prog 7 #[.pointer (some ⟨g, 0, none⟩), callV c] w fun e w' => ∃ A2 m k, e = .returned (repV (failR er) (.slice A2 m k)) ∧ TA w' base g A' R ∧ Fr (fun k => base ≤ k ∧ k ∉ R) w w' := by
  obtain ⟨S, loc, vs, h1, h2, h3, h4, h5⟩ := h.ex
  subst h2
  obtain ⟨rk, hk⟩ := hi.rkT h1 hD hD9
  have ho := h1.okT hi.ok
  have hfresh : ∀ N, w.heap.size ≤ N → ∀ i, S.nd (N, i) = none := fun N hN i => by
    cases hx : S.nd (N, i) with
    | none => rfl
    | some r => have := (h3.node _ _ hx).lt; dsimp only at this; omega
  have hdo : Does 11 (loc 0) S vs c l1 l2 (fun S' rp => ∃ N, (∀ i, S.nd (N, i) = none) ∧ S' = (makesT S (loc 0) D c.op l1 N).1 ∧ rp = failR (makesT S (loc 0) D c.op l1 N).2) w.heap.size := by
    intro W vf vt hB hT hS hv1 hv2
    obtain ⟨At_, nt, ct, hvt, _⟩ := hv2
    refine (makes_any hT hS ho hk c vf vt l1 hln hne hsz hv1 ⟨At_, nt, ct, hvt⟩).mono ?_
    rintro e w' ⟨N, vs', rfl, hW, hN⟩
    exact ⟨_, vs', _, none, 0, 0, rfl, hW, N, hfresh N (by omega), rfl, rfl⟩
  have fin : ∀ (e : Ending) (w' : World), (∃ S' vs' rp A n k, e = .returned (repV rp (.slice A n k)) ∧ Went w w' (loc 0) S vs S' vs' ∧ ∃ N, (∀ i, S.nd (N, i) = none) ∧ S' = (makesT S (loc 0) D c.op l1 N).1 ∧ rp = failR (makesT S (loc 0) D c.op l1 N).2) →
      ∃ A2 m k, e = .returned (repV (failR er) (.slice A2 m k)) ∧ TA w' base (loc 0) A' R ∧ Fr (fun k => base ≤ k ∧ k ∉ R) w w' := by
    rintro e w' ⟨S', vs', rp, A2, m, k, rfl, hW, N, hN, rfl, rfl⟩
    obtain ⟨loc', k1, k2, k3⟩ := makes_rn (D := D) (l := l1) (op := c.op) h1 hi hN
    rw [he] at k1 k3
    rw [k3]
    exact ⟨A2, m, k, rfl, TA.step h3 h5 hR hb hW k1 k2⟩
  rcases hop with hop | hop
  · exact (do_create h3 h4 c mx hmx l1 l2 _ hrd hdo (by rw [hop]; rfl) (by rw [hop]; rfl) (by rw [hop]; rfl)).mono fin
  · exact (do_mkdir h3 h4 c mx hmx l1 l2 _ hrd hdo (by rw [hop]; rfl) (by rw [hop]; rfl) (by rw [hop]; rfl) (by rw [hop]; rfl)).mono fin
theorem link_TA (h : TA w base g A R) (hR : ∀ b ∈ R, b < w.heap.size) (hb : base ≤ w.heap.size) (hi : Inv A n) (hD : n ≤ D) (hD9 : D ≤ 9000) (c : CallV) (mx : Int) (hmx : w.cell? ⟨0, 0, none⟩ = some (.int .i64 mx)) (l1 l2 : List ByteArray) (hrd : Reads0 c mx l1 l2)
    (hne : l1 ≠ []) (hln : l1.length ≤ 100000) (hsz1 : ∀ s ∈ l1, s.size ≤ 1000000) (hne2 : l2 ≠ []) (hln2 : l2.length ≤ 100000) (hsz : ∀ s ∈ l2, s.size ≤ 100) (hop : c.op = 3) (er : Int) (he : linkT A 0 D l1 l2 = (A', er)) :
    Calls Tryd.prog 7 #[.pointer (some ⟨g, 0, none⟩), callV c] w fun e w' => ∃ A2 m k, e = .returned (repV (failR er) (.slice A2 m k)) ∧ TA w' base g A' R ∧ Fr (fun k => base ≤ k ∧ k ∉ R) w w' := by
  obtain ⟨S, loc, vs, h1, h2, h3, h4, h5⟩ := h.ex
  subst h2
  obtain ⟨rk, hk⟩ := hi.rkT h1 hD hD9
  have ho := h1.okT hi.ok
  have hdo : Does 12 (loc 0) S vs c l1 l2 (fun S' rp => S' = (linkT S (loc 0) D l1 l2).1 ∧ rp = failR (linkT S (loc 0) D l1 l2).2) w.heap.size := by
    intro W vf vt hB hT hS hv1 hv2
    refine (link_any hT hS ho hk (h1.kdT hi.kd) c vf vt l1 l2 hln hln2 hne hne2 hsz1 hsz hv1 hv2).mono ?_
    rintro e w' ⟨vs', rfl, hW⟩
    exact ⟨_, vs', _, none, 0, 0, rfl, hW, rfl, rfl⟩
  refine (do_link h3 h4 c mx hmx l1 l2 _ hrd hdo (by rw [hop]; rfl) (by rw [hop]; rfl) (by rw [hop]; rfl) (by rw [hop]; rfl) (by rw [hop]; rfl)).mono ?_
  rintro e w' ⟨S', vs', rp, A2, m, k, rfl, hW, rfl, rfl⟩
  obtain ⟨k1, k3⟩ := link_rn (D := D) (l2 := l2) h1 hi hne
  rw [he] at k1 k3
  rw [k3]
  exact ⟨A2, m, k, rfl, TA.step h3 h5 hR hb hW k1 rfl⟩
theorem bytes_TA (h : TA w base g A R) (hR : ∀ b ∈ R, b < w.heap.size) (hb : base ≤ w.heap.size) (hi : Inv A n) (hD : n ≤ D) (hD9 : D ≤ 9000) (c : CallV) (mx : Int) (hmx : w.cell? ⟨0, 0, none⟩ = some (.int .i64 mx)) (l1 l2 : List ByteArray) (hrd : Reads0 c mx l1 l2)
    (hln : l1.length ≤ 100000) (hsz1 : ∀ s ∈ l1, s.size ≤ 1000000) (hop : c.op = 6 ∨ c.op = 7 ∨ c.op = 8) (hb6 : c.op = 6 → 0 ≤ c.at_ ∧ 0 ≤ c.n) (hb7 : c.op = 7 → 0 ≤ c.at_ ∧ c.at_ + c.data.size ≤ 6144) (hb8 : c.op ≠ 6 → c.op ≠ 7 → 0 ≤ c.n ∧ c.n ≤ 6144) (rp : Rep) (he : bytesT A 0 D l1 c = (A', rp)) :
    Calls Tryd.prog 7 #[.pointer (some ⟨g, 0, none⟩), callV c] w fun e w' => ∃ A2 m k, e = .returned (repV rp (.slice A2 m k)) ∧ TA w' base g A' R ∧ Fr (fun k => base ≤ k ∧ k ∉ R) w w' := by
  obtain ⟨S, loc, vs, h1, h2, h3, h4, h5⟩ := h.ex
  subst h2
  obtain ⟨rk, hk⟩ := hi.rkT h1 hD hD9
  have ho := h1.okT hi.ok
  have hdo : Does 16 (loc 0) S vs c l1 l2 (fun S' rp => S' = (bytesT S (loc 0) D l1 c).1 ∧ rp = (bytesT S (loc 0) D l1 c).2) w.heap.size := by
    intro W vf vt hB hT hS hv1 hv2
    obtain ⟨At_, nt, ct, hvt, _⟩ := hv2
    refine (bytes_any hT hS ho hk (h1.kdT hi.kd) c vf vt l1 hln hsz1 hv1 ⟨At_, nt, ct, hvt⟩ hb6 hb7 hb8).mono ?_
    rintro e w' ⟨vs', rfl, hW⟩
    exact ⟨_, vs', _, none, 0, 0, rfl, hW, rfl, rfl⟩
  have hopF : ∀ x : Int, x ≠ 6 → x ≠ 7 → x ≠ 8 → (c.op == x) = false := fun x h6 h7 h8 => by
    have : c.op ≠ x := by omega
    simpa using this
  refine (do_bytes h3 h4 c mx hmx l1 l2 _ hrd hdo (hopF _ (by omega) (by omega) (by omega)) (hopF _ (by omega) (by omega) (by omega)) (hopF _ (by omega) (by omega) (by omega)) (hopF _ (by omega) (by omega) (by omega)) (hopF _ (by omega) (by omega) (by omega)) (hopF _ (by omega) (by omega) (by omega)) (hopF _ (by omega) (by omega) (by omega)) (hopF _ (by omega) (by omega) (by omega)) (hopF _ (by omega) (by omega) (by omega))).mono ?_
  rintro e w' ⟨S', vs', rp', A2, m, k, rfl, hW, rfl, rfl⟩
  obtain ⟨k1, k3⟩ := bytes_rn (D := D) (l := l1) (c := c) h1 hi
  rw [he] at k1 k3
  rw [k3]
  exact ⟨A2, m, k, rfl, TA.step h3 h5 hR hb hW k1 rfl⟩
theorem stat_TA (h : TA w base g A R) (hR : ∀ b ∈ R, b < w.heap.size) (hb : base ≤ w.heap.size) (hi : Inv A n) (c : CallV) (mx : Int) (hmx : w.cell? ⟨0, 0, none⟩ = some (.int .i64 mx)) (l1 l2 : List ByteArray) (hrd : Reads0 c mx l1 l2)
    (hln : l1.length ≤ 100000) (hsz1 : ∀ s ∈ l1, s.size ≤ 1000000) (hop : c.op = 10) (b : Nat) (r : NR) (hw : walkT A 0 none l1 = (some b, 0)) (hr : A.nd (b, 0) = some r) :
    Calls Tryd.prog 7 #[.pointer (some ⟨g, 0, none⟩), callV c] w fun e w' => ∃ A2 m k, e = .returned (repV ⟨0, ⟨#[]⟩, (klT [r]).1, (klT [r]).2, sizeN r, 0⟩ (.slice A2 m k)) ∧ TA w' base g A R ∧ Fr (fun k => base ≤ k ∧ k ∉ R) w w' := by
  obtain ⟨S, loc, vs, h1, h2, h3, h4, h5⟩ := h.ex
  subst h2
  have ho := h1.okT hi.ok
  have hw2 := walkT_rn h1 hi.ok l1 none (fun b e => by cases e)
  rw [Option.map_none, hw] at hw2
  have hr2 := h1.fwd _ _ _ hr
  have hkl : klT [rnR loc r] = klT [r] := rfl
  have hdo : Does 15 (loc 0) S vs c l1 l2 (fun S' rp => S' = S ∧ rp = ⟨0, ⟨#[]⟩, (klT [r]).1, (klT [r]).2, sizeN r, 0⟩) w.heap.size := by
    intro W vf vt hB hT hS hv1 hv2
    obtain ⟨At_, nt, ct, hvt, _⟩ := hv2
    refine (tell_node hT ho (h1.kdT hi.kd) c vf vt l1 hln hsz1 hv1 ⟨At_, nt, ct, hvt⟩ (loc b) (rnR loc r) hw2 hr2 (by rw [hop]; rfl)).mono ?_
    rintro e w' ⟨rfl, hW⟩
    exact ⟨S, vs, _, none, 0, 0, rfl, Went.low hT hS hW, rfl, by rw [hkl, rnR_size]⟩
  refine (do_stat h3 h4 c mx hmx l1 l2 _ hrd hdo (by rw [hop]; rfl) (by rw [hop]; rfl) (by rw [hop]; rfl) (by rw [hop]; rfl) (by rw [hop]; rfl) (by rw [hop]; rfl) (by rw [hop]; rfl) (by rw [hop]; rfl) (by rw [hop]; rfl)).mono ?_
  rintro e w' ⟨S', vs', rp, A2, m, k, rfl, hW, rfl, rfl⟩
  exact ⟨A2, m, k, rfl, TA.step h3 h5 hR hb hW h1 rfl⟩
theorem rename_TA (h : TA w base g A R) (hR : ∀ b ∈ R, b < w.heap.size) (hb : base ≤ w.heap.size) (hi : Inv A n) (c : CallV) (mx : Int) (hmx : w.cell? ⟨0, 0, none⟩ = some (.int .i64 mx)) (l1 l2 : List ByteArray) (hrd : Reads0 c mx l1 l2)
    (hne : l1 ≠ []) (hln : l1.length ≤ 100000) (hsz1 : ∀ s ∈ l1, s.size ≤ 1000000) (hne2 : l2 ≠ []) (hln2 : l2.length ≤ 100000) (hsz : ∀ s ∈ l2, s.size ≤ 100) (hop : c.op = 5)
    (b : Nat) (r : NR) (hw : walkT A 0 none l1 = (some b, 0)) (hr : A.nd (b, 0) = some r) (hk2 : r.kind = 2) (hla : (lastT A 0 l2).2.2 = 0) (id : Id) (r2 : NR) (hid : (lastT A 0 l2).1 = some id) (hr2 : A.nd id = some r2) (hn2 : hasN r2.list (lastT A 0 l2).2.1 = false) (hl0 : r.list = []) (hbe : belowT A id 1 b = true) :
    Calls Tryd.prog 7 #[.pointer (some ⟨g, 0, none⟩), callV c] w fun e w' => ∃ A2 m k, e = .returned (repV (failR 1) (.slice A2 m k)) ∧ TA w' base g A R ∧ Fr (fun k => base ≤ k ∧ k ∉ R) w w' := by
  obtain ⟨S, loc, vs, h1, h2, h3, h4, h5⟩ := h.ex
  subst h2
  have ho := h1.okT hi.ok
  obtain ⟨rk0, hrk0⟩ := hi.rk
  obtain ⟨rk, hrk, _⟩ := h1.ranked hi.ok hrk0
  have hw2 := walkT_rn h1 hi.ok l1 none (fun b e => by cases e)
  rw [Option.map_none, hw] at hw2
  have hS1 := h1.fwd _ _ _ hr
  have hS2 := h1.fwd id.1 id.2 r2 hr2
  change S.nd (rnI loc id) = _ at hS2
  have hl2 := lastT_rn h1 hi.ok l2
  have hdo : Does 14 (loc 0) S vs c l1 l2 (fun S' rp => S' = S ∧ rp = failR 1) w.heap.size := by
    intro W vf vt hB hT hS hv1 hv2
    refine (rename_below hT hS ho hrk c vf vt l1 l2 hln hln2 hne hne2 hsz1 hsz hv1 hv2 (loc b) (rnR loc r) hw2 hS1 hk2 (by rw [hl2]; exact hla) (rnI loc id) (rnR loc r2) (by rw [hl2, hid]; rfl) hS2 (by rw [hl2, show (rnR loc r2).list = rnL loc r2.list from rfl, rnL_hasN]; exact hn2) 0 (fun x hx => by
      rw [show (rnR loc r).list = rnL loc r.list from rfl, hl0] at hx; simp [rnL] at hx) (by rw [belowT_rn h1 hi.ok hr2 1 b r hr]; exact hbe)).mono ?_
    rintro e w' ⟨rfl, hW⟩
    exact ⟨S, vs, _, none, 0, 0, rfl, hW, rfl, rfl⟩
  refine (do_rename h3 h4 c mx hmx l1 l2 _ hrd hdo (by rw [hop]; rfl) (by rw [hop]; rfl) (by rw [hop]; rfl) (by rw [hop]; rfl) (by rw [hop]; rfl) (by rw [hop]; rfl) (by rw [hop]; rfl)).mono ?_
  rintro e w' ⟨S', vs', rp, A2, m, k, rfl, hW, rfl, rfl⟩
  exact ⟨A2, m, k, rfl, TA.step h3 h5 hR hb hW h1 rfl⟩
theorem free_TA (h : TA w base g A R) (hi : Inv A n) (hD : n ≤ D) (hD9 : D ≤ 9000) : Calls Tryd.prog 9 #[.pointer (some ⟨g, 0, none⟩)] w fun e w' => e = .returned (.int .i64 (freeT A 0 D)) ∧ Below w.heap.size w w' := by
  obtain ⟨S, loc, vs, h1, h2, h3, h4, h5⟩ := h.ex
  subst h2
  obtain ⟨rk, hk⟩ := hi.rkT h1 hD hD9
  have := free_any h3 (h1.okT hi.ok) hk
  rwa [freeT_rn h1 hi.ok] at this
theorem statfs_TA (h : TA w base g A R) (hR : ∀ b ∈ R, b < w.heap.size) (hb : base ≤ w.heap.size) (hi : Inv A n) (hD : n ≤ D) (hD9 : D ≤ 9000) (c : CallV) (mx : Int) (hmx : w.cell? ⟨0, 0, none⟩ = some (.int .i64 mx)) (hop : c.op = 12) :
    Calls Tryd.prog 7 #[.pointer (some ⟨g, 0, none⟩), callV c] w fun e w' => e = .returned (repV ⟨0, ⟨#[]⟩, 0, 0, 0, freeT A 0 D⟩ (.slice none 0 0)) ∧ Below w.heap.size w w' := by
  obtain ⟨S, loc, vs, h1, h2, h3, h4, h5⟩ := h.ex
  subst h2
  obtain ⟨rk, hk⟩ := hi.rkT h1 hD hD9
  refine do_statfs h3 h4 c mx hmx (freeT A 0 D) (fun W hT => ?_) (fun W hm => ?_) (by rw [hop]; rfl) (by rw [hop]; rfl)
  · have := free_any hT (h1.okT hi.ok) hk
    rwa [freeT_rn h1 hi.ok] at this
  · refine (read_early_12 c (by rw [hop]; rfl) (by rw [hop]; rfl) (by rw [hop]; rfl) (by rw [hop]; rfl)).mono ?_
    rintro e w' ⟨rfl, hB⟩
    exact ⟨none, 0, 0, none, 0, 0, rfl, hB⟩
end
/-- a new tree -/
theorem new_inv (room : Int) : Inv (newS room 0) 0 := ⟨new_ok room 0, fun id r e => by
  obtain ⟨h1, h2, _⟩ := newS_nd e
  refine .inl ⟨h1, ?_⟩
  rcases h2 with h2 | h2 | h2 | h2
  · exact ⟨0, by omega, by omega⟩
  · exact ⟨1, by omega, by omega⟩
  · exact ⟨2, by omega, by omega⟩
  · exact ⟨3, by omega, by omega⟩, new_kd room 0, ⟨_, (new_rk room 0).down⟩, (new_rk room 0).rm, fun b r e hk => by
  obtain ⟨_, h2, _⟩ := newS_nd e
  dsimp only at h2
  omega⟩
theorem new_invL (room : Int) : InvL (newS room 0) 0 := ⟨fun b r e => by
  obtain ⟨_, h2, _⟩ := newS_nd e
  dsimp only at h2; omega, fun b r e => by
  obtain ⟨_, h2, _⟩ := newS_nd e
  dsimp only at h2; omega⟩
theorem new_ren (room : Int) (g : Nat) : Ren (newS room 0) (newS room g) (fun x => g) := by
  refine ⟨rfl, fun b i r e => ?_, fun id r e => ?_, fun b b' i i' r r' e e' _ => ?_⟩
  · obtain ⟨h1, h2, rfl⟩ := newS_nd e
    show (if g = g ∧ (i = 1 ∨ i = 5 ∨ i = 9 ∨ i = 13) then some node0 else none) = _
    rw [if_pos ⟨rfl, h2⟩]; rfl
  · obtain ⟨h1, h2, rfl⟩ := newS_nd e
    exact ⟨0, node0, by show (if (0 : Nat) = 0 ∧ _ then some node0 else none) = _; rw [if_pos ⟨rfl, h2⟩], h1⟩
  · obtain ⟨h1, _, _⟩ := newS_nd e
    obtain ⟨h2, _, _⟩ := newS_nd e'
    dsimp only at h1 h2
    omega
theorem new_own {w : World} {room : Int} {g k : Nat} (hk : ownT g (newS room g) (fun _ => .slice none 0 0) k) : k = g := by
  rcases hk with hk | ⟨id, r, e, hk⟩
  · exact hk
  · obtain ⟨h1, _, _⟩ := newS_nd e
    rcases hk with hk | hk
    · rw [hk, h1]
    · simp [Value.ownBlock] at hk
theorem new_TA (room : Int) (w : World) (base : Nat) (R : List Nat) (hb : base ≤ w.heap.size) (hR : ∀ b ∈ R, b < w.heap.size) :
    Calls Tryd.prog 6 #[.int .i64 room] w fun e w' => e = .returned (.pointer (some ⟨w.heap.size, 0, none⟩)) ∧ Below w.heap.size w w' ∧ TA w' base w.heap.size (newS room 0) R := by
  refine (new_any room w).mono ?_
  rintro e w' ⟨rfl, h1, h2, h3⟩
  refine ⟨rfl, h1, _, _, _, new_ren room w.heap.size, rfl, h2, h3, fun k hk => ?_⟩
  have := new_own (w := w) hk
  subst this
  exact ⟨hb, fun hm => by have := hR _ hm; omega⟩
end Go.Proofs.YtglglbbjacgbdaaDoor
