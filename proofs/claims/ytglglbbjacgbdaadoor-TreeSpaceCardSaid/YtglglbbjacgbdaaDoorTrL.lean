import Derived.Test.YtglglbbjacgbdaaDoorTrK
namespace Go.Proofs.YtglglbbjacgbdaaDoor
open Go.RowKit
set_option linter.unusedVariables false
set_option linter.unusedSimpArgs false
attribute [local go_sem] b_max2 b_min2 b_max b_min

/-! ### Free -/
def rootN (S : TS) (g z : Nat) : Int := ((S.nd (g, 1 + z * 4)).map sizeN).getD 0
def rootC (S : TS) (g : Nat) : Nat → Int
  | 0 => 0
  | z + 1 => rootC S g z + need (rootN S g z)
def freeT (S : TS) (g D : Nat) : Int := S.room - rootC S g 4 - costL S (seenL (travR S g D 4))
/-- the ranks of a tree's things: none lies below itself -/
structure RkT (S : TS) (g : Nat) (rk : Nat → Nat) (D : Nat) : Prop where
  down : Ranked S rk
  top : ∀ z, z < 4 → ∀ c ∈ rootL S g z, rk c.2 < D
  low : D ≤ 9000
  rm : 0 ≤ S.room ∧ S.room ≤ 1099511627776
  dom : ∀ x ∈ travR S g D 4, ∃ r, S.nd (x.2, 0) = some r
section
variable {w : World} {g : Nat} {S : TS} {vs : Id → Value} {rk : Nat → Nat} {D : Nat}
theorem rootC_bd (ho : OkT S g) : ∀ z, z ≤ 4 → 0 ≤ rootC S g z ∧ rootC S g z ≤ 2000 * z := by
  intro z
  induction z with
  | zero => intro _; simp [rootC]
  | succ z ih =>
    intro hz
    have h1 := ih (by omega)
    obtain ⟨r, hr, _⟩ := ho.root z (by omega)
    have e : rootN S g z = sizeN r := by unfold rootN; rw [hr]; rfl
    have h2 := sizeN_bd (ho.okn _ r hr)
    have h3 := need_bd (rootN S g z) (by omega)
    rw [rootC]; omega
set_option maxRecDepth 100000 in
set_option maxHeartbeats 2000000 in
theorem free_any (h : IsT w g S vs) (ho : OkT S g) (hk : RkT S g rk D) : Calls Tryd.prog 9 #[.pointer (some ⟨g, 0, none⟩)] w fun e w' => e = .returned (.int .i64 (freeT S g D)) ∧ Below w.heap.size w w' := by
  have hgl : g < w.heap.size := World.block_lt_of_cell? _ _ h.rm
  have hFt : ∀ id r, S.nd id = some r → id.1 < w.heap.size ∧ (∀ k, (vs id).ownBlock = some k → k < w.heap.size) := fun id r e => ⟨(h.node id r e).lt, fun k hk => ((h.node id r e).row.lt k hk).2⟩
  have crm := h.rm
  have hroom := hk.rm
  have hrb := rootC_bd (S := S) (g := g) ho
  have b0 : Below w.heap.size w (w.alloc (.cells #[.int .i64 S.room] 3)) := (Below.refl _ w).alloc (Nat.le_refl _) _
  have k0 : Blk (w.alloc (.cells #[.int .i64 S.room] 3)) w.heap.size 3 #[.int .i64 S.room] := Blk.new _ _ _
  have hmm := @run_makeMap Tryd.prog
  have HRB := Lib.hid hrb; have HFT := Lib.hid hFt; have HMM := Lib.hid hmm
  clear hrb hFt hmm
  go_enter Tryd.func9, Tryd.ntmps9
  go_wp2_with fail
  generalize w.alloc (.cells #[.int .i64 S.room] 3) = w0 at *
  go_loopw [4, 12] (fun _ q wr => ∃ z : Nat, q = .int .i64 z ∧ z ≤ 4 ∧ Blk wr w.heap.size 3 #[.int .i64 (S.room - rootC S g z)] ∧ Below w.heap.size w wr) (fun _ q _ => 4 - (intOf q).toNat)
  case atStart => exact ⟨0, rfl, by omega, by rw [rootC, Int.sub_zero]; exact k0, b0⟩
  case round =>
    clear k0 b0
    obtain ⟨z, rfl, hz, kf, hb⟩ := hrel
    have hT := h.low hb
    by_cases hlt : z < 4
    · obtain ⟨r, hr, _⟩ := ho.root z hlt
      have hN := hT.node _ r hr
      have hok := ho.okn _ r hr
      have hsz := sizeN_bd hok
      have hnd := need_bd (sizeN r) (by omega)
      have hcs := size_any (hN.low (bdrewN (Below.refl _ _) 1)) hok
      have hcn := fun w' => need_any (sizeN r) w' (by omega) (by omega)
      have hb1 := HRB.out z (by omega)
      have hrc : rootC S g (z + 1) = rootC S g z + need (sizeN r) := by rw [rootC]; unfold rootN; rw [hr]; rfl
      generalize hfv : S.room - rootC S g z = fv at *
      have hnew : fv - need (sizeN r) = S.room - rootC S g (z + 1) := by rw [hrc]; omega
      have hfvb : -1000000 ≤ fv ∧ fv ≤ 2000000000000 := by omega
      generalize need (sizeN r) = nd at *
      generalize sizeN r = sz at *
      have u2 : IntKind.i64.wrap (fv - nd) = fv - nd := IntWalk.i64_in _ (by omega)
      have cf : wr.cell? ⟨w.heap.size, 0, none⟩ = some (.int .i64 fv) := kf.cell 0
      have hz4 : (z : Int) < 4 := by omega
      have HNEW := Lib.hid hnew; have HKF := Lib.hid kf; have HB := Lib.hid hb
      clear hnew hfv hrc hb1 hok hN hT hr kf hb
      go_wp2_with fail
      go_region_law (first
        | (go_simp; go_at_call 18; refine hcs.mono ?_; rintro e w1 ⟨rfl, b1⟩; have kb1 := Fr.blk_low b1 (HKF.out.drewN 1); have cb1 : w1.cell? ⟨w.heap.size, 0, none⟩ = some (.int .i64 fv) := kb1.cell 0; have fb1 := kb1.frozen 0; have HB1 := Lib.hid ((bdrewN HB.out 1).trans (b1.mono (by have := HB.out.size; exact this))); have HKB1 := Lib.hid kb1; clear b1 kb1)
        | (go_simp; go_at_call 17; refine (hcn _).mono ?_; rintro e w2 ⟨rfl, rfl⟩))
      all_goals
        have k2 : Blk (w1.setCell ⟨w.heap.size, 0, none⟩ (.int .i64 (fv - nd))) w.heap.size 3 #[.int .i64 (fv - nd)] := HKB1.out.set_ 0 _
        have b2 := HB1.out.setCell (p := ⟨w.heap.size, 0, none⟩) (Nat.le_refl _) (.int .i64 (fv - nd))
        have HK2 := Lib.hid k2; have HB2 := Lib.hid b2
        clear k2 b2 HKB1 HB1 hcs hcn
        go_wp2_with fail
        go_roundw
        case rel => exact ⟨z + 1, vint (by omega), by omega, by rw [← HNEW.out]; exact HK2.out, HB2.out⟩
        case measure => simp [intOf]; omega
    · obtain rfl : z = 4 := by omega
      have hb4 := HRB.out 4 (Nat.le_refl _)
      have hbs := hb.size
      have hgl3 := kf.lt
      -- the map, its box
      have hmk := HMM.out 52 wr
      have bA : Below wr.heap.size wr ((wr.alloc (.map #[] 0)).alloc (.cells #[.map (some wr.heap.size)] 52)) := ((Below.refl _ wr).alloc (Nat.le_refl _) _).alloc (by simp) _
      have hIM : IM ((wr.alloc (.map #[] 0)).alloc (.cells #[.map (some wr.heap.size)] 52)) wr.heap.size (mapL (seenL [])) := (IM.new wr).low ((Below.refl _ _).alloc (Nat.le_refl _) _)
      have hka : Blk ((wr.alloc (.map #[] 0)).alloc (.cells #[.map (some wr.heap.size)] 52)) (wr.heap.size + 1) 52 #[.map (some wr.heap.size)] := by
        have := Blk.new (wr.alloc (.map #[] 0)) 52 #[.map (some wr.heap.size)]
        simpa using this
      have hkb := Fr.blk_low bA kf
      have hJ0 : JF w g S vs (wr.heap.size + 1) w.heap.size wr.heap.size (S.room - rootC S g 4) [] ((wr.alloc (.map #[] 0)).alloc (.cells #[.map (some wr.heap.size)] 52)) :=
        ⟨hT.low bA, hIM, hka, by simpa [seenL, costL] using hkb, fun k hk => by simp [seenL] at hk, hb.trans (bA.mono hbs), by omega, Nat.le_refl _, hbs⟩
      have hSees : Sees g S vs (fun k => k = wr.heap.size ∨ k = w.heap.size) (travR S g D 4) (JF w g S vs (wr.heap.size + 1) w.heap.size wr.heap.size (S.room - rootC S g 4)) (see50 (wr.heap.size + 1) w.heap.size) :=
        ⟨fun pre W h => h.tree, fun pre W W' h hb => h.low hb, fun pre x W hj hp => see50_step ho (by omega) (by omega) (by omega) HFT.out hgl (by omega) x (hk.dom x (hp.subset (by simp))) hj⟩
      have heach := each50_any (w := (wr.alloc (.map #[] 0)).alloc (.cells #[.map (some wr.heap.size)] 52)) (wr.heap.size + 1) w.heap.size D hSees ho rk hk.down hk.top hk.low (by rintro q (e | e) <;> simp <;> omega) hJ0
      have HE := Lib.hid heach
      clear heach hSees hJ0 hka hkb hIM bA hT kf hb4
      go_wp2_with fail
      refine HE.out.mono ?_
      rintro e w9 ⟨rfl, hJ9, _⟩
      have c9 : w9.cell? ⟨w.heap.size, 0, none⟩ = some _ := hJ9.kb.cell 0
      have hb9 := hJ9.be
      have hfe : S.room - rootC S g 4 - costL S (seenL (travR S g D 4)) = freeT S g D := rfl
      rw [hfe] at c9
      change w9.cell? ⟨w.heap.size, 0, none⟩ = some (.int .i64 (freeT S g D)) at c9
      have HB9 := Lib.hid hb9
      obtain ⟨fr, hfr⟩ : ∃ fr, freeT S g D = fr := ⟨_, rfl⟩
      rw [hfr] at c9
      have HFRE := Lib.hid hfr
      clear hJ9 HE hb9 hfe hfr
      go_wp2_with fail
      go_ret
      exact ⟨ret_int HFRE.out.symm, HB9.out⟩
end
end Go.Proofs.YtglglbbjacgbdaaDoor
