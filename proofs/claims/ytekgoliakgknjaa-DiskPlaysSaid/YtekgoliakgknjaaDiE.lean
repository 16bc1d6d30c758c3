import Derived.Test.YtekgoliakgknjaaDiD
namespace Go.Proofs.Ytekgoliakgknjaa
open Go.RowKit
set_option linter.unusedVariables false
attribute [local go_sem] b_max2 b_min2 b_max b_min

theorem put_info : (Try.prog.info? 77).map (fun i => (i.zero, i.size, i.bytes)) = some (some (.agg #[.int .i64 0, .string ⟨#[]⟩]), 2, 24) := by kernel_rfl
def DS.setCache (d : DS) (k : Int) (l : List Put) : DS := { d with caches := fun j => if j = k then l else d.caches j }
section
variable {w w' : World} {g : Nat} {F : Nat → Prop} {d : DS}
theorem IsD.cache (h : IsD w g F d) (k : Int) : ∃ (cb : Nat) (v : Value), w.cell? ⟨g, 2, none⟩ = some (.map (some cb)) ∧
    (∀ w', Fr (fun _ => False) w w' → (Instr.lookup 67 (.map (some cb)) (.int .i64 k) false).run Try.prog w' = .ok v w') ∧
    w.ownsRow 0 77 2 v (d.caches k).length (cellsW (d.caches k)) ∧ v.ownBlock ≠ some g ∧
    ∀ w1 v' l', Fr (fun j => v.ownBlock = some j) w w1 → w1.ownsRow 0 77 2 v' l'.length (cellsW l') → l' ≠ [] → (v'.ownBlock = v.ownBlock ∨ ∃ j, v'.ownBlock = some j ∧ w.heap.size ≤ j) →
      ∃ w2, (Instr.mapUpdate 67 (.map (some cb)) (.int .i64 k) v').run Try.prog w1 = .ok () w2 ∧ w2.cell? ⟨g, 2, none⟩ = some (.map (some cb)) ∧ Aft w w2 g F (d.setCache k l') := by
  obtain ⟨vl, vp, kb, cb, cv, h1, h2, h3, h4, h5, h6, h7, h8, h9, h10, h11, h12, h13, h14, h15, h16, h17, h18⟩ := h.form
  refine ⟨cb, (cv k).getD (.slice none 0 0), h1.cell 2, fun w' hf => (h11.keep hf (fun h => h)).look Try.underlying67 Try.underlying3 (Try.zeroValue75 _) k, h12 k, fun e => (h16 k g e).2.1 rfl, fun w1 v' l' hf ho hne hv => ?_⟩
  have hcb : ¬ ((cv k).getD (.slice none 0 0)).ownBlock = some cb := fun e => (h16 k cb e).2.2.2.1 rfl
  have hF : ∀ j, ((cv k).getD (.slice none 0 0)).ownBlock = some j → F j := fun j hj => (h16 k j hj).1
  obtain ⟨w2, r1, r2, r3, r4⟩ := (h11.keep hf hcb).store Try.underlying67 Try.underlying3 k v'
  have hsz := hf.size
  have hv2 : ∀ j, v'.ownBlock = some j → (F j ∨ (w.heap.size ≤ j ∧ j < w1.heap.size)) ∧ j ≠ g ∧ j ≠ kb ∧ j ≠ cb ∧ vl.ownBlock ≠ some j ∧ vp.ownBlock ≠ some j ∧ ∀ x, x ≠ k → ((cv x).getD (.slice none 0 0)).ownBlock ≠ some j := by
    intro j hj
    rcases hv with e | ⟨i, e, hi⟩
    · rw [e] at hj
      obtain ⟨a1, a2, a3, a4, a5, a6⟩ := h16 k j hj
      exact ⟨.inl a1, a2, a3, a4, a5, a6, fun x hx hxj => h17 x k j hx hxj hj⟩
    · rw [e] at hj
      obtain rfl := Option.some.inj hj
      have hlt := (World.ownsRow.lt ho i e).2
      have hno : ∀ j, F j → j ≠ i := fun j hj e => by have := h.fb j hj; omega
      refine ⟨.inr ⟨hi, hlt⟩, fun e => hno _ h2 e.symm, fun e => hno _ h3 e.symm, fun e => hno _ h4 e.symm, fun e => hno _ (h13 i e).1 rfl, fun e => hno _ (h14 i e).1 rfl, fun x hx e => hno _ (h16 x i e).1 rfl⟩
  have hfF : Fr F w w1 := hf.mono (fun j hj _ => hF j hj)
  have r3F : Fr F w1 w2 := r3.mono (fun j hj _ => by subst hj; exact h4)
  refine ⟨w2, r1, (r3.blk (hf.blk h1 (fun e => (h16 k g e).2.1 rfl)) h6).cell 2, fun j => F j ∨ (w.heap.size ≤ j ∧ j < w1.heap.size), ⟨⟨vl, vp, kb, cb, fun x => if x = k then some v' else cv x, ?_, .inl h2, .inl h3, .inl h4, h5, h6, h7, ?_, ?_, ?_, r2, ?_, ?_, ?_, h15, ?_, ?_, ?_⟩, ?_, h.cap⟩, hfF.trans r3F, ?_⟩
  · exact r3.blk (hf.blk h1 (fun e => (h16 k g e).2.1 rfl)) h6
  · exact r3.own (hf.own h8 (fun j hj e => (h16 k j e).2.2.2.2.1 hj)) (fun j hj e => (h13 j hj).2.2.2 e)
  · exact (h9.keep hf (fun j hj e => (h16 k j e).2.2.2.2.2 hj)).keep r3 (fun j hj e => (h14 j hj).2.2.2 e)
  · exact (h10.keep hf (fun e => (h16 k kb e).2.2.1 rfl)).keep r3 h7
  · intro x
    by_cases hx : x = k
    · subst hx
      simp only [DS.setCache, if_pos]
      exact r3.own ho (fun j hj e => (hv2 j hj).2.2.2.1 e)
    · simp only [DS.setCache, if_neg hx]
      exact r3.own (hf.own (h12 x) (fun j hj e => h17 x k j hx hj e)) (fun j hj e => (h16 x j hj).2.2.2.1 e)
  · exact fun j hj => ⟨.inl (h13 j hj).1, (h13 j hj).2⟩
  · exact fun j hj => ⟨.inl (h14 j hj).1, (h14 j hj).2⟩
  · intro x j hj
    dsimp only at hj
    by_cases hx : x = k
    · rw [if_pos hx] at hj
      obtain ⟨a1, a2, a3, a4, a5, a6, _⟩ := hv2 j hj
      exact ⟨a1, a2, a3, a4, a5, a6⟩
    · rw [if_neg hx] at hj
      exact ⟨.inl (h16 x j hj).1, (h16 x j hj).2⟩
  · intro x y j hxy hj hj2
    dsimp only at hj hj2
    by_cases hx : x = k
    · rw [if_pos hx] at hj
      rw [if_neg (fun e => hxy (hx.trans e.symm))] at hj2
      exact (hv2 j hj).2.2.2.2.2.2 y (fun e => hxy (hx.trans e.symm)) hj2
    · rw [if_neg hx] at hj
      by_cases hy : y = k
      · rw [if_pos hy] at hj2
        exact (hv2 j hj2).2.2.2.2.2.2 x hx hj
      · rw [if_neg hy] at hj2
        exact h17 x y j hxy hj hj2
  · intro x hx
    dsimp only at hx
    by_cases hxk : x = k
    · simp only [DS.setCache, if_pos hxk]; exact hne
    · rw [if_neg hxk] at hx
      simp only [DS.setCache, if_neg hxk]; exact h18 x hx
  · intro j hj
    rw [r4]
    rcases hj with hj | hj
    · have := h.fb j hj; omega
    · exact hj.2
  · intro j hj
    rcases hj with hj | hj
    · exact .inl hj
    · exact .inr hj.1
theorem Aft.pre {wa : World} (hb : Below w.heap.size w wa) (h : Aft wa w' g F d) : Aft w w' g F d := by
  obtain ⟨F', h1, h2, h3⟩ := h
  exact ⟨F', h1, (Fr.of_below hb F).trans h2, fun k hk => (h3 k hk).imp id (fun h => Nat.le_trans hb.size h)⟩
/-- a write of a key's cache -/
def fWrite (d : DS) (k s : Int) (t : ByteArray) : DS × Int :=
  (if fMay d k s (oddB t) = 0 then d.setCache k (d.caches k ++ [(s.toNat, t)]) else d, fMay d k s (oddB t))
theorem may_zero {d : DS} {k s : Int} {o : Bool} (h : fMay d k s o = 0) : 0 ≤ s ∧ s < d.lies.length ∧ o = false ∧ (d.keys k).getD false = true := by
  unfold fMay at h
  by_cases h1 : s < 0 ∨ (d.lies.length : Int) ≤ s ∨ o = true
  · rw [if_pos h1] at h; omega
  · rw [if_neg h1] at h
    refine ⟨by omega, by omega, ?_, ?_⟩
    · cases o
      · rfl
      · exact absurd (.inr (.inr rfl)) h1
    · cases hk : (d.keys k).getD false
      · rw [hk] at h; simp at h
      · rfl
set_option maxRecDepth 100000 in
set_option maxHeartbeats 1000000 in
theorem write_any (h : IsD w g F d) (k s : Int) (t : ByteArray) (hl : (d.caches k).length ≤ 1000) :
    Calls Try.prog 14 #[.pointer (some ⟨g, 0, none⟩), .int .i64 k, .int .i64 s, .string t] w fun e w' => e = .returned (.int .i64 (fWrite d k s t).2) ∧ Aft w w' g F (fWrite d k s t).1 := by
  obtain ⟨i0, hi, hz0, hz1, hz2⟩ := info_parts put_info
  have hA := h.alloc (.cells #[.string t] 9)
  have hm := may_any hA k s (some ⟨w.heap.size, 0, none⟩) 1 1 [t] rfl ((Reads.new w #[.string t] 9 1 rfl rfl).more (by simp)) (by omega)
  rw [show [t].any oddB = oddB t by simp] at hm
  generalize hfm : fMay d k s (oddB t) = m at *
  have hlow : Below w.heap.size w (w.alloc (.cells #[.string t] 9)) := (Below.refl _ w).alloc (Nat.le_refl _) _
  have hres : fWrite d k s t = (if m = 0 then d.setCache k (d.caches k ++ [(s.toNat, t)]) else d, m) := by rw [fWrite, hfm]
  rw [hres]
  clear hres
  by_cases h0 : m = 0
  · rw [if_pos h0]
    obtain ⟨s0, s1, s2, s3⟩ := may_zero (hfm.trans h0)
    obtain ⟨n, rfl⟩ := Int.eq_ofNat_of_zero_le s0
    have e0 : (m == 0) = true := by simp [h0]
    clear h0 s1 s2 s3 s0
    obtain ⟨cb, v, c2, hlk, ho, hvg, hst⟩ := hA.cache k
    generalize hww : w.alloc (.cells #[.string t] 9) = wa at *
    have HW := Lib.hid hww; clear hww
    obtain ⟨A, c, rfl, _, _⟩ := Reads.of_own ho
    have hl1 := hlk wa.drew (Fr.drewN _ _ 1)
    have hl2 := hlk (wa.alloc (.cells #[.int .i64 n, .string t] 77)).drew ((Fr.alloc _ _ _).trans (Fr.drewN _ _ 1))
    go_enter Try.func14, Try.ntmps14
    go_wp2_with (go_at_call 45; rw [HW.out]; refine hm.mono ?_; rintro e w' ⟨rfl, rfl⟩)
    have hgl : g < wa.heap.size := World.block_lt_of_cell? _ _ c2
    have ho1 : ((wa.alloc (.cells #[.int .i64 n, .string t] 77)).drewN 1).ownsRow 0 77 2 (.slice A (d.caches k).length c) (d.caches k).length (cellsW (d.caches k)) := Fr.own_low (w := wa) (bdrewN ((Below.refl _ wa).alloc (Nat.le_refl _) _) 1) ho
    have hr1 : Reads ((wa.alloc (.cells #[.int .i64 n, .string t] 77)).drewN 1) (wa.heap.size + 1) 2 (some ⟨wa.heap.size, 0, none⟩) 1 (putc (n, t)) := Reads.new wa #[.int .i64 n, .string t] 77 1 rfl rfl
    have hkeep : ∀ w1, ((wa.alloc (.cells #[.int .i64 n, .string t] 77)).drewN 1).grownBy w1 (Value.slice A (d.caches k).length c).ownBlock → w1.cell? ⟨g, 2, none⟩ = some (.map (some cb)) := by
      intro w1 hg
      exact hg.cell (show ((wa.alloc (.cells #[.int .i64 n, .string t] 77)).drewN 1).cell? ⟨g, 2, none⟩ = some (.map (some cb)) from (World.cell?_alloc_lt _ _ _ hgl).trans c2) (fun e => hvg e.symm)
    have hst2 : ∀ v' w1, w1.ownsRow 0 77 2 v' ((d.caches k).length + 1) (cellsW (d.caches k) ++ putc (n, t)) → ((wa.alloc (.cells #[.int .i64 n, .string t] 77)).drewN 1).grownBy w1 (Value.slice A (d.caches k).length c).ownBlock →
        (v'.ownBlock = (Value.slice A (d.caches k).length c).ownBlock ∨ v'.ownBlock = some ((wa.alloc (.cells #[.int .i64 n, .string t] 77)).drewN 1).heap.size) →
        ∃ w2, (Instr.mapUpdate 67 (.map (some cb)) (.int .i64 k) v').run Try.prog w1 = .ok () w2 ∧ w2.cell? ⟨g, 2, none⟩ = some (.map (some cb)) ∧ Aft wa w2 g F (d.setCache k (d.caches k ++ [((n : Int).toNat, t)])) := by
      intro v' w1 h1 h2 h3
      refine hst w1 v' (d.caches k ++ [(n, t)]) ((Fr.alloc _ _ _).trans ((Fr.drewN _ _ 1).trans (Fr.of_grown h2))) (by rw [cellsW_snoc, List.length_append]; exact h1) (by simp) (h3.imp id fun e => ⟨_, e, by show _ ≤ (wa.alloc _).heap.size; simp⟩)
    have HO := Lib.hid ho1; have HR := Lib.hid hr1; have HK := Lib.hid hkeep; have HS := Lib.hid hst2; clear ho1 hr1 hkeep hst2 hst ho
    go_region_held3 (fun w' => w'.cell? ⟨g, 2, none⟩ = some (.map (some cb))) (go_keep) (first | (refine step_append_any _ rfl (.tmp 28) (.tmp 32) 75 rfl 0 77 i0 _ 2 24 Try.underlying75 hi hz0 hz1 hz2 rfl (by decide) (.slice A (d.caches k).length c) _ _ (by simp [Act.eval]) HO.out (wa.heap.size + 1) (some ⟨wa.heap.size, 0, none⟩) 1 1 (putc (n, t)) (by simp [Act.eval]) HR.out (by simp [putc, Value.oneCell']) (by simp only [maxLen]; omega) (by omega) (Nat.zero_le _) ?_; intro v' w1 hown' hgrow hown''; have c3 := HK.out w1 hgrow; obtain ⟨w2, hrun, c4, haft⟩ := HS.out v' w1 hown' hgrow hown''))
    all_goals
      go_wp2_with fail
      go_ret
      exact ⟨rfl, haft.pre hlow⟩
  · rw [if_neg h0]
    have e0 : (m == 0) = false := by simp [h0]
    clear h0
    generalize hww : w.alloc (.cells #[.string t] 9) = wa at *
    have HW := Lib.hid hww; clear hww
    go_enter Try.func14, Try.ntmps14
    go_wp2_with (go_at_call 45; rw [HW.out]; refine hm.mono ?_; rintro e w' ⟨rfl, rfl⟩)
    go_ret
    exact ⟨rfl, (Aft.stay hA).pre hlow⟩
end
end Go.Proofs.Ytekgoliakgknjaa
