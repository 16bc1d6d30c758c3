import Derived.Test.YtglglbbjacgbdaaDoorTrJ
import Derived.Deep.RegionLaw
namespace Go.Proofs.YtglglbbjacgbdaaDoor
open Go.RowKit
set_option linter.unusedVariables false
set_option linter.unusedSimpArgs false
attribute [local go_sem] b_max2 b_min2 b_max b_min

theorem cell_of_heap {w w' : World} {b : Nat} (h : w'.heap[b]? = w.heap[b]?) (o : Nat) : w'.cell? ⟨b, o, none⟩ = w.cell? ⟨b, o, none⟩ := by simp [World.cell?, h]
theorem IsN.fr {w w' : World} {id : Id} {r : NR} {v : Value} {F : Nat → Prop} (h : IsN w id r v) (hf : Fr F w w') (h1 : ¬ F id.1) (h2 : ∀ k, v.ownBlock = some k → ¬ F k) : IsN w' id r v := by
  have hb := hf.block id.1 h.lt h1
  exact ⟨(cell_of_heap hb _).trans h.c0, (cell_of_heap hb _).trans h.c1, (cell_of_heap hb _).trans h.c2, (cell_of_heap hb _).trans h.c3, hf.own h.row h2, by obtain ⟨cs, t, e⟩ := h.bl; exact ⟨cs, t, hb.trans e⟩⟩
theorem IsT.fr {w w' : World} {g : Nat} {S : TS} {vs : Id → Value} {F : Nat → Prop} (h : IsT w g S vs) (hf : Fr F w w') (hg : ¬ F g) (hF : ∀ id r, S.nd id = some r → ¬ F id.1 ∧ (∀ k, (vs id).ownBlock = some k → ¬ F k)) : IsT w' g S vs :=
  ⟨(cell_of_heap (hf.block g (World.block_lt_of_cell? _ _ h.rm) hg) 0).trans h.rm, fun id r e => (h.node id r e).fr hf (hF id r e).1 (hF id r e).2⟩
/-! ### how many sectors are free -/
def seenStep (acc : List Nat) (x : ByteArray × Nat) : List Nat := if x.2 ∈ acc then acc else acc ++ [x.2]
/-- the things that were met, each once -/
def seenL (pre : List (ByteArray × Nat)) : List Nat := pre.foldl seenStep []
theorem seenL_snoc (pre : List (ByteArray × Nat)) (x : ByteArray × Nat) : seenL (pre ++ [x]) = seenStep (seenL pre) x := by unfold seenL; rw [List.foldl_append]; rfl
def sizeB (S : TS) (b : Nat) : Int := ((S.nd (b, 0)).map sizeN).getD 0
def costB (S : TS) (b : Nat) : Int := 1 + need (sizeB S b)
def costL (S : TS) (l : List Nat) : Int := (l.map (costB S)).sum
theorem costL_snoc (S : TS) (l : List Nat) (b : Nat) : costL S (l ++ [b]) = costL S l + costB S b := by simp [costL]
theorem need_bd (n : Int) (h : n ≤ 1000000) : 0 ≤ need n ∧ need n ≤ 2000 := by unfold need; split <;> omega
theorem sizeN_bd {r : NR} (h : OkN r) : 0 ≤ sizeN r ∧ sizeN r ≤ 212000 := by
  unfold sizeN
  have h1 := sumN_le r.list h.nm
  have h2 := h.len
  have h3 := h.dat
  split <;> omega
def tT : Value := .bool true
def mapL (l : List Nat) : List (Nat × Value) := l.map fun k => (k, tT)
theorem mapL_get (l : List Nat) (k : Nat) : getI (mapL l) k = if k ∈ l then some tT else none := by
  induction l with
  | nil => rfl
  | cons a l ih =>
    rw [mapL, List.map_cons, getI_cons, ← mapL, ih]
    by_cases h : a = k
    · rw [if_pos h, if_pos (by simp [h])]
    · rw [if_neg h]
      by_cases h2 : k ∈ l
      · rw [if_pos h2, if_pos (by simp [h2])]
      · rw [if_neg h2, if_neg (by simp [h2, Ne.symm h])]
theorem mapL_put (l : List Nat) (k : Nat) (p : ByteArray) : putI (mapL l) k tT = mapL (seenStep l (p, k)) := by
  unfold putI seenStep
  rw [mapL_get]
  dsimp only
  by_cases h : k ∈ l
  · rw [if_pos h, if_pos (by rfl), if_pos h]
    unfold mapL
    rw [List.map_map]
    apply List.map_congr_left
    intro a ha
    simp only [Function.comp]
    split
    · rename_i e; rw [← e]
    · rfl
  · rw [if_neg h, if_neg (by simp), if_neg h]
    unfold mapL
    rw [List.map_append]; rfl
/-- what Free keeps between two things: the map at mb, its box at a, the count's box at b -/
structure JF (w0 : World) (g : Nat) (S : TS) (vs : Id → Value) (a b mb : Nat) (f0 : Int) (pre : List (ByteArray × Nat)) (W : World) : Prop where
  tree : IsT W g S vs
  mp : IM W mb (mapL (seenL pre))
  ka : Blk W a 52 #[.map (some mb)]
  kb : Blk W b 3 #[.int .i64 (f0 - costL S (seenL pre))]
  dom : ∀ k ∈ seenL pre, ∃ r, S.nd (k, 0) = some r
  be : Below w0.heap.size w0 W
  fa : w0.heap.size ≤ a
  fb : w0.heap.size ≤ b
  fm : w0.heap.size ≤ mb
theorem node_info : (Tryd.prog.info? 42).map (fun i => i.size) = some 4 := by kernel_rfl
theorem ptr_node : PtrT Tryd.prog 54 := by
  have h := node_info
  cases hi : Tryd.prog.info? 42 with
  | none => rw [hi] at h; cases h
  | some i => rw [hi] at h; simp at h; exact ⟨⟨42, i, Tryd.underlying54, hi, by omega⟩⟩
theorem seenStep_nodup {l : List Nat} (h : l.Nodup) (x : ByteArray × Nat) : (seenStep l x).Nodup := by
  unfold seenStep
  split
  · exact h
  · rename_i hn
    rw [List.nodup_append]
    exact ⟨h, by simp, fun a ha b hb e => by simp at hb; subst hb; subst e; exact hn ha⟩
theorem seenL_nodup (pre : List (ByteArray × Nat)) : (seenL pre).Nodup := by
  have : ∀ (l : List (ByteArray × Nat)) (acc : List Nat), acc.Nodup → (l.foldl seenStep acc).Nodup := by
    intro l
    induction l with
    | nil => intro acc h; exact h
    | cons x l ih => intro acc h; exact ih _ (seenStep_nodup h x)
  exact this pre [] List.nodup_nil
theorem nodup_le : ∀ (l S : List Nat), l.Nodup → (∀ x ∈ l, x ∈ S) → l.length ≤ S.length
  | [], _, _, _ => Nat.zero_le _
  | a :: l, S, hn, hs => by
    rw [List.nodup_cons] at hn
    have ha := hs a (by simp)
    have h := nodup_le l (S.erase a) hn.2 (fun x hx => (List.mem_erase_of_ne (fun e : x = a => hn.1 (by rw [← e]; exact hx))).2 (hs x (by simp [hx])))
    rw [List.length_erase_of_mem ha] at h
    have : 0 < S.length := List.length_pos_of_mem ha
    rw [List.length_cons]; omega
theorem costB_bd {S : TS} {g : Nat} (ho : OkT S g) {b : Nat} {r : NR} (h : S.nd (b, 0) = some r) : 0 ≤ costB S b ∧ costB S b ≤ 2001 ∧ costB S b = 1 + need (sizeN r) := by
  have e : costB S b = 1 + need (sizeN r) := by unfold costB sizeB; rw [h]; rfl
  have h1 := sizeN_bd (ho.okn _ r h)
  have h2 := need_bd (sizeN r) (by omega)
  rw [e]; omega
theorem costL_bd {S : TS} {g : Nat} (ho : OkT S g) : ∀ (l : List Nat), (∀ k ∈ l, ∃ r, S.nd (k, 0) = some r) → 0 ≤ costL S l ∧ costL S l ≤ 2001 * l.length
  | [], _ => by simp [costL]
  | a :: l, h => by
    obtain ⟨r, hr⟩ := h a (by simp)
    have h1 := costB_bd ho hr
    have h2 := costL_bd ho l (fun k hk => h k (by simp [hk]))
    simp only [costL, List.map_cons, List.sum_cons, List.length_cons] at *
    omega
section
variable {w0 : World} {g : Nat} {S : TS} {vs : Id → Value} {a b mb : Nat} {f0 : Int}
theorem JF.cost (ho : OkT S g) {pre : List (ByteArray × Nat)} {W : World} (h : JF w0 g S vs a b mb f0 pre W) : 0 ≤ costL S (seenL pre) ∧ costL S (seenL pre) ≤ 2001000 := by
  have h1 := costL_bd ho (seenL pre) h.dom
  obtain ⟨U, hU, hm⟩ := ho.fin
  have h2 := nodup_le (seenL pre) U (seenL_nodup pre) (fun k hk => by obtain ⟨r, hr⟩ := h.dom k hk; exact hm k r hr)
  omega
theorem IM.low {w w' : World} {b : Nat} {L : List (Nat × Value)} (h : IM w b L) (hb : Below w.heap.size w w') : IM w' b L := h.keep (F := fun _ => False) (Fr.of_below hb _) (fun h => h)
theorem JF.low {pre : List (ByteArray × Nat)} {W W' : World} (h : JF w0 g S vs a b mb f0 pre W) (hb : Below W.heap.size W W') : JF w0 g S vs a b mb f0 pre W' :=
  ⟨h.tree.low hb, h.mp.low hb, Fr.blk_low hb h.ka, Fr.blk_low hb h.kb, h.dom, h.be.trans (hb.mono h.be.size), h.fa, h.fb, h.fm⟩
set_option maxRecDepth 100000 in
set_option maxHeartbeats 2000000 in
theorem see50_step (ho : OkT S g) (hab : a ≠ b) (hma : mb ≠ a) (hmb : mb ≠ b) (hF : ∀ id r, S.nd id = some r → id.1 < w0.heap.size ∧ (∀ k, (vs id).ownBlock = some k → k < w0.heap.size)) (hg : g < w0.heap.size) (hf0 : -1000000 ≤ f0 ∧ f0 ≤ 9000000000000)
    {pre : List (ByteArray × Nat)} {W : World} (x : ByteArray × Nat) (hx : ∃ r, S.nd (x.2, 0) = some r) (h : JF w0 g S vs a b mb f0 pre W) :
    Calls Tryd.prog 20 #[.string x.1, .pointer (some ⟨x.2, 0, none⟩), .pointer (some ⟨a, 0, none⟩), .pointer (some ⟨b, 0, none⟩)] W fun e W' => e = .returned (.tuple #[]) ∧ JF w0 g S vs a b mb f0 (pre ++ [x]) W' ∧ Fr (fun k => k = mb ∨ k = b) W W' := by
  obtain ⟨r, hr⟩ := hx
  obtain ⟨p, k⟩ := x
  dsimp only at hr ⊢
  have hN := h.tree.node _ r hr
  have hok := ho.okn _ r hr
  have hlive : ∀ {W' : World}, IsT W' g S vs → ∀ q, (∃ r, S.nd (q, 0) = some r) → Live W' q := fun hT q ⟨r, hr⟩ => (hT.node _ r hr).bl
  have hcost := h.cost ho
  have ca : W.cell? ⟨a, 0, none⟩ = some (.map (some mb)) := h.ka.cell 0
  have cb : W.cell? ⟨b, 0, none⟩ = some (.int .i64 (f0 - costL S (seenL pre))) := h.kb.cell 0
  have hdm : ∀ {W' : World}, IsT W' g S vs → ∀ q ∈ mapL (seenL pre), Live W' q.1 := by
    intro W' hT q hq
    unfold mapL at hq
    obtain ⟨q', hq', rfl⟩ := List.mem_map.1 hq
    exact hlive hT q' (h.dom q' hq')
  have hlk := h.mp.look (P := Tryd.prog) (t := 52) Tryd.underlying52 ptr_node (w := W) (z := .bool false) (by exact Tryd.zeroValue4 W) k (hlive h.tree k ⟨r, hr⟩) (hdm h.tree) false
  rw [mapL_get] at hlk
  simp only [Bool.false_eq_true, if_false] at hlk
  have hst : ∀ (W' : World), IsT W' g S vs → IM W' mb (mapL (seenL pre)) → ∃ w', (Instr.mapUpdate 52 (.map (some mb)) (ptrK k) tT).run Tryd.prog W' = .ok () w' ∧ IM w' mb (mapL (seenStep (seenL pre) (p, k))) ∧ Fr (fun j => j = mb) W' w' ∧ w'.heap.size = W'.heap.size := by
    intro W' hT hM
    obtain ⟨w', h1, h2, h3, h4⟩ := hM.store (P := Tryd.prog) (t := 52) Tryd.underlying52 ptr_node k tT (hlive hT k ⟨r, hr⟩) (hdm hT)
    rw [mapL_put _ _ p] at h2
    exact ⟨w', h1, h2, h3, h4⟩
  have htf : ∀ (W1 W2 : World), IsT W1 g S vs → Fr (fun q => q = mb ∨ q = b) W1 W2 → IsT W2 g S vs := fun W1 W2 hT hf => by
    have := h.fb; have := h.fm
    refine hT.fr hf (by rintro (e | e) <;> omega) (fun id r e => ?_)
    obtain ⟨h1, h2⟩ := hF id r e
    exact ⟨by rintro (e | e) <;> omega, fun q hq => by have := h2 q hq; rintro (e | e) <;> omega⟩
  have hbf : ∀ (W1 W2 : World), Below w0.heap.size w0 W1 → Fr (fun q => q = mb ∨ q = b) W1 W2 → Below w0.heap.size w0 W2 := fun W1 W2 hb hf => hf.below hb (by have := h.fb; have := h.fm; rintro q (e | e) <;> omega)
  by_cases hin : k ∈ seenL pre
  · rw [if_pos hin] at hlk
    have hlk2 : (Instr.lookup 52 (.map (some mb)) (.pointer (some ⟨k, 0, none⟩)) false).run Tryd.prog W = .ok (.bool true) W := hlk
    obtain ⟨w', h1, h2, h3, h4⟩ := hst _ h.tree h.mp
    have h1' : (Instr.mapUpdate 52 (.map (some mb)) (.pointer (some ⟨k, 0, none⟩)) (.bool true)).run Tryd.prog W = .ok () w' := h1
    have hss : seenL (pre ++ [(p, k)]) = seenL pre := by rw [seenL_snoc]; unfold seenStep; rw [if_pos hin]
    have hsp : seenStep (seenL pre) (p, k) = seenL pre := by unfold seenStep; rw [if_pos hin]
    have hf := h3.mono (G := fun q => q = mb ∨ q = b) (fun q e _ => .inl e)
    have hfin : JF w0 g S vs a b mb f0 (pre ++ [(p, k)]) w' := by
      refine ⟨htf _ _ h.tree hf, by rw [hss]; rw [hsp] at h2; exact h2, h3.blk h.ka (Ne.symm hma), by rw [hss]; exact h3.blk h.kb (Ne.symm hmb), by rw [hss]; exact h.dom, hbf _ _ h.be hf, h.fa, h.fb, h.fm⟩
    have HF := Lib.hid hfin; have HFR := Lib.hid hf
    clear hfin hf h1 h2 h3 hss hsp hst hdm hlive htf hbf hlk hN hok
    go_enter Tryd.func20, Tryd.ntmps20
    go_wp2_with fail
    go_end0
    exact ⟨rfl, HF.out, HFR.out⟩
  · rw [if_neg hin] at hlk
    have hlk2 : (Instr.lookup 52 (.map (some mb)) (.pointer (some ⟨k, 0, none⟩)) false).run Tryd.prog W = .ok (.bool false) W := hlk
    have hsz := sizeN_bd hok
    have hnd := need_bd (sizeN r) (by omega)
    have hcb := costB_bd ho hr
    have hss : seenL (pre ++ [(p, k)]) = seenL pre ++ [k] := by rw [seenL_snoc]; unfold seenStep; rw [if_neg hin]
    have hsp : seenStep (seenL pre) (p, k) = seenL pre ++ [k] := by unfold seenStep; rw [if_neg hin]
    have hcl := costL_snoc S (seenL pre) k
    have hNd : IsN (W.drewN 1) (k, 0) r (vs (k, 0)) := hN.low (bdrewN (Below.refl _ _) 1)
    have hcs := size_any hNd hok
    have hcn := fun w' => need_any (sizeN r) w' (by omega) (by omega)
    generalize hfv : f0 - costL S (seenL pre) = fv at *
    have hnew : fv - (1 + need (sizeN r)) = f0 - costL S (seenL (pre ++ [(p, k)])) := by rw [hss, hcl, hcb.2.2]; omega
    have hfvb : -4000000 ≤ fv ∧ fv ≤ 9000000000000 := by omega
    generalize need (sizeN r) = nd at *
    generalize sizeN r = sz at *
    have u1 : IntKind.i64.wrap (1 + nd) = 1 + nd := IntWalk.i64_in _ (by omega)
    have u2 : IntKind.i64.wrap (fv - (1 + nd)) = fv - (1 + nd) := IntWalk.i64_in _ (by omega)
    have HNEW := Lib.hid hnew; have HJ := Lib.hid h; have HST := Lib.hid hst; have HTF := Lib.hid htf; have HBF := Lib.hid hbf; have HSS := Lib.hid (And.intro hss hsp)
    have hkb := h.kb
    rw [hfv] at hkb
    have HKB := Lib.hid hkb
    clear hnew hss hsp hst htf hbf hdm hlive hlk hN hok hNd hcl hcb h hcost hfv hkb
    go_enter Tryd.func20, Tryd.ntmps20
    go_wp2_with fail
    go_region_law (first
      | (go_simp; go_at_call 18; refine hcs.mono ?_; rintro e w1 ⟨rfl, b1⟩; have kb1 := Fr.blk_low b1 (HKB.out.drewN 1); have cb1 : w1.cell? ⟨b, 0, none⟩ = some (.int .i64 fv) := kb1.cell 0; have fb1 := kb1.frozen 0; have J1 := Lib.hid ((HJ.out.low (bdrewN (Below.refl _ W) 1)).low b1); have HB1 := Lib.hid b1; have HKB1 := Lib.hid kb1; clear b1 kb1)
      | (go_simp; go_at_call 17; refine (hcn _).mono ?_; rintro e w2 ⟨rfl, rfl⟩))
    all_goals
      have hf2 : Fr (fun q => q = b) w1 (w1.setCell ⟨b, 0, none⟩ (.int .i64 (fv - (1 + nd)))) := Fr.setCell _ _ _ _ rfl
      have hf2' := hf2.mono (G := fun q => q = mb ∨ q = b) (fun q e _ => .inr e)
      have tree2 := HTF.out _ _ J1.out.tree hf2'
      have mp2 := J1.out.mp.keep hf2 hmb
      have ka2 := hf2.blk J1.out.ka hab
      have kb2 : Blk (w1.setCell ⟨b, 0, none⟩ (.int .i64 (fv - (1 + nd)))) b 3 #[.int .i64 (fv - (1 + nd))] := HKB1.out.set_ 0 _
      have be2 := HBF.out _ _ J1.out.be hf2'
      have ca2 : (w1.setCell ⟨b, 0, none⟩ (.int .i64 (fv - (1 + nd)))).cell? ⟨a, 0, none⟩ = some (.map (some mb)) := ka2.cell 0
      obtain ⟨w', h1, h2, h3, h4⟩ := HST.out _ tree2 mp2
      have h1' : (Instr.mapUpdate 52 (.map (some mb)) (.pointer (some ⟨k, 0, none⟩)) (.bool true)).run Tryd.prog (w1.setCell ⟨b, 0, none⟩ (.int .i64 (fv - (1 + nd)))) = .ok () w' := h1
      have hf3 := h3.mono (G := fun q => q = mb ∨ q = b) (fun q e _ => .inl e)
      have hfr : Fr (fun q => q = mb ∨ q = b) W w' := ((((Fr.drewN _ W 1).trans (Fr.of_below HB1.out _)).trans hf2').trans hf3)
      have hfin : JF w0 g S vs a b mb f0 (pre ++ [(p, k)]) w' := by
        refine ⟨HTF.out _ _ tree2 hf3, by rw [HSS.out.1]; rw [HSS.out.2] at h2; exact h2, h3.blk ka2 (Ne.symm hma), by rw [← HNEW.out]; exact h3.blk kb2 (Ne.symm hmb), ?_, HBF.out _ _ be2 hf3, HJ.out.fa, HJ.out.fb, HJ.out.fm⟩
        rw [HSS.out.1]
        intro q hq
        rcases List.mem_append.1 hq with hq | hq
        · exact HJ.out.dom q hq
        · rw [List.mem_singleton.1 hq]; exact ⟨r, hr⟩
      have HF := Lib.hid hfin; have HFR := Lib.hid hfr
      clear hfin hfr hf2 hf2' hf3 tree2 mp2 ka2 kb2 be2 h1 h2 h3 h4 J1 HB1 HKB1 hcs hcn
      generalize w1.setCell ⟨b, 0, none⟩ (.int .i64 (fv - (1 + nd))) = w2 at *
      go_wp2_with fail
      go_end0
      exact ⟨rfl, HF.out, HFR.out⟩
end
end Go.Proofs.YtglglbbjacgbdaaDoor
