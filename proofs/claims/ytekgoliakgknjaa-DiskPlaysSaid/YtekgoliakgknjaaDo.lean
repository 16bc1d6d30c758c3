import Derived.Test.YtekgoliakgknjaaDn
namespace Go.Proofs.Ytekgoliakgknjaa
open Go.RowKit
set_option linter.unusedVariables false
attribute [local go_sem] b_max2 b_min2 b_max b_min

/-- the writes of all other keys -/
def restOf (l : List KPut) (k : Int) : List KPut := l.filter fun p => p.1 != k
theorem restOf_take (l : List KPut) (k : Int) {i : Nat} (hi : i < l.length) : restOf (l.take (i + 1)) k = if l[i].1 = k then restOf (l.take i) k else restOf (l.take i) k ++ [l[i]] := by
  rw [List.take_succ_eq_append_getElem hi, restOf, List.filter_append, List.filter_cons, List.filter_nil]
  by_cases h : l[i].1 = k
  · rw [if_neg (by simp [h]), if_pos h, List.append_nil]; rfl
  · rw [if_pos (by simp [h]), if_neg h]; rfl
theorem restOf_le (l : List KPut) (k : Int) : (restOf l k).length ≤ l.length := List.length_filter_le _ _
theorem cacheOf_rest (l : List KPut) (k : Int) : cacheOf (restOf l k) = fun j => if j = k then [] else cacheOf l j := by
  funext j
  unfold cacheOf restOf
  rw [List.filter_filter]
  by_cases h : j = k
  · rw [if_pos h, h]
    have : (l.filter fun p => (p.1 == k && (p.1 != k))) = [] := by
      rw [List.filter_eq_nil_iff]
      intro p _
      by_cases hp : p.1 = k <;> simp [hp]
    rw [this]; rfl
  · rw [if_neg h]
    congr 1
    apply List.filter_congr
    intro p _
    by_cases hp : p.1 = j
    · simp [hp, h]
    · simp [hp]
theorem restOf_len (l : List KPut) (k : Int) : (restOf l k).length + (cacheOf l k).length = l.length := by
  induction l with
  | nil => rfl
  | cons p l ih =>
    unfold restOf cacheOf at *
    rw [List.filter_cons, List.filter_cons]
    by_cases h : p.1 = k
    · rw [if_neg (by simp [h]), if_pos (by simp [h])]; simp at *; omega
    · rw [if_pos (by simp [h]), if_neg (by simp [h])]; simp at *; omega
/-- what settling leaves alone -/
structure Less (R R' : RS) : Prop where
  l : R'.L.length = R.L.length
  ks : R'.ks = R.ks
  on : R'.on = R.on
  pend : R'.pend = R.pend
  puts : R'.puts.length ≤ R.puts.length
theorem Less.grow {R R' : RS} (h : Less R R') : Grow R R' := ⟨h.l, by rw [h.ks]; omega, by have := h.puts; omega, by rw [h.pend]; omega⟩
theorem Less.trans {R R' R'' : RS} (h : Less R R') (h' : Less R' R'') : Less R R'' := ⟨h'.l.trans h.l, h'.ks.trans h.ks, h'.on.trans h.on, h'.pend.trans h.pend, Nat.le_trans h'.puts h.puts⟩
def AftS (w w' : World) (g : Nat) (F : Nat → Prop) (R : RS) (d' : DS) (l : List KPut) : Prop := ∃ F' R', IsR w' g F' R' ∧ R'.ds = d' ∧ Less R R' ∧ R'.puts = l ∧ Fr F w w' ∧ ∀ k, F' k → F k ∨ w.heap.size ≤ k
section
variable {w w' w1 : World} {g : Nat} {F G : Nat → Prop} {R R' : RS} {vs : Nat → Value}
/-- a row is another one, that has been made since B -/
theorem RX.updB (h : RX w g F R vs) (B : Nat) (hB : ∀ k, F k → k < B) (i : Nat) (hi : i < 5) {v' : Value} (hfr : Fr (fun k => (vs i).ownBlock = some k) w w1) (hrow : RRow w1 R' v' i) (hsame : ∀ j, j < 5 → j ≠ i → ∀ w v, RRow w R v j → RRow w R' v j)
    (hob : v'.ownBlock = (vs i).ownBlock ∨ v'.ownBlock = none ∨ ∃ K, v'.ownBlock = some K ∧ B ≤ K) :
    RX (w1.setCell ⟨g, i, none⟩ v') g (fun k => F k ∨ (B ≤ k ∧ k < (w1.setCell ⟨g, i, none⟩ v').heap.size)) R' (fun j => if j = i then v' else vs j) ∧ Fr F w (w1.setCell ⟨g, i, none⟩ v') := by
  have hgi : ¬ (vs i).ownBlock = some g := fun e => (h.fo i hi g e).2 rfl
  have hgl := hB _ h.fg
  have hblk1 := hfr.blk h.blk hgi
  have hv'g : v'.ownBlock ≠ some g := by
    rcases hob with e | e | ⟨K, e, hK⟩
    · rw [e]; exact hgi
    · rw [e]; simp
    · rw [e]; intro e'; have := Option.some.inj e'; omega
  have hF1 : Fr (fun k => k = g) w1 (w1.setCell ⟨g, i, none⟩ v') := Fr.setCell w1 g i v' rfl
  have hFr : Fr F w (w1.setCell ⟨g, i, none⟩ v') := (hfr.mono (fun k hk _ => (h.fo i hi k hk).1)).trans (hF1.mono (fun k hk _ => by subst hk; exact h.fg))
  have hsz : (w1.setCell ⟨g, i, none⟩ v').heap.size = w1.heap.size := by simp
  have hother : ∀ j, j < 5 → j ≠ i → ∀ k, (vs j).ownBlock = some k → v'.ownBlock ≠ some k := by
    intro j hj hne k hk
    rcases hob with e | e | ⟨K, e, hK⟩
    · rw [e]; exact h.ne j i hj hi hne k hk
    · rw [e]; simp
    · rw [e]; intro e'; have := Option.some.inj e'; have := hB _ (h.fo j hj k hk).1; omega
  refine ⟨⟨?_, fun j hj => ?_, .inl h.fg, fun j hj k hk => ?_, fun a b ha hb hne k hk => ?_, fun k hk => ?_⟩, hFr⟩
  · have := hblk1.set_ i v'
    rw [set5 i hi] at this
    exact this
  · by_cases hji : j = i
    · subst hji
      simp only [if_true]
      exact hrow.keep hF1 (fun k hk e => hv'g (by rw [hk, e]))
    · simp only [if_neg hji]
      exact (hsame j hj hji _ _ ((h.row j hj).keep hfr (fun k hk e => h.ne j i hj hi hji k hk e))).keep hF1 (fun k hk e => (h.fo j hj k hk).2 e)
  · by_cases hji : j = i
    · simp only [if_pos hji] at hk
      refine ⟨?_, fun e => hv'g (by rw [hk, e])⟩
      rcases hob with e | e | ⟨K, e, hK⟩
      · rw [e] at hk; exact .inl (h.fo i hi k hk).1
      · rw [e] at hk; cases hk
      · have := hrow.lt hk
        rw [e] at hk; obtain rfl := Option.some.inj hk
        exact .inr ⟨hK, by rw [hsz]; exact this⟩
    · simp only [if_neg hji] at hk
      exact ⟨.inl (h.fo j hj k hk).1, (h.fo j hj k hk).2⟩
  · by_cases hai : a = i
    · by_cases hbi : b = i
      · exact absurd (hai.trans hbi.symm) hne
      · simp only [if_pos hai] at hk; simp only [if_neg hbi]
        exact fun e => hother b hb hbi k e hk
    · by_cases hbi : b = i
      · simp only [if_neg hai] at hk; simp only [if_pos hbi]
        exact hother a ha hai k hk
      · simp only [if_neg hai] at hk; simp only [if_neg hbi]
        exact h.ne a b ha hb hne k hk
  · rcases hk with hk | ⟨_, hk⟩
    · exact Nat.lt_of_lt_of_le (h.fb k hk) hFr.size
    · exact hk
theorem AftS.aft {d' : DS} {l : List KPut} (h : AftS w w' g F R d' l) : AftR w w' g F R d' := by
  obtain ⟨F', R', h1, h2, h3, _, h4, h5⟩ := h
  exact ⟨F', R', h1, h2, h3.grow, h4, h5⟩
theorem pickF_at {zs : List Int} {i : Nat} (h : i < zs.length) : pickF zs i = (zs[i].tmod 2 != 0) := by
  rw [pickF, decide_eq_true h, Bool.true_and, List.getD_eq_getElem?_getD, List.getElem?_eq_getElem h]; rfl
theorem pickF_no {zs : List Int} {i : Nat} (h : ¬ i < zs.length) : pickF zs i = false := by rw [pickF, decide_eq_false h, Bool.false_and]
theorem laid_snoc (st : Nat → Bool) (C D : List Put) (p : Put) (X : List Put) (hC : C = X ++ p :: D) (L : List ByteArray) : laid st C (X.length + 1) L = if st X.length then (laid st C X.length L).set p.1 p.2 else laid st C X.length L := by
  rw [laid]
  have : C.getD X.length (0, ⟨#[]⟩) = p := by rw [hC, List.getD_eq_getElem?_getD, List.getElem?_append_right (Nat.le_refl _)]; simp
  rw [this]
theorem cacheOf_split (l : List KPut) (k : Int) {i : Nat} (hi : i < l.length) (hk : l[i].1 = k) : cacheOf l k = cacheOf (l.take i) k ++ l[i].2 :: cacheOf (l.drop (i + 1)) k := by
  conv => lhs; rw [← List.take_append_drop i l, List.drop_eq_getElem_cons hi]
  unfold cacheOf
  rw [List.filter_append, List.map_append, List.filter_cons, if_pos (by simp [hk]), List.map_cons]
set_option maxRecDepth 100000 in
set_option maxHeartbeats 2000000 in
theorem rsettle_any (h : IsR w g F R) (k : Int) (A : Option Addr) (n c : Nat) (zs : List Int) (hp : Picks w F A n zs) (all : Bool) :
    Calls Try.prog 56 #[.pointer (some ⟨g, 0, none⟩), .int .i64 k, .slice A n c, .bool all] w fun e w' => e = .returned (.int .i64 ((cacheOf R.puts k).length : Nat)) ∧ AftS w w' g F R (fSettle R.ds k (fun i => all || pickF zs i)) (restOf R.puts k) := by
  obtain ⟨i0, hinf, hz0, hz1, hz2⟩ := info_parts kput_info
  have hcap := h.cap.puts
  have hcp := h.cap
  have hok := h.ok
  obtain ⟨vs, h⟩ := h.x
  have hgl := h.blk.lt
  have hfb := h.fb
  generalize hst : (fun i => all || pickF zs i) = st
  have hstv : ∀ i, st i = (all || pickF zs i) := fun i => by rw [← hst]
  have HSTV := Lib.hid hstv
  have HST0 := Lib.hid hst; clear hst hstv
  generalize hl : R.puts = l at *
  have HL := Lib.hid hl; clear hl
  have hokp : ∀ p ∈ l, p.2.1 < R.L.length := by rw [← HL.out]; exact hok.puts
  have HOKP := Lib.hid hokp; clear hokp
  have hx0 : RX w g F { R with L := laid st (cacheOf l k) 0 R.L } vs := h
  go_enter Try.func56, Try.ntmps56
  go_wp2_with fail
  go_loopw [9, 10, 11] (fun v m p wr => ∃ i : Nat, p = .int .i64 i ∧ i ≤ l.length ∧ m = .int .i64 ((cacheOf (l.take i) k).length : Nat) ∧ wr.ownsRow w.heap.size 89 3 v (restOf (l.take i) k).length (cellsK (restOf (l.take i) k)) ∧
    RX wr g F { R with L := laid st (cacheOf l k) (cacheOf (l.take i) k).length R.L } vs ∧ Fr F w wr) (fun _ _ p _ => l.length - (intOf p).toNat)
  case atStart => exact ⟨0, rfl, by omega, rfl, World.ownsRow_nil _ _ _ _, hx0, Fr.refl _ _⟩
  case round =>
    clear hx0 h
    obtain ⟨i, rfl, hi, rfl, ho, hx, hf⟩ := hrel
    have c3 : wr.cell? ⟨g, 3, none⟩ = some (vs 3) := by simpa using hx.blk.cell 3
    have hpr := hp.fr hf
    have hBs := hf.size
    have hR3 : wr.ownsRow 0 89 3 (vs 3) R.puts.length (cellsK R.puts) := hx.row 3 (by omega)
    rw [HL.out] at hR3
    obtain ⟨A3, d3, e3, _, hR⟩ := Reads.of_own hR3
    rw [e3] at c3
    have hle : (restOf (l.take i) k).length ≤ 20000 := by
      have := restOf_le (l.take i) k
      rw [List.length_take] at this; omega
    have hle2 : (cacheOf (l.take i) k).length ≤ 20000 := by
      have := cacheOf_le (l.take i) k
      rw [List.length_take] at this; omega
    clear hR3
    by_cases hlt : i < l.length
    · obtain ⟨ad, rfl, _, k0, k1, k2⟩ := kputs_at hR hlt
      have hs1 := cacheOf_take l k hlt
      have hs2 := restOf_take l k hlt
      have hs3 := cacheOf_split l k hlt
      have hpL := HOKP.out l[i] (List.getElem_mem _)
      generalize l[i] = p at *
      obtain ⟨pk, ps, pt⟩ := p
      simp only [] at k0 k1 k2 hpL
      generalize cacheOf (l.take i) k = X at *
      generalize restOf (l.take i) k = Y at *
      have HS1 := Lib.hid hs1; have HS2 := Lib.hid hs2; have HS3 := Lib.hid hs3; clear hs1 hs2 hs3 hR
      go_upto_region 7 with (fail)
      have hxa := hx.low ((Below.refl _ wr).alloc (Nat.le_refl _) (.cells #[.int .i64 pk, .int .i64 ps, .string pt] 89))
      have hfa : Fr F w (wr.alloc (.cells #[.int .i64 pk, .int .i64 ps, .string pt] 89)) := hf.trans (Fr.alloc _ _ _)
      have hB : Blk (wr.alloc (.cells #[.int .i64 pk, .int .i64 ps, .string pt] 89)) wr.heap.size 89 #[.int .i64 pk, .int .i64 ps, .string pt] := Blk.new _ _ _
      have hoa := Fr.own_low ((Below.refl _ wr).alloc (Nat.le_refl _) (.cells #[.int .i64 pk, .int .i64 ps, .string pt] 89)) ho
      have hzF : ¬ F wr.heap.size := fun e => by have := hfb _ e; omega
      have hYz : u9.ownBlock ≠ some wr.heap.size := fun e => by have := (World.ownsRow.lt ho _ e).2; omega
      have hpa := hp.fr hfa
      clear k0 k1 k2 hx hf ho c3 hpr
      have hzs : w.heap.size ≤ wr.heap.size := hBs
      generalize wr.heap.size = z at *
      generalize wr.alloc (.cells #[.int .i64 pk, .int .i64 ps, .string pt] 89) = wa at *
      have q0 : wa.cell? ⟨z, 0, none⟩ = some (.int .i64 pk) := hB.cell 0
      have q1 : wa.cell? ⟨z, 1, none⟩ = some (.int .i64 ps) := hB.cell 1
      have q2 : wa.cell? ⟨z, 2, none⟩ = some (.string pt) := hB.cell 2
      by_cases hk : pk = k
      · have n1 : (pk != k) = false := by simp [hk]
        have HK := Lib.hid hk; clear hk
        have hls := laid_snoc st (cacheOf l k) _ (ps, pt) X (HS3.out HK.out) R.L
        have HLS := Lib.hid hls; clear hls
        have hXc : (X.length : Int) ≤ 20000 := by omega
        cases all with
        | true =>
          have ht : st X.length = true := by rw [HSTV.out]; rfl
          have HT := Lib.hid ht; clear ht
          obtain ⟨b, cl, e0, f0, cc0, hu⟩ := hxa.lie (n := ps) (by show ps < (laid st (cacheOf l k) X.length R.L).length; rw [laid_len]; exact hpL) pt
          have hgb : g ≠ b := fun e => (hxa.fo 0 (by omega) b (by rw [e0]; rfl)).2 e.symm
          have hbF : F b := (hxa.fo 0 (by omega) b (by rw [e0]; rfl)).1
          have hzb : z ≠ b := fun e => hzF (by rw [e]; exact hbF)
          have r0 : wa.cell? ⟨g, 0, none⟩ = some (vs 0) := by simpa using hxa.blk.cell 0
          have hpL' : (ps : Int) < R.L.length := by omega
          rw [e0, show ({ R with L := laid st (cacheOf l k) X.length R.L } : RS).L.length = R.L.length from laid_len _ _ _ _] at r0
          have hfs : Fr (fun j => j = b) wa (wa.setCell ⟨b, ps, none⟩ (.string pt)) := Fr.setCell wa b ps _ rfl
          have k0 : (wa.setCell ⟨b, ps, none⟩ (.string pt)).drew.cell? ⟨g, 0, none⟩ = some (.slice (some ⟨b, 0, none⟩) R.L.length cl) := by
            have e := (hfs.blk hxa.blk hgb).cell 0
            rw [← r0]
            exact e.trans (hxa.blk.cell 0).symm
          have k1 : (wa.setCell ⟨b, ps, none⟩ (.string pt)).drew.cell? ⟨z, 1, none⟩ = some (.int .i64 ps) := (hfs.blk hB hzb).cell 1
          have k2 : (wa.setCell ⟨b, ps, none⟩ (.string pt)).drew.cell? ⟨z, 2, none⟩ = some (.string pt) := (hfs.blk hB hzb).cell 2
          have hown5 := hfs.own hoa (fun kk hk e => by have := (World.ownsRow.lt hoa kk hk).1; have := hfb _ hbF; omega)
          have hxn : RX (wa.setCell ⟨b, ps, none⟩ (.string pt)) g F { R with L := laid st (cacheOf l k) (X.length + 1) R.L } vs := by
            rw [HLS.out, if_pos HT.out]; exact hu.1
          have HXN := Lib.hid hxn; have HU2 := Lib.hid hu.2; have HOW := Lib.hid hown5; clear hxn hown5 hu hfs
          generalize e0 = e0' at *
          clear e0' hxa
          go_wp2_with fail
          go_region_held3 (fun w' => w'.cell? ⟨g, 0, none⟩ = some (.slice (some ⟨b, 0, none⟩) R.L.length cl) ∧ w'.cell? ⟨z, 1, none⟩ = some (.int .i64 ps) ∧ w'.cell? ⟨z, 2, none⟩ = some (.string pt)) (first | exact ⟨k0, k1, k2⟩ | go_keep) (fail)
          all_goals
            go_wp2_with fail
            go_roundw
            case rel => exact ⟨i + 1, vint (by omega), by omega, by rw [HS1.out, if_pos HK.out, List.length_append]; exact vint (by simp), by rw [HS2.out, if_pos HK.out]; exact Fr.own_low (bdrewN (Below.refl _ _) 1) HOW.out, by rw [HS1.out, if_pos HK.out, List.length_append]; exact HXN.out.low (bdrewN (Below.refl _ _) 1), hfa.trans (HU2.out.trans (Fr.drewN _ _ 1))⟩
            case measure => simp [intOf]; omega
        | false =>
          by_cases hin : X.length < n
          · obtain ⟨B', hrd⟩ := hpa.rd
            have hzl := hpa.len
            obtain ⟨adp, rfl, _, hcp2⟩ := hrd.2 (by omega)
            have hgp := hcp2 X.length _ (by rw [List.getElem?_map, List.getElem?_eq_getElem (by omega)]; rfl)
            have hbq := hpa.b (zs[X.length]'(by omega)) (List.getElem_mem _)
            have hsq : st X.length = ((zs[X.length]'(by omega)).tmod 2 != 0) := by rw [HSTV.out, Bool.false_or, pickF_at (by omega)]
            clear hcp2 hrd
            generalize zs[X.length]'(by omega) = q at *
            have tb1 := Int.tmod_lt_of_pos q (show (0:Int) < 2 by omega)
            have tb2 := Int.lt_tmod_of_pos q (show (0:Int) < 2 by omega)
            have HSQ := Lib.hid hsq; clear hsq
            cases hq : (q.tmod 2 != 0) with
            | true =>
              have ht : st X.length = true := by rw [HSQ.out]; exact hq
              have HT := Lib.hid ht; clear ht
              obtain ⟨b, cl, e0, f0, cc0, hu⟩ := hxa.lie (n := ps) (by show ps < (laid st (cacheOf l k) X.length R.L).length; rw [laid_len]; exact hpL) pt
              have hgb : g ≠ b := fun e => (hxa.fo 0 (by omega) b (by rw [e0]; rfl)).2 e.symm
              have hbF : F b := (hxa.fo 0 (by omega) b (by rw [e0]; rfl)).1
              have hzb : z ≠ b := fun e => hzF (by rw [e]; exact hbF)
              have r0 : wa.cell? ⟨g, 0, none⟩ = some (vs 0) := by simpa using hxa.blk.cell 0
              have hpL' : (ps : Int) < R.L.length := by omega
              rw [e0, show ({ R with L := laid st (cacheOf l k) X.length R.L } : RS).L.length = R.L.length from laid_len _ _ _ _] at r0
              have hfs : Fr (fun j => j = b) wa (wa.setCell ⟨b, ps, none⟩ (.string pt)) := Fr.setCell wa b ps _ rfl
              have k0 : (wa.setCell ⟨b, ps, none⟩ (.string pt)).drew.cell? ⟨g, 0, none⟩ = some (.slice (some ⟨b, 0, none⟩) R.L.length cl) := by
                have e := (hfs.blk hxa.blk hgb).cell 0
                rw [← r0]
                exact e.trans (hxa.blk.cell 0).symm
              have k1 : (wa.setCell ⟨b, ps, none⟩ (.string pt)).drew.cell? ⟨z, 1, none⟩ = some (.int .i64 ps) := (hfs.blk hB hzb).cell 1
              have k2 : (wa.setCell ⟨b, ps, none⟩ (.string pt)).drew.cell? ⟨z, 2, none⟩ = some (.string pt) := (hfs.blk hB hzb).cell 2
              have hown5 := hfs.own hoa (fun kk hk e => by have := (World.ownsRow.lt hoa kk hk).1; have := hfb _ hbF; omega)
              have hxn : RX (wa.setCell ⟨b, ps, none⟩ (.string pt)) g F { R with L := laid st (cacheOf l k) (X.length + 1) R.L } vs := by
                rw [HLS.out, if_pos HT.out]; exact hu.1
              have HXN := Lib.hid hxn; have HU2 := Lib.hid hu.2; have HOW := Lib.hid hown5; clear hxn hown5 hu hfs
              generalize e0 = e0' at *
              clear e0' hxa
              go_wp2_with fail
              go_region_held3 (fun w' => w'.cell? ⟨g, 0, none⟩ = some (.slice (some ⟨b, 0, none⟩) R.L.length cl) ∧ w'.cell? ⟨z, 1, none⟩ = some (.int .i64 ps) ∧ w'.cell? ⟨z, 2, none⟩ = some (.string pt)) (first | exact ⟨k0, k1, k2⟩ | go_keep) (fail)
              all_goals
                go_wp2_with fail
                go_roundw
                case rel => exact ⟨i + 1, vint (by omega), by omega, by rw [HS1.out, if_pos HK.out, List.length_append]; exact vint (by simp), by rw [HS2.out, if_pos HK.out]; exact Fr.own_low (bdrewN (Below.refl _ _) 1) HOW.out, by rw [HS1.out, if_pos HK.out, List.length_append]; exact HXN.out.low (bdrewN (Below.refl _ _) 1), hfa.trans (HU2.out.trans (Fr.drewN _ _ 1))⟩
                case measure => simp [intOf]; omega
            | false =>
              have ht : st X.length = false := by rw [HSQ.out]; exact hq
              have HT := Lib.hid ht; clear ht
              have hxn : RX wa g F { R with L := laid st (cacheOf l k) (X.length + 1) R.L } vs := by
                rw [HLS.out, if_neg (by rw [HT.out]; simp)]; exact hxa
              have HXN := Lib.hid hxn; clear hxn hxa
              go_wp2_with fail
              go_roundw
              case rel => exact ⟨i + 1, vint (by omega), by omega, by rw [HS1.out, if_pos HK.out, List.length_append]; exact vint (by simp), by rw [HS2.out, if_pos HK.out]; exact hoa, by rw [HS1.out, if_pos HK.out, List.length_append]; exact HXN.out, hfa⟩
              case measure => simp [intOf]; omega
          · have ht : st X.length = false := by rw [HSTV.out, Bool.false_or, pickF_no (by have := hpa.len; omega)]
            have HT := Lib.hid ht; clear ht
            have hxn : RX wa g F { R with L := laid st (cacheOf l k) (X.length + 1) R.L } vs := by
              rw [HLS.out, if_neg (by rw [HT.out]; simp)]; exact hxa
            have HXN := Lib.hid hxn; clear hxn hxa
            go_wp2_with fail
            go_roundw
            case rel => exact ⟨i + 1, vint (by omega), by omega, by rw [HS1.out, if_pos HK.out, List.length_append]; exact vint (by simp), by rw [HS2.out, if_pos HK.out]; exact hoa, by rw [HS1.out, if_pos HK.out, List.length_append]; exact HXN.out, hfa⟩
            case measure => simp [intOf]; omega
      · have n1 : (pk != k) = true := by simp [hk]
        have HK := Lib.hid hk; clear hk
        have hsz : w.heap.size ≤ wa.heap.size := hfa.size
        go_wp2_with (at_builtin; refine wpList_append_any _ rfl (.tmp 33) (.tmp 35) 62 rfl w.heap.size 89 i0 _ 3 32 Try.underlying62 hinf hz0 hz1 hz2 rfl (by decide) _ _ _ rfl (hoa.alloc _) (wa.heap.size + 1) (some ⟨wa.heap.size, 0, none⟩) 1 1 (putk (pk, ps, pt)) rfl (Reads.new wa #[.int .i64 pk, .int .i64 ps, .string pt] 89 1 rfl rfl) (by simp [putk, Value.oneCell']) (by simp only [maxLen]; omega) (by omega) (by simp only [sz_alloc]; omega) ?_)
        intro v' w5 hown' hgrow hown''
        have hfr5 : Fr (fun k => u9.ownBlock = some k) wa w5 := (Fr.alloc _ _ _).trans (Fr.of_grown hgrow)
        have hx5 : RX w5 g F { R with L := laid st (cacheOf l k) X.length R.L } vs := hxa.keep hfr5 (fun kk hk hF => by have := (World.ownsRow.lt hoa kk hk).1; have := hfb _ hF; omega)
        have hf5 : Fr F w w5 := ⟨hfr5.os.trans hfa.os, hfr5.tape.trans hfa.tape, hfr5.output.trans hfa.output, Nat.le_trans hfa.size hfr5.size, fun kk h1 h2 => (hfr5.block kk (Nat.lt_of_lt_of_le h1 hfa.size) (fun e => by have := (World.ownsRow.lt hoa kk e).1; omega)).trans (hfa.block kk h1 h2)⟩
        clear hfr5 hxa
        go_wp2_with fail
        go_roundw
        case rel => exact ⟨i + 1, vint (by omega), by omega, by rw [HS1.out, if_neg HK.out], by rw [HS2.out, if_neg HK.out, cellsK_snoc, List.length_append]; exact hown', by rw [HS1.out, if_neg HK.out]; exact hx5, hf5⟩
        case measure => simp [intOf]; omega
    · obtain rfl : i = l.length := by omega
      rw [List.take_length] at ho hx hle hle2
      rw [List.take_length]
      have hgw : g < wr.heap.size := hx.blk.lt
      have hf3 := hx.blk.frozen 3
      have hu := hx.updB (R' := { R with L := laid st (cacheOf l k) (cacheOf l k).length R.L, puts := restOf l k }) w.heap.size hfb 3 (by omega) (Fr.refl _ _) (v' := u9) (own_mono ho)
        (fun j hj hne w v hr => by rcases j with _ | _ | _ | _ | _ | j; exact hr; exact hr; exact hr; exact absurd rfl hne; exact hr; omega)
        (by
          rcases hv : u9.ownBlock with _ | kk
          · exact .inr (.inl rfl)
          · exact .inr (.inr ⟨kk, rfl, (World.ownsRow.lt ho kk hv).1⟩))
      have hfin : AftS w (wr.setCell ⟨g, 3, none⟩ u9) g F R (fSettle R.ds k st) (restOf l k) := by
        refine ⟨_, { R with L := laid st (cacheOf l k) (cacheOf l k).length R.L, puts := restOf l k }, ⟨⟨_, hu.1⟩, ⟨by rw [laid_len]; exact hok.l0, hok.on, fun p hp => by rw [laid_len]; exact HOKP.out p (List.mem_filter.1 hp).1, hok.pend⟩, ⟨by rw [laid_len]; exact hcp.l, hcp.ks, hle, hcp.pend⟩⟩, ?_, ⟨laid_len _ _ _ _, rfl, rfl, rfl, by rw [HL.out]; exact restOf_le _ _⟩, rfl, hf.trans hu.2, fun k hk => hk.imp id fun e => e.1⟩
        unfold fSettle RS.ds DS.setCache DS.setLies
        dsimp only
        rw [HL.out, cacheOf_rest]
      have HF := Lib.hid hfin; clear hfin hu hx
      obtain ⟨A8, c8, rfl, _, _⟩ := Reads.of_own ho
      clear ho
      go_wp2_with fail
      go_ret
      exact ⟨rfl, HF.out⟩
end
end Go.Proofs.Ytekgoliakgknjaa
