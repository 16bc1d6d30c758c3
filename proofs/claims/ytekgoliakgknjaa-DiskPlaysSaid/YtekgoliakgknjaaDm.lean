import Derived.Test.YtekgoliakgknjaaDl
namespace Go.Proofs.Ytekgoliakgknjaa
open Go.RowKit
set_option linter.unusedVariables false
attribute [local go_sem] b_max2 b_min2 b_max b_min

theorem bool_info : (Try.prog.info? 4).map (fun i => (i.zero, i.size, i.bytes)) = some (some (.bool false), 1, 1) := by kernel_rfl
theorem kput_info : (Try.prog.info? 89).map (fun i => (i.zero, i.size, i.bytes)) = some (some (.agg #[.int .i64 0, .int .i64 0, .string ⟨#[]⟩]), 3, 32) := by kernel_rfl
/-- what grows by one at most -/
structure Grow (R R' : RS) : Prop where
  l : R'.L.length = R.L.length
  ks : R'.ks.length ≤ R.ks.length + 1
  puts : R'.puts.length ≤ R.puts.length + 1
  pend : R'.pend.length ≤ R.pend.length + 1
theorem Grow.refl (R : RS) : Grow R R := ⟨rfl, by omega, by omega, by omega⟩
def AftR (w w' : World) (g : Nat) (F : Nat → Prop) (R : RS) (d' : DS) : Prop := ∃ F' R', IsR w' g F' R' ∧ R'.ds = d' ∧ Grow R R' ∧ Fr F w w' ∧ ∀ k, F' k → F k ∨ w.heap.size ≤ k
section
variable {w w' w1 : World} {g : Nat} {F G : Nat → Prop} {R R' : RS} {vs : Nat → Value}
theorem AftR.stay (h : IsR w g F R) : AftR w w g F R R.ds := ⟨F, R, h, rfl, Grow.refl R, Fr.refl _ _, fun _ h => .inl h⟩
theorem AftR.of (h : RX w' g (Fup F w w') R' vs) (hfr : Fr F w w') (hok : R'.ok) (hcap : R'.cap) (hg : Grow R R') : AftR w w' g F R R'.ds :=
  ⟨_, R', ⟨⟨vs, h⟩, hok, hcap⟩, rfl, hg, hfr, fun k hk => hk.imp id fun e => e.1⟩
theorem Fr.step {F F1 F2 : Nat → Prop} {w w1 w2 : World} (h1 : Fr F w w1) (k1 : ∀ k, F1 k → F k ∨ w.heap.size ≤ k) (h2 : Fr F1 w1 w2) (k2 : ∀ k, F2 k → F1 k ∨ w1.heap.size ≤ k) : Fr F w w2 ∧ ∀ k, F2 k → F k ∨ w.heap.size ≤ k :=
  ⟨⟨h2.os.trans h1.os, h2.tape.trans h1.tape, h2.output.trans h1.output, Nat.le_trans h1.size h2.size, fun k hk hf => (h2.block k (Nat.lt_of_lt_of_le hk h1.size) (fun e => (k1 k e).elim hf (fun e => by omega))).trans (h1.block k hk hf)⟩,
    fun k hk => (k2 k hk).elim (k1 k) (fun e => .inr (Nat.le_trans h1.size e))⟩
theorem fup_b (F : Nat → Prop) (w w' : World) : ∀ k, Fup F w w' k → F k ∨ w.heap.size ≤ k := fun k hk => hk.imp id fun e => e.1
theorem keyOf_snoc (ks : List Int) (on : List Bool) (k : Int) (hk : k ∉ ks) (ho : on.length = ks.length) : keyOf (ks ++ [k]) (on ++ [true]) = fun j => if j = k then some true else keyOf ks on j := by
  funext j
  unfold keyOf
  by_cases hj : j ∈ ks
  · have hjk : j ≠ k := fun e => hk (e ▸ hj)
    have := List.idxOf_lt_length_iff.2 hj
    rw [if_pos (by simp [hj]), if_neg hjk, if_pos hj, List.idxOf_append, if_pos hj, List.getD_eq_getElem?_getD, List.getElem?_append_left (by omega), ← List.getD_eq_getElem?_getD]
  · by_cases hjk : j = k
    · subst hjk
      rw [if_pos (by simp), if_pos rfl, List.idxOf_append, if_neg hj, List.idxOf_cons_self, List.getD_eq_getElem?_getD, List.getElem?_append_right (by omega), show 0 + ks.length - on.length = 0 by omega]
      rfl
    · rw [if_neg (by simp [hj, hjk]), if_neg hjk, if_neg hj]
set_option maxRecDepth 100000 in
set_option maxHeartbeats 1000000 in
theorem rregister_any (h : IsR w g F R) (k : Int) (hl : R.ks.length < 20000) :
    Calls Try.prog 29 #[.pointer (some ⟨g, 0, none⟩), .int .i64 k] w fun e w' => e = .returned (.int .i64 (fReg R.ds k).2) ∧ AftR w w' g F R (fReg R.ds k).1 := by
  have hf := rfind_any h k
  have hl0 := h.ok.l0
  unfold fReg
  rw [show R.ds.lies = R.L from rfl, show R.ds.keys k = keyOf R.ks R.on k from rfl]
  by_cases h1 : k < 1
  · rw [if_pos (.inr h1)]
    have hst := AftR.stay h
    clear h
    go_enter Try.func29, Try.ntmps29
    go_wp2_with fail
    go_ret
    exact ⟨rfl, hst⟩
  · rw [if_neg (by omega)]
    by_cases h2 : k ∈ R.ks
    · rw [show (keyOf R.ks R.on k).isSome = true by rw [keyOf, if_pos h2]; rfl, if_pos rfl]
      have hst := AftR.stay h
      have e1 : fFind R.ks k = (R.ks.idxOf k : Nat) := if_pos h2
      rw [e1] at hf
      clear h e1
      go_enter Try.func29, Try.ntmps29
      go_wp2_with fail
      refine hf.mono ?_
      rintro e w' ⟨rfl, rfl⟩
      go_wp2_with fail
      go_ret
      exact ⟨rfl, hst⟩
    · rw [show (keyOf R.ks R.on k).isSome = false by rw [keyOf, if_neg h2]; rfl, if_neg (by simp)]
      have e1 : fFind R.ks k = -1 := if_neg h2
      rw [e1] at hf
      obtain ⟨i0, hi, hz0, hz1, hz2⟩ := info_parts int_info
      obtain ⟨i1, ji, jz0, jz1, jz2⟩ := info_parts bool_info
      have hcp := h.cap
      have hok := h.ok
      have hon := h.ok.on
      obtain ⟨vs, h⟩ := h.x
      have hgl := h.blk.lt
      have ho1 : w.ownsRow 0 3 1 (vs 1) R.ks.length (R.ks.map (Value.int .i64)) := h.row 1 (by omega)
      have ho2 : w.ownsRow 0 4 1 (vs 2) R.on.length (R.on.map Value.bool) := h.row 2 (by omega)
      have c1 : w.cell? ⟨g, 1, none⟩ = some (vs 1) := by simpa using h.blk.cell 1
      obtain ⟨A1, d1, e1', _, _⟩ := Reads.of_own ho1
      obtain ⟨A2, d2, e2', _, _⟩ := Reads.of_own ho2
      rw [e1'] at c1
      have ho1' := ho1
      rw [e1'] at ho1'
      have H := Lib.hid h; have HO2 := Lib.hid ho2; have HE1 := Lib.hid e1'; have HE2 := Lib.hid e2'
      have HON := Lib.hid hon
      have hol : R.on.length < 20000 := by omega
      clear h ho1 ho2 e1' e2' hon
      go_enter Try.func29, Try.ntmps29
      go_wp2_with fail
      refine hf.mono ?_
      rintro e w' ⟨rfl, rfl⟩
      go_wp2_with (at_builtin; refine wpList_append_any _ rfl (.tmp 15) (.tmp 17) 31 rfl 0 3 i0 _ 1 8 Try.underlying31 hi hz0 hz1 hz2 rfl (by decide) _ _ _ rfl (ho1'.alloc _) (w.heap.size + 1) (some ⟨w.heap.size, 0, none⟩) 1 1 [.int .i64 k] rfl (Reads.new w #[.int .i64 k] 3 1 rfl rfl) (by simp [Value.oneCell']) (by simp only [maxLen]; omega) (by omega) (Nat.zero_le _) ?_)
      intro v' w1 hown' hgrow hob
      have hfr : Fr (fun k => (vs 1).ownBlock = some k) w w1 := by rw [HE1.out]; exact (Fr.alloc _ _ _).trans (Fr.of_grown hgrow)
      have hb1 := hfr.blk H.out.blk (fun e => (H.out.fo 1 (by omega) g e).2 rfl)
      have hc1 : w1.cell? ⟨g, 1, none⟩ = some (vs 1) := by simpa using hb1.cell 1
      have hf1 := hb1.frozen 1
      have hu := H.out.upd (R' := { R with ks := R.ks ++ [k] }) 1 (by omega) hfr (v' := v') (by
          show w1.ownsRow 0 3 1 v' (R.ks ++ [k]).length ((R.ks ++ [k]).map (Value.int .i64))
          rw [List.length_append, List.map_append]; exact hown')
        (fun j hj hne w v hr => by rcases j with _ | _ | _ | _ | _ | j; exact hr; exact absurd rfl hne; exact hr; exact hr; exact hr; omega)
        (by rcases hob with e | e; exact .inl (by rw [HE1.out]; exact e); exact .inr (.inr ⟨_, e, by simp⟩))
      have HU := Lib.hid hu; clear hu
      obtain ⟨A', c', rfl, _, _⟩ := Reads.of_own hown'
      clear hown' hgrow hob ho1' hb1
      have hsz1 : w.heap.size ≤ w1.heap.size := hfr.size
      have ho2x : (w1.setCell ⟨g, 1, none⟩ (.slice A' (R.ks.length + 1) c')).ownsRow 0 4 1 (.slice A2 R.on.length d2) R.on.length (R.on.map Value.bool) := by
        rw [← HE2.out]; exact HU.out.1.row 2 (by omega)
      have c2 : (w1.setCell ⟨g, 1, none⟩ (.slice A' (R.ks.length + 1) c')).cell? ⟨g, 2, none⟩ = some (.slice A2 R.on.length d2) := by
        rw [← HE2.out]; simpa using HU.out.1.blk.cell 2
      have hf2 := HU.out.1.blk.frozen 2
      clear hfr
      go_wp2_with (at_builtin; refine wpList_append_any _ rfl (.tmp 25) (.tmp 26) 61 rfl 0 4 i1 _ 1 1 Try.underlying61 ji jz0 jz1 jz2 rfl (by decide) _ _ _ rfl (ho2x.alloc _) (w1.heap.size + 1) (some ⟨w1.heap.size, 0, none⟩) 1 1 [.bool true] rfl (Reads.new _ #[.bool true] 4 1 rfl (by simp)) (by simp [Value.oneCell']) (by simp only [maxLen]; omega) (by omega) (Nat.zero_le _) ?_)
      intro v2 w3 hown2 hgrow2 hob2
      have hfr2 : Fr (fun k => (vs 2).ownBlock = some k) (w1.setCell ⟨g, 1, none⟩ (.slice A' (R.ks.length + 1) c')) w3 := by rw [HE2.out]; exact (Fr.alloc _ _ _).trans (Fr.of_grown hgrow2)
      have hb3 := hfr2.blk HU.out.1.blk (fun e => (H.out.fo 2 (by omega) g e).2 rfl)
      have hc3 : w3.cell? ⟨g, 2, none⟩ = some (vs 2) := by simpa using hb3.cell 2
      have hf3 := hb3.frozen 2
      have hu2 := HU.out.1.upd (R' := { R with ks := R.ks ++ [k], on := R.on ++ [true] }) 2 (by omega) hfr2 (v' := v2) (by
          show w3.ownsRow 0 4 1 v2 (R.on ++ [true]).length ((R.on ++ [true]).map Value.bool)
          rw [List.length_append, List.map_append]; exact hown2)
        (fun j hj hne w v hr => by rcases j with _ | _ | _ | _ | _ | j; exact hr; exact hr; exact absurd rfl hne; exact hr; exact hr; omega)
        (by rcases hob2 with e | e; exact .inl (by show _ = (vs 2).ownBlock; rw [HE2.out]; exact e); exact .inr (.inr ⟨_, e, by simp⟩))
      have hfin : AftR w (w3.setCell ⟨g, 2, none⟩ v2) g F R { R.ds with keys := fun j => if j = k then some true else R.ds.keys j } := by
        have hs := Fr.step HU.out.2 (fup_b _ _ _) hu2.2 (fup_b _ _ (w3.setCell ⟨g, 2, none⟩ v2))
        refine ⟨_, { R with ks := R.ks ++ [k], on := R.on ++ [true] }, ⟨⟨_, hu2.1⟩, ⟨hl0, by simp [HON.out], hok.puts, fun x hx => by have := hok.pend x hx; simp [this]⟩, ⟨hcp.l, by simp; omega, hcp.puts, hcp.pend⟩⟩, ?_, ⟨rfl, by simp, Nat.le_succ _, Nat.le_succ _⟩, hs.1, hs.2⟩
        unfold RS.ds
        dsimp only
        rw [keyOf_snoc _ _ _ h2 HON.out]
      have HF := Lib.hid hfin; clear hfin hu2
      obtain ⟨A'', c'', rfl, _, _⟩ := Reads.of_own hown2
      clear hown2 hgrow2 hob2 hb3 hfr2
      go_wp2_with fail
      go_ret
      exact ⟨rfl, HF.out⟩
theorem cacheOf_snoc (l : List KPut) (p : KPut) : cacheOf (l ++ [p]) = fun j => if j = p.1 then cacheOf l p.1 ++ [p.2] else cacheOf l j := by
  funext j
  unfold cacheOf
  rw [List.filter_append, List.map_append]
  by_cases hj : j = p.1
  · rw [if_pos hj, List.filter_cons, if_pos (by rw [hj]; simp), List.filter_nil, hj]; rfl
  · rw [if_neg hj, List.filter_cons, if_neg (by simp; exact fun e => hj e.symm), List.filter_nil]; simp
theorem fMay_odd (d : DS) (k s : Int) (o : Bool) : fMay d k s o = if o = true then 1 else fMay d k s false := by
  unfold fMay
  cases o with
  | true => simp
  | false => simp
set_option maxRecDepth 100000 in
set_option maxHeartbeats 1000000 in
theorem rwrite_any (h : IsR w g F R) (k s : Int) (t : ByteArray) (hl : R.puts.length < 20000) :
    Calls Try.prog 31 #[.pointer (some ⟨g, 0, none⟩), .int .i64 k, .int .i64 s, .string t] w fun e w' => e = .returned (.int .i64 (fWrite R.ds k s t).2) ∧ AftR w w' g F R (fWrite R.ds k s t).1 := by
  have hm := rmay_any h k s
  have hst := AftR.stay h
  have hres : fWrite R.ds k s t = (if (if oddB t = true then 1 else fMay R.ds k s false) = 0 then R.ds.setCache k (R.ds.caches k ++ [(s.toNat, t)]) else R.ds, if oddB t = true then 1 else fMay R.ds k s false) := by
    rw [fWrite, fMay_odd]
  rw [hres]
  clear hres
  have hrng : fMay R.ds k s false = 0 → 0 ≤ s ∧ s < R.L.length := fun e => by obtain ⟨a, b, _⟩ := may_zero e; exact ⟨a, b⟩
  generalize fMay R.ds k s false = m at *
  unfold oddB at *
  by_cases h1 : m = 1
  · have e1 : (m == 1) = true := by rw [h1]; rfl
    have e2 : (if ((t.size : Int) != 512) = true then (1 : Int) else m) = 1 := by rw [h1]; split <;> rfl
    rw [e2, if_neg (by omega)]
    clear h e2 h1 hrng
    go_enter Try.func31, Try.ntmps31
    go_wp2_with fail
    refine hm.mono ?_
    rintro e w' ⟨rfl, rfl⟩
    go_wp2_with fail
    go_ret
    exact ⟨rfl, hst⟩
  · have e1 : (m == 1) = false := by rw [beq_eq_false_iff_ne]; exact h1
    cases hodd : ((t.size : Int) != 512) with
    | true =>
      rw [if_pos rfl, if_neg (by omega)]
      clear h h1 hrng
      go_enter Try.func31, Try.ntmps31
      go_wp2_with fail
      refine hm.mono ?_
      rintro e w' ⟨rfl, rfl⟩
      go_wp2_with fail
      go_ret
      exact ⟨rfl, hst⟩
    | false =>
      rw [show (if (false = true) then (1 : Int) else m) = m from if_neg (by simp)]
      by_cases h0 : m = 0
      · rw [if_pos h0]
        obtain ⟨s0, s1⟩ := hrng h0
        obtain ⟨n, rfl⟩ := Int.eq_ofNat_of_zero_le s0
        rw [h0] at hm ⊢
        obtain ⟨i0, hi, hz0, hz1, hz2⟩ := info_parts kput_info
        have hcp := h.cap
        have hok := h.ok
        obtain ⟨vs, h⟩ := h.x
        have hgl := h.blk.lt
        have ho1 : w.ownsRow 0 89 3 (vs 3) R.puts.length (cellsK R.puts) := h.row 3 (by omega)
        have c1 : w.cell? ⟨g, 3, none⟩ = some (vs 3) := by simpa using h.blk.cell 3
        obtain ⟨A1, d1, e1', _, _⟩ := Reads.of_own ho1
        rw [e1'] at c1 ho1
        have H := Lib.hid h; have HE1 := Lib.hid e1'
        clear h e1' e1 h1 s0 hrng hst h0
        go_enter Try.func31, Try.ntmps31
        go_wp2_with fail
        refine hm.mono ?_
        rintro e w' ⟨rfl, rfl⟩
        go_wp2_with (at_builtin; refine wpList_append_any _ rfl (.tmp 28) (.tmp 33) 62 rfl 0 89 i0 _ 3 32 Try.underlying62 hi hz0 hz1 hz2 rfl (by decide) _ _ _ rfl (ho1.alloc _) (w.heap.size + 1) (some ⟨w.heap.size, 0, none⟩) 1 1 (putk (k, n, t)) rfl (Reads.new w #[.int .i64 k, .int .i64 n, .string t] 89 1 rfl rfl) (by simp [putk, Value.oneCell']) (by simp only [maxLen]; omega) (by omega) (Nat.zero_le _) ?_)
        intro v' w1 hown' hgrow hob
        have hfr : Fr (fun k => (vs 3).ownBlock = some k) w w1 := by rw [HE1.out]; exact (Fr.alloc _ _ _).trans (Fr.of_grown hgrow)
        have hb1 := hfr.blk H.out.blk (fun e => (H.out.fo 3 (by omega) g e).2 rfl)
        have hc1 : w1.cell? ⟨g, 3, none⟩ = some (vs 3) := by simpa using hb1.cell 3
        have hf1 := hb1.frozen 3
        have hu := H.out.upd (R' := { R with puts := R.puts ++ [(k, n, t)] }) 3 (by omega) hfr (v' := v') (by
            show w1.ownsRow 0 89 3 v' (R.puts ++ [(k, n, t)]).length (cellsK (R.puts ++ [(k, n, t)]))
            rw [List.length_append, cellsK_snoc]; exact hown')
          (fun j hj hne w v hr => by rcases j with _ | _ | _ | _ | _ | j; exact hr; exact hr; exact hr; exact absurd rfl hne; exact hr; omega)
          (by rcases hob with e | e; exact .inl (by rw [HE1.out]; exact e); exact .inr (.inr ⟨_, e, by simp⟩))
        have hfin : AftR w (w1.setCell ⟨g, 3, none⟩ v') g F R (R.ds.setCache k (R.ds.caches k ++ [((n : Int).toNat, t)])) := by
          have := AftR.of (R := R) hu.1 hu.2 ⟨hok.l0, hok.on, fun p hp => by
            rcases List.mem_append.1 hp with hp | hp
            · exact hok.puts p hp
            · rw [List.mem_singleton.1 hp]; show n < R.L.length; omega, hok.pend⟩ ⟨hcp.l, hcp.ks, by simp; omega, hcp.pend⟩ ⟨rfl, Nat.le_succ _, by simp, Nat.le_succ _⟩
          have e : ({ R with puts := R.puts ++ [(k, n, t)] } : RS).ds = R.ds.setCache k (R.ds.caches k ++ [((n : Int).toNat, t)]) := by
            unfold RS.ds DS.setCache
            dsimp only
            rw [cacheOf_snoc]; rfl
          rw [e] at this
          exact this
        have HF := Lib.hid hfin; clear hfin hu
        obtain ⟨A'', c'', rfl, _, _⟩ := Reads.of_own hown'
        clear hown' hgrow hob hb1 hfr
        go_wp2_with fail
        go_ret
        exact ⟨rfl, HF.out⟩
      · rw [if_neg h0]
        have e2 : (m != 0) = true := by simp [h0]
        clear h h1 h0 hrng
        go_enter Try.func31, Try.ntmps31
        go_wp2_with fail
        refine hm.mono ?_
        rintro e w' ⟨rfl, rfl⟩
        go_wp2_with fail
        go_ret
        exact ⟨rfl, hst⟩
end
end Go.Proofs.Ytekgoliakgknjaa
