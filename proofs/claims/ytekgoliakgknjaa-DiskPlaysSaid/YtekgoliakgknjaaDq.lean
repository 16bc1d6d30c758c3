import Derived.Test.YtekgoliakgknjaaDp
namespace Go.Proofs.Ytekgoliakgknjaa
open Go.RowKit
set_option linter.unusedVariables false
attribute [local go_sem] b_max2 b_min2 b_max b_min

/-- how many writes lie in the document's caches -/
def putsAt (w : World) (g : Nat) : Nat := match w.cell? ⟨g, 3, none⟩ with
  | some (.slice _ n _) => n
  | _ => 0
theorem mem_cache {l : List KPut} {k : Int} : cacheOf l k ≠ [] ↔ ∃ p ∈ l, p.1 = k := by
  unfold cacheOf
  rw [Ne, List.map_eq_nil_iff, List.filter_eq_nil_iff]
  constructor
  · intro h
    apply Classical.byContradiction
    intro hn
    exact h fun p hp e => hn ⟨p, hp, by simpa using e⟩
  · rintro ⟨p, hp, e⟩ h
    exact h p hp (by simp [e])
section
variable {w w' w1 : World} {g : Nat} {F G : Nat → Prop} {R R' : RS} {vs : Nat → Value}
theorem IsR.puts3 (h : IsR w g F R) : ∃ A c, w.cell? ⟨g, 3, none⟩ = some (.slice A R.puts.length c) ∧ Reads w w.heap.size 3 A R.puts.length (cellsK R.puts) := by
  obtain ⟨vs, h⟩ := h.x
  have c3 : w.cell? ⟨g, 3, none⟩ = some (vs 3) := by simpa using h.blk.cell 3
  obtain ⟨A, c, e1, _, hR⟩ := Reads.of_own (show w.ownsRow 0 89 3 (vs 3) R.puts.length (cellsK R.puts) from h.row 3 (by omega))
  rw [e1] at c3
  exact ⟨A, c, c3, hR⟩
theorem IsR.putsAt (h : IsR w g F R) : putsAt w g = R.puts.length := by
  obtain ⟨A, c, e, _⟩ := h.puts3
  unfold Go.Proofs.Ytekgoliakgknjaa.putsAt
  rw [e]
/-- the head of the keys is the least one -/
theorem head_least {ms : List Int} {l : List KPut} (m1 : ms.Pairwise (· < ·)) (m2 : ∀ k, k ∈ ms ↔ cacheOf l k ≠ []) {y : Int} (hy : ∃ p ∈ l, p.1 = y) (hle : ∀ p ∈ l, y ≤ p.1) : ∃ t, ms = y :: t := by
  have hm : y ∈ ms := (m2 y).2 (mem_cache.2 hy)
  cases ms with
  | nil => cases hm
  | cons a t =>
    refine ⟨t, ?_⟩
    obtain ⟨p, hp, e⟩ := mem_cache.1 ((m2 a).1 (by simp))
    have h1 := hle p hp
    rcases List.mem_cons.1 hm with e2 | e2
    · rw [e2]
    · have := (List.pairwise_cons.1 m1).1 y e2
      omega
set_option maxRecDepth 100000 in
set_option maxHeartbeats 2000000 in
theorem rpower_any (h : IsR w g F R) (A : Option Addr) (n c : Nat) (zs : List Int) (hp : Picks w F A n zs) (hc : n ≤ c) (hn : n ≤ 100000) (ms : List Int) (m1 : ms.Pairwise (· < ·)) (m2 : ∀ k, k ∈ ms ↔ R.ds.caches k ≠ []) :
    Calls Try.prog 37 #[.pointer (some ⟨g, 0, none⟩), .slice A n c] w fun e w' => e = .returned (.tuple #[]) ∧ AftR w w' g F R ((fPow ms zs R.ds).setPend []) := by
  go_enter Try.func37, Try.ntmps37
  go_wp2_with fail
  go_loopw [1] (fun pv wr => ∃ (n' c' : Nat) (A' : Option Addr) (zs' ms' : List Int) (F' : Nat → Prop) (R' : RS), pv = .slice A' n' c' ∧ n' ≤ c' ∧ n' ≤ 100000 ∧ IsR wr g F' R' ∧ Hid (Fr F w wr ∧ (∀ k, F' k → F k ∨ w.heap.size ≤ k) ∧ Picks wr F' A' n' zs' ∧ Less R R' ∧ ms'.Pairwise (· < ·) ∧ (∀ k, k ∈ ms' ↔ cacheOf R'.puts k ≠ []) ∧ fPow ms' zs' R'.ds = fPow ms zs R.ds)) (fun pv wr => putsAt wr g)
  case atStart => exact ⟨n, c, A, zs, ms, F, R, rfl, hc, hn, h, Lib.hid ⟨Fr.refl _ _, fun _ h => .inl h, hp, ⟨rfl, rfl, rfl, rfl, Nat.le_refl _⟩, m1, m2, rfl⟩⟩
  case round =>
    clear h hp hn hc m1 m2
    obtain ⟨n', c', A', zs', ms', F', R', rfl, hc', hn', hr, hh⟩ := hrel
    obtain ⟨A3, d3, c3, hR3⟩ := hr.puts3
    have hcap := hr.cap.puts
    have hpa := hr.putsAt
    by_cases hpos : 0 < R'.puts.length
    · obtain ⟨ad, rfl, _, k0, k1, k2⟩ := kputs_at hR3 hpos
      have hmem0 : R'.puts[0] ∈ R'.puts := List.getElem_mem _
      have HR := Lib.hid hr; have HPA := Lib.hid hpa; clear hr hpa
      generalize hl : R'.puts = l at *
      have HL := Lib.hid hl; clear hl
      generalize l[0] = p0 at *
      have k0' : wr.cell? ad = some (.int .i64 p0.1) := k0
      have HM := Lib.hid hmem0; clear hmem0
      go_upto_block 2 with (fail)
      go_cut [4] (fun v w' => wr = w' ∧ ∃ y, v = .int .i64 y ∧ (∃ p ∈ l, p.1 = y) ∧ ∀ p ∈ l, y ≤ p.1)
      case first =>
        go_wp2_with fail
        go_loopw [4, 5] (fun v p w' => ∃ (i : Nat) (y : Int), p = .int .i64 i ∧ i ≤ l.length ∧ v = .int .i64 y ∧ Hid ((∃ p ∈ l, p.1 = y) ∧ ∀ p ∈ l.take i, y ≤ p.1) ∧ wr = w') (fun _ p _ => l.length - (intOf p).toNat)
        case atStart => exact ⟨0, p0.1, rfl, by omega, rfl, Lib.hid ⟨⟨p0, HM.out, rfl⟩, by simp⟩, rfl⟩
        case round =>
          obtain ⟨i, y, rfl, hi, rfl, hy, rfl⟩ := hrel
          by_cases hlt : i < l.length
          · obtain ⟨ad', e', _, q0, _, _⟩ := kputs_at hR3 hlt
            obtain rfl := Option.some.inj e'
            have hmi : l[i] ∈ l := List.getElem_mem _
            have hs : l.take (i + 1) = l.take i ++ [l[i]] := List.take_succ_eq_append_getElem hlt
            generalize l[i] = p at *
            have HS := Lib.hid hs; have HMI := Lib.hid hmi; clear hs hmi e'
            by_cases hlt2 : p.1 < y
            · have hd : decide (p.1 < y) = true := by rw [decide_eq_true_eq]; exact hlt2
              go_wp2_with fail
              go_roundw
              case rel => exact ⟨i + 1, p.1, vint (by omega), by omega, rfl, Lib.hid ⟨⟨p, HMI.out, rfl⟩, by
                rw [HS.out]
                intro x hx
                rcases List.mem_append.1 hx with hx | hx
                · have := hy.out.2 x hx; omega
                · rw [List.mem_singleton.1 hx]; omega⟩, by first | rfl | trivial⟩
              case measure => simp [intOf]; omega
            · have hd : decide (p.1 < y) = false := by rw [decide_eq_false_iff_not]; exact hlt2
              go_wp2_with fail
              go_roundw
              case rel => exact ⟨i + 1, y, vint (by omega), by omega, rfl, Lib.hid ⟨hy.out.1, by
                rw [HS.out]
                intro x hx
                rcases List.mem_append.1 hx with hx | hx
                · exact hy.out.2 x hx
                · rw [List.mem_singleton.1 hx]; omega⟩, by first | rfl | trivial⟩
              case measure => simp [intOf]; omega
          · obtain rfl : i = l.length := by omega
            have hy' := hy.out
            rw [List.take_length] at hy'
            have HY := Lib.hid hy'; clear hy hy'
            go_wp2_with fail
            all_goals go_meet
            all_goals exact ⟨rfl, y, rfl, HY.out⟩
      case rest =>
      obtain ⟨rfl, y, rfl, hy1, hy2⟩ := hcut
      obtain ⟨hf, hF, hpk, hls, hpw, hmm, heq⟩ := hh.out
      have hmm' := hmm
      obtain ⟨t, rfl⟩ := head_least hpw hmm' hy1 hy2
      have hs := rsettle_any HR.out y A' n' c' zs' hpk false
      rw [HL.out] at hs
      have hcl := restOf_len l y
      have hcne : 0 < (cacheOf l y).length := List.length_pos_iff.2 ((hmm' y).1 (by simp))
      have hstep : fPow (y :: t) zs' R'.ds = fPow t (zs'.drop (cacheOf l y).length) (fSettle R'.ds y (pickF zs')) := by
        rw [fPow, show R'.ds.caches y = cacheOf l y by rw [← HL.out]; rfl]
      generalize (cacheOf l y).length = L at *
      have HALL := Lib.hid (And.intro hf (And.intro hF (And.intro hpk (And.intro hls (And.intro hpw (And.intro hmm (hstep.symm.trans heq)))))))
      have HCL := Lib.hid hcl
      have hLc : L ≤ 20000 := by omega
      clear hf hF hpk hls hpw hmm hmm' heq hh hstep hy1 hy2 hR3 k0 k1 k2 c3 hcl
      have fin : ∀ (m : Nat) (wz : World), m = min L n' → AftS wr wz g F' R' (fSettle R'.ds y (pickF zs')) (restOf l y) → (∃ (n'' c'' : Nat) (A'' : Option Addr) (zs'' ms'' : List Int) (F'' : Nat → Prop) (R'' : RS), Value.slice (if c' = m then A' else A'.map (·.add m)) (n' - m) (c' - m) = .slice A'' n'' c'' ∧ n'' ≤ c'' ∧ n'' ≤ 100000 ∧ IsR wz g F'' R'' ∧ Hid (Fr F w wz ∧ (∀ k, F'' k → F k ∨ w.heap.size ≤ k) ∧ Picks wz F'' A'' n'' zs'' ∧ Less R R'' ∧ ms''.Pairwise (· < ·) ∧ (∀ k, k ∈ ms'' ↔ cacheOf R''.puts k ≠ []) ∧ fPow ms'' zs'' R''.ds = fPow ms zs R.ds)) ∧ putsAt wz g < putsAt wr g := by
        rintro m wz rfl ⟨F'', R'', a1, a2, a3, a4, a5, a6⟩
        obtain ⟨hf, hF, hpk, hls, hpw, hmm, heq⟩ := HALL.out
        have hfs := Fr.step hf hF a5 a6
        refine ⟨⟨n' - min L n', c' - min L n', _, zs'.drop (min L n'), t, F'', R'', rfl, by omega, by omega, a1, Lib.hid ⟨hfs.1, hfs.2, (hpk.up a5 a6).drop hc' _ (by omega), hls.trans a3, (List.pairwise_cons.1 hpw).2, fun k => ?_, ?_⟩⟩, ?_⟩
        · have e1 : cacheOf R''.puts k = if k = y then [] else cacheOf l k := by
            have := congrArg (fun d => DS.caches d k) a2
            rw [← HL.out]; exact this
          rw [e1]
          by_cases hk : k = y
          · rw [if_pos hk]
            refine ⟨fun e => ?_, fun e => absurd rfl e⟩
            have := (List.pairwise_cons.1 hpw).1 k e
            omega
          · rw [if_neg hk, ← hmm k, List.mem_cons]
            exact ⟨.inr, fun e => e.resolve_left hk⟩
        · rw [a2, ← heq]
          congr 1
          by_cases hmL : L ≤ n'
          · rw [show min L n' = L by omega]
          · rw [List.drop_of_length_le (show zs'.length ≤ min L n' by rw [hpk.len]; omega), List.drop_of_length_le (by rw [hpk.len]; omega)]
        · rw [a1.putsAt, HR.out.putsAt, a4, HL.out]
          have := HCL.out
          omega
      have FIN := Lib.hid fin; have HSE := Lib.hid hs; clear fin hs
      by_cases hLn : L ≤ n'
      · have hd : decide ((n' : Int) < (L : Int)) = false := by rw [decide_eq_false_iff_not]; omega
        go_wp2_with fail
        refine HSE.out.mono ?_
        rintro e wz ⟨rfl, h2⟩
        have HZ := Lib.hid (FIN.out L wz (by omega) h2)
        clear h2
        go_wp2_with fail
        exact HZ.out
      · have hd : decide ((n' : Int) < (L : Int)) = true := by rw [decide_eq_true_eq]; omega
        go_wp2_with fail
        refine HSE.out.mono ?_
        rintro e wz ⟨rfl, h2⟩
        have HZ := Lib.hid (FIN.out n' wz (by omega) h2)
        clear h2
        go_wp2_with fail
        have hz := HZ.out
        rw [Nat.sub_self] at hz
        exact hz
    · have h0 : R'.puts.length = 0 := by omega
      have hnil : R'.puts = [] := List.eq_nil_of_length_eq_zero h0
      obtain ⟨hf, hF, hpk, hls, hpw, hmm, heq⟩ := hh.out
      have hms : ms' = [] := by
        cases ms' with
        | nil => rfl
        | cons a t => exact absurd (by rw [hnil]; rfl) ((hmm a).1 (by simp))
      subst hms
      have hok := hr.ok
      have hcp := hr.cap
      obtain ⟨vs, hx⟩ := hr.x
      have f4 := hx.blk.frozen 4
      have c4 : wr.cell? ⟨g, 4, none⟩ = some (vs 4) := by simpa using hx.blk.cell 4
      have hu := hx.upd (R' := { R' with pend := [] }) 4 (by omega) (Fr.refl _ _) (v' := .slice none 0 0) (ORow.nil _ _)
        (fun j hj hne w v hr => by rcases j with _ | _ | _ | _ | _ | j; exact hr; exact hr; exact hr; exact hr; exact absurd rfl hne; omega) (.inr (.inl rfl))
      have hs := Fr.step hf hF hu.2 (fup_b _ _ (wr.setCell ⟨g, 4, none⟩ (.slice none 0 0)))
      have hfin : AftR w (wr.setCell ⟨g, 4, none⟩ (.slice none 0 0)) g F R ((fPow ms zs R.ds).setPend []) := by
        refine ⟨_, { R' with pend := [] }, ⟨⟨_, hu.1⟩, ⟨hok.l0, hok.on, hok.puts, fun _ h => (by cases h)⟩, ⟨hcp.l, hcp.ks, hcp.puts, Nat.zero_le _⟩⟩, ?_, ⟨hls.l, by show R'.ks.length ≤ _; rw [hls.ks]; exact Nat.le_succ _, Nat.le_succ_of_le hls.puts, Nat.zero_le _⟩, hs.1, hs.2⟩
        rw [← heq]; rfl
      have HF := Lib.hid hfin
      clear hfin hs hu hx hr hh hf hF hpk hls hpw hmm heq hR3
      rw [h0] at c3
      go_wp2_with fail
      go_end0
      exact ⟨rfl, HF.out⟩
set_option maxRecDepth 100000 in
set_option maxHeartbeats 1000000 in
theorem rsame_any (xs : List Int) (w : World) (A1 A2 : Option Addr) (c1 c2 n : Nat) (hn : xs.length = n) (h1 : Reads w w.heap.size 1 A1 n (xs.map (Value.int .i64))) (h2 : Reads w w.heap.size 1 A2 n (xs.map (Value.int .i64))) (hle : n ≤ 100000) :
    Calls Try.prog 39 #[.slice A1 n c1, .slice A2 n c2] w fun e w' => e = .returned (.bool true) ∧ Below w.heap.size w w' := by
  go_enter Try.func39, Try.ntmps39
  go_wp2_with fail
  go_loopw [5] (fun p wr => ∃ i : Nat, p = .int .i64 i ∧ i ≤ n ∧ Below w.heap.size w wr) (fun p _ => n - (intOf p).toNat)
  case atStart => exact ⟨0, rfl, by omega, Below.refl _ _⟩
  case round =>
    obtain ⟨i, rfl, hi, hb⟩ := hrel
    by_cases hlt : i < n
    · obtain ⟨ad1, rfl, _, hc1⟩ := (h1.below hb).2 (by omega)
      obtain ⟨ad2, rfl, _, hc2⟩ := (h2.below hb).2 (by omega)
      have g1 := hc1 i _ (by rw [List.getElem?_map, List.getElem?_eq_getElem (by omega)]; rfl)
      have g2 := hc2 i _ (by rw [List.getElem?_map, List.getElem?_eq_getElem (by omega)]; rfl)
      generalize xs[i]'(by omega) = q at *
      clear hc1 hc2
      go_wp2_with fail
      go_quiet (fail)
      go_wp2_with fail
      go_roundw
      case rel => exact ⟨i + 1, vint (by omega), by omega, bdrewN hb _⟩
      case measure => simp [intOf]; omega
    · obtain rfl : i = n := by omega
      go_wp2_with fail
      go_ret
      exact ⟨rfl, hb⟩
end
end Go.Proofs.Ytekgoliakgknjaa
