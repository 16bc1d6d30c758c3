import Derived.Test.YtekgoliakgknjaaDm
namespace Go.Proofs.Ytekgoliakgknjaa
open Go.RowKit
set_option linter.unusedVariables false
attribute [local go_sem] b_max2 b_min2 b_max b_min

theorem cellsK_len (l : List KPut) : (cellsK l).length = l.length * 3 := by
  induction l with
  | nil => rfl
  | cons p l ih => rw [show cellsK (p :: l) = putk p ++ cellsK l from rfl, List.length_append, ih, List.length_cons]; simp only [putk, List.length_cons, List.length_nil]; omega
theorem kputs_at {w : World} {B : Nat} {A : Option Addr} {l : List KPut} (h : Reads w B 3 A l.length (cellsK l)) {i : Nat} (hi : i < l.length) :
    ∃ ad, A = some ad ∧ ad.block < B ∧ w.cell? (ad.add (i * 3)) = some (.int .i64 (l[i]).1) ∧ w.cell? ⟨(ad.add (i * 3)).block, (ad.add (i * 3)).off + 1, none⟩ = some (.int .i64 ((l[i]).2.1 : Nat)) ∧ w.cell? ⟨(ad.add (i * 3)).block, (ad.add (i * 3)).off + 2, none⟩ = some (.string (l[i]).2.2) := by
  have hf := fun j hj => flat_get putk 3 (fun _ => rfl) l i j hi hj
  obtain ⟨ad, e, hadb, hcs⟩ := h.2 (by omega)
  refine ⟨ad, e, hadb, hcs _ _ (hf 0 (by omega)), ?_, ?_⟩
  · rw [← add_field _ _ 1 (by omega)]; exact hcs _ _ (hf 1 (by omega))
  · rw [← add_field _ _ 2 (by omega)]; exact hcs _ _ (hf 2 (by omega))
theorem cacheOf_take (l : List KPut) (k : Int) {i : Nat} (hi : i < l.length) : cacheOf (l.take (i + 1)) k = if l[i].1 = k then cacheOf (l.take i) k ++ [l[i].2] else cacheOf (l.take i) k := by
  rw [List.take_succ_eq_append_getElem hi, cacheOf_snoc]
  dsimp only
  by_cases h : l[i].1 = k
  · rw [if_pos h.symm, if_pos h, h]
  · rw [if_neg (fun e => h e.symm), if_neg h]
theorem cacheOf_le (l : List KPut) (k : Int) : (cacheOf l k).length ≤ l.length := by
  unfold cacheOf; rw [List.length_map]; exact List.length_filter_le _ _
theorem fLast_iff (C : List Put) (s : Int) : (fLast C s).isSome = true ↔ ∃ p ∈ C, ((p.1 : Nat) : Int) = s := by
  unfold fLast
  rw [Option.isSome_map, List.find?_isSome]
  simp
section
variable {w w' w1 : World} {g : Nat} {F G : Nat → Prop} {R R' : RS} {vs : Nat → Value}
set_option maxRecDepth 100000 in
set_option maxHeartbeats 1000000 in
theorem rcached_any (h : IsR w g F R) (k : Int) : Calls Try.prog 40 #[.pointer (some ⟨g, 0, none⟩), .int .i64 k] w fun e w' => e = .returned (.int .i64 ((cacheOf R.puts k).length : Nat)) ∧ w = w' := by
  have hcap := h.cap.puts
  obtain ⟨vs, h⟩ := h.x
  have c3 : w.cell? ⟨g, 3, none⟩ = some (vs 3) := by simpa using h.blk.cell 3
  obtain ⟨A, c, e1, _, hR⟩ := Reads.of_own (show w.ownsRow 0 89 3 (vs 3) R.puts.length (cellsK R.puts) from h.row 3 (by omega))
  rw [e1] at c3
  clear h e1
  generalize R.puts = l at *
  go_enter Try.func40, Try.ntmps40
  go_wp2_with fail
  go_loopw [5, 6] (fun v p wr => ∃ i : Nat, p = .int .i64 i ∧ i ≤ l.length ∧ v = .int .i64 ((cacheOf (l.take i) k).length : Nat) ∧ w = wr) (fun _ p _ => l.length - (intOf p).toNat)
  case atStart => exact ⟨0, rfl, by omega, rfl, rfl⟩
  case round =>
    obtain ⟨i, rfl, hi, rfl, rfl⟩ := hrel
    by_cases hlt : i < l.length
    · obtain ⟨ad, rfl, _, k0, k1, _⟩ := kputs_at hR hlt
      have hs := cacheOf_take l k hlt
      have hle : (cacheOf (l.take i) k).length ≤ 20000 := by
        have := cacheOf_le (l.take i) k
        rw [List.length_take] at this; omega
      generalize l[i] = p at *
      generalize cacheOf (l.take i) k = X at *
      have HS := Lib.hid hs; clear hs
      by_cases h1 : p.1 = k
      · have n1 : (p.1 == k) = true := by rw [beq_iff_eq]; exact h1
        have H1 := Lib.hid h1; clear h1
        go_wp2_with fail
        go_roundw
        case rel => exact ⟨i + 1, vint (by omega), by omega, by rw [HS.out, if_pos H1.out, List.length_append]; exact vint (by simp), by first | rfl | trivial⟩
        case measure => simp [intOf]; omega
      · have n1 : (p.1 == k) = false := by rw [beq_eq_false_iff_ne]; exact h1
        have H1 := Lib.hid h1; clear h1
        go_wp2_with fail
        go_roundw
        case rel => exact ⟨i + 1, vint (by omega), by omega, by rw [HS.out, if_neg H1.out], by first | rfl | trivial⟩
        case measure => simp [intOf]; omega
    · obtain rfl : i = l.length := by omega
      rw [List.take_length]
      go_wp2_with fail
      go_ret
      exact ⟨rfl, rfl⟩
set_option maxRecDepth 100000 in
set_option maxHeartbeats 1000000 in
theorem rread_any (h : IsR w g F R) (k s : Int) : Calls Try.prog 38 #[.pointer (some ⟨g, 0, none⟩), .int .i64 k, .int .i64 s] w fun e w' => e = .returned (.tuple #[.string (fRead R.ds k s).1, .int .i64 (fRead R.ds k s).2]) ∧ w = w' := by
  have hm := rmay_any h k s
  unfold fRead
  have hrng : fMay R.ds k s false = 0 → 0 ≤ s ∧ s < R.L.length := fun e => by obtain ⟨a, b, _⟩ := may_zero e; exact ⟨a, b⟩
  generalize fMay R.ds k s false = m at *
  by_cases h0 : m = 0
  · rw [if_pos h0]
    obtain ⟨s0, s1⟩ := hrng h0
    obtain ⟨n, rfl⟩ := Int.eq_ofNat_of_zero_le s0
    rw [h0] at hm
    have hcap := h.cap.puts
    obtain ⟨vs, h⟩ := h.x
    have c3 : w.cell? ⟨g, 3, none⟩ = some (vs 3) := by simpa using h.blk.cell 3
    have c0 : w.cell? ⟨g, 0, none⟩ = some (vs 0) := by simpa using h.blk.cell 0
    obtain ⟨A, c, e1, _, hR⟩ := Reads.of_own (show w.ownsRow 0 89 3 (vs 3) R.puts.length (cellsK R.puts) from h.row 3 (by omega))
    obtain ⟨A0, c00, e2, _, hR0⟩ := Reads.of_own (show w.ownsRow 0 9 1 (vs 0) R.L.length (R.L.map Value.string) from h.row 0 (by omega))
    rw [e1] at c3
    rw [e2] at c0
    clear h e1 e2 hrng h0
    rw [show R.ds.caches k = cacheOf R.puts k from rfl, show R.ds.lies = R.L from rfl]
    have hsL : n < R.L.length := by omega
    obtain ⟨ad0, rfl, _, hc0⟩ := hR0.2 (by omega)
    have hg0 := hc0 n _ (by rw [List.getElem?_map, List.getElem?_eq_getElem hsL]; rfl)
    have e3 : R.L.getD ((n : Int).toNat) ⟨#[]⟩ = R.L[n] := by
      rw [Int.toNat_natCast, List.getD_eq_getElem?_getD, List.getElem?_eq_getElem hsL]; rfl
    rw [e3]
    clear e3 hc0 hR0
    generalize R.puts = l at *
    generalize R.L[n] = x0 at *
    generalize R.L.length = nL at *
    go_enter Try.func38, Try.ntmps38
    go_wp2_with fail
    refine hm.mono ?_
    rintro e w' ⟨rfl, rfl⟩
    go_wp2_with fail
    go_loopw [9, 10] (fun v p wr => ∃ i : Nat, p = .int .i64 i ∧ i ≤ l.length ∧ v = .string ((fLast (cacheOf (l.take i) k) n).getD x0) ∧ w = wr) (fun _ p _ => l.length - (intOf p).toNat)
    case atStart => exact ⟨0, rfl, by omega, rfl, rfl⟩
    case round =>
      obtain ⟨i, rfl, hi, rfl, rfl⟩ := hrel
      by_cases hlt : i < l.length
      · obtain ⟨ad, rfl, _, k0, k1, k2⟩ := kputs_at hR hlt
        have hs := cacheOf_take l k hlt
        generalize l[i] = p at *
        generalize cacheOf (l.take i) k = X at *
        have HS := Lib.hid hs; clear hs
        by_cases h1 : p.1 = k
        · have n1 : (p.1 == k) = true := by rw [beq_iff_eq]; exact h1
          have H1 := Lib.hid h1; clear h1
          by_cases h2 : p.2.1 = n
          · have n2 : (((p.2.1 : Nat) : Int) == (n : Int)) = true := by rw [beq_iff_eq]; omega
            have H2 := Lib.hid h2; clear h2
            go_wp2_with fail
            go_roundw
            case rel => exact ⟨i + 1, vint (by omega), by omega, by rw [HS.out, if_pos H1.out, fLast_snoc, if_pos (by rw [H2.out])]; rfl, by first | rfl | trivial⟩
            case measure => simp [intOf]; omega
          · have n2 : (((p.2.1 : Nat) : Int) == (n : Int)) = false := by rw [beq_eq_false_iff_ne]; omega
            have H2 := Lib.hid h2; clear h2
            go_wp2_with fail
            go_roundw
            case rel => exact ⟨i + 1, vint (by omega), by omega, by rw [HS.out, if_pos H1.out, fLast_snoc, if_neg (by have := H2.out; omega)], by first | rfl | trivial⟩
            case measure => simp [intOf]; omega
        · have n1 : (p.1 == k) = false := by rw [beq_eq_false_iff_ne]; exact h1
          have H1 := Lib.hid h1; clear h1
          go_wp2_with fail
          go_roundw
          case rel => exact ⟨i + 1, vint (by omega), by omega, by rw [HS.out, if_neg H1.out], by first | rfl | trivial⟩
          case measure => simp [intOf]; omega
      · obtain rfl : i = l.length := by omega
        rw [List.take_length]
        go_wp2_with fail
        go_ret2
        exact ⟨rfl, rfl⟩
  · rw [if_neg h0]
    have e2 : (m != 0) = true := by simp [h0]
    clear h h0 hrng
    go_enter Try.func38, Try.ntmps38
    go_wp2_with fail
    refine hm.mono ?_
    rintro e w' ⟨rfl, rfl⟩
    go_wp2_with fail
    go_ret2
    exact ⟨rfl, rfl⟩
theorem notin_snoc (X : List Int) (t q : Int) (b : Bool) : (b && decide (t ∉ X ++ [q])) = ((b && decide (t ∉ X)) && (q != t)) := by
  rw [Bool.and_assoc]
  congr 1
  by_cases ha : t ∈ X
  · simp [ha]
  · by_cases hb : t = q
    · simp [hb]
    · have : ¬ q = t := fun e => hb e.symm
      simp [ha, hb, this]
theorem cacheOf_mem {l : List KPut} {k : Int} {p : KPut} (hp : p ∈ l) (hk : p.1 = k) : p.2 ∈ cacheOf l k := by
  unfold cacheOf
  exact List.mem_map_of_mem (List.mem_filter.2 ⟨hp, by simp [hk]⟩)
theorem odd_or (d : DS) (k s : Int) (a b : Bool) : fMay d k s (a || b) = if a = true then 1 else if b = true then 1 else fMay d k s false := by
  cases a <;> cases b <;> simp [fMay]
/-- other bytes in a sector -/
theorem RX.lie (h : RX w g F R vs) {n : Nat} (hn : n < R.L.length) (x : ByteArray) : ∃ b c, vs 0 = .slice (some ⟨b, 0, none⟩) R.L.length c ∧ w.frozen? ⟨b, n, none⟩ = false ∧ w.cell? ⟨b, n, none⟩ = some (.string (R.L.getD n ⟨#[]⟩)) ∧
    RX (w.setCell ⟨b, n, none⟩ (.string x)) g F { R with L := R.L.set n x } vs ∧ Fr F w (w.setCell ⟨b, n, none⟩ (.string x)) := by
  have ho : w.ownsRow 0 9 1 (vs 0) R.L.length (R.L.map Value.string) := h.row 0 (by omega)
  obtain ⟨b, c, e⟩ := own_form ho (by omega)
  have hR := Reads.of_own ho
  obtain ⟨A, c', e', _, hR⟩ := hR
  rw [e] at e'
  simp only [Value.slice.injEq] at e'
  obtain ⟨rfl, _, rfl⟩ := e'
  obtain ⟨ad, e2, _, hc⟩ := hR.2 (by omega)
  obtain rfl := Option.some.inj e2
  have hcell := hc n _ (by rw [List.getElem?_map, List.getElem?_eq_getElem hn]; rfl)
  rw [add_zero'] at hcell
  rw [e] at ho
  refine ⟨b, c, e, own_frozen ho, by rw [hcell, List.getD_eq_getElem?_getD, List.getElem?_eq_getElem hn]; rfl, h.same (R' := { R with L := R.L.set n x }) 0 (by omega) (Fr.setCell w b n _ (by rw [e]; rfl)) ?_ ?_⟩
  · show (w.setCell ⟨b, n, none⟩ (.string x)).ownsRow 0 9 1 (vs 0) (R.L.set n x).length ((R.L.set n x).map Value.string)
    rw [e, List.length_set, List.map_set]
    exact own_set ho hn _
  · intro j hj hne w v hr
    rcases j with _ | _ | _ | _ | _ | j
    · exact absurd rfl hne
    all_goals first | exact hr | omega
set_option maxRecDepth 100000 in
set_option maxHeartbeats 1000000 in
theorem rswap_any (h : IsR w g F R) (k s : Int) (old now : ByteArray) : Calls Try.prog 33 #[.pointer (some ⟨g, 0, none⟩), .int .i64 k, .int .i64 s, .string old, .string now] w fun e w' => e = .returned (.int .i64 (fSwap R.ds k s old now).2) ∧ AftR w w' g F R (fSwap R.ds k s old now).1 := by
  have hm := rmay_any h k s
  have hst := AftR.stay h
  unfold fSwap
  rw [odd_or]
  have hrng : fMay R.ds k s false = 0 → 0 ≤ s ∧ s < R.L.length := fun e => by obtain ⟨a, b, _⟩ := may_zero e; exact ⟨a, b⟩
  generalize fMay R.ds k s false = m at *
  unfold oddB
  by_cases h1 : m = 1
  · have e1 : (m == 1) = true := by rw [h1]; rfl
    have e2 : (if ((old.size : Int) != 512) = true then (1 : Int) else if ((now.size : Int) != 512) = true then 1 else m) = 1 := by rw [h1]; split; rfl; split <;> rfl
    rw [e2, if_pos (by omega)]
    clear h e2 h1 hrng
    go_enter Try.func33, Try.ntmps33
    go_wp2_with fail
    refine hm.mono ?_
    rintro e w' ⟨rfl, rfl⟩
    go_wp2_with fail
    go_ret
    exact ⟨rfl, hst⟩
  · have e1 : (m == 1) = false := by rw [beq_eq_false_iff_ne]; exact h1
    cases hodd : ((old.size : Int) != 512) with
    | true =>
      rw [if_pos rfl, if_pos (by omega)]
      clear h h1 hrng
      go_enter Try.func33, Try.ntmps33
      go_wp2_with fail
      refine hm.mono ?_
      rintro e w' ⟨rfl, rfl⟩
      go_wp2_with fail
      go_ret
      exact ⟨rfl, hst⟩
    | false =>
      rw [show (if (false = true) then (1 : Int) else if ((now.size : Int) != 512) = true then 1 else m) = (if ((now.size : Int) != 512) = true then 1 else m) from if_neg (by simp)]
      cases hodd2 : ((now.size : Int) != 512) with
      | true =>
        rw [if_pos rfl, if_pos (by omega)]
        clear h h1 hrng
        go_enter Try.func33, Try.ntmps33
        go_wp2_with fail
        refine hm.mono ?_
        rintro e w' ⟨rfl, rfl⟩
        go_wp2_with fail
        go_ret
        exact ⟨rfl, hst⟩
      | false =>
        rw [show (if (false = true) then (1 : Int) else m) = m from if_neg (by simp)]
        by_cases h0 : m = 0
        · rw [if_neg (by omega)]
          obtain ⟨s0, s1⟩ := hrng h0
          obtain ⟨n, rfl⟩ := Int.eq_ofNat_of_zero_le s0
          rw [h0] at hm
          have hcp := h.cap
          have hok := h.ok
          have hcap := h.cap.puts
          obtain ⟨vs, h⟩ := h.x
          have hn : n < R.L.length := by omega
          obtain ⟨b, c0', e0, f0, q0, hu⟩ := h.lie hn now
          have c3 : w.cell? ⟨g, 3, none⟩ = some (vs 3) := by simpa using h.blk.cell 3
          have c0 : w.cell? ⟨g, 0, none⟩ = some (vs 0) := by simpa using h.blk.cell 0
          obtain ⟨A, c, e3, _, hR⟩ := Reads.of_own (show w.ownsRow 0 89 3 (vs 3) R.puts.length (cellsK R.puts) from h.row 3 (by omega))
          rw [e3] at c3
          rw [e0] at c0
          rw [show R.ds.caches k = cacheOf R.puts k from rfl, show R.ds.lies = R.L from rfl, Int.toNat_natCast]
          generalize hres : (if (fLast (cacheOf R.puts k) (n : Int)).isSome = true then (R.ds, (13 : Int)) else if R.L.getD n ⟨#[]⟩ = old then (R.ds.setLies (R.L.set n now), 0) else (R.ds, 16)) = res at *
          have hset : AftR w (w.setCell ⟨b, n, none⟩ (.string now)) g F R (R.ds.setLies (R.L.set n now)) :=
            ⟨F, { R with L := R.L.set n now }, ⟨⟨vs, hu.1⟩, ⟨by simpa using hok.l0, hok.on, fun p hp => by simpa using hok.puts p hp, hok.pend⟩, ⟨by simpa using hcp.l, hcp.ks, hcp.puts, hcp.pend⟩⟩, rfl, ⟨by simp, Nat.le_succ _, Nat.le_succ _, Nat.le_succ _⟩, hu.2, fun _ h => .inl h⟩
          have HSET := Lib.hid hset; have HST := Lib.hid hst; have HRES := Lib.hid hres; clear hres
          clear h e0 e3 hu hrng h0 e1 h1 s0 s1 hset hst hcp hok
          generalize R.L.length = nL at *
          generalize hy : R.L.getD n ⟨#[]⟩ = y at *
          generalize R.puts = l at *
          have HY := Lib.hid hy; clear hy
          go_enter Try.func33, Try.ntmps33
          go_wp2_with fail
          refine hm.mono ?_
          rintro e w' ⟨rfl, rfl⟩
          go_wp2_with fail
          go_loopw [12] (fun p wr => ∃ i : Nat, p = .int .i64 i ∧ i ≤ l.length ∧ Hid (∀ q ∈ cacheOf (l.take i) k, ((q.1 : Nat) : Int) ≠ n) ∧ w = wr) (fun p _ => l.length - (intOf p).toNat)
          case atStart => exact ⟨0, rfl, by omega, Lib.hid (by simp [cacheOf]), rfl⟩
          case round =>
            obtain ⟨i, rfl, hi, hpre, rfl⟩ := hrel
            by_cases hlt : i < l.length
            · obtain ⟨ad, rfl, _, k0, k1, k2⟩ := kputs_at hR hlt
              have hs := cacheOf_take l k hlt
              have hme : l[i].1 = k → l[i].2 ∈ cacheOf l k := fun e => cacheOf_mem (List.getElem_mem _) e
              have HME := Lib.hid hme; clear hme
              generalize l[i] = p at *
              have HS := Lib.hid hs; clear hs
              by_cases h1 : p.1 = k
              · have n1 : (p.1 == k) = true := by rw [beq_iff_eq]; exact h1
                have H1 := Lib.hid h1; clear h1
                by_cases h2 : p.2.1 = n
                · have n2 : (((p.2.1 : Nat) : Int) == (n : Int)) = true := by rw [beq_iff_eq]; omega
                  have hsm : (fLast (cacheOf l k) n).isSome = true := (fLast_iff _ _).2 ⟨p.2, HME.out H1.out, by omega⟩
                  have HSM := Lib.hid hsm
                  clear hsm h2
                  go_wp2_with fail
                  go_ret
                  have e := HRES.out
                  rw [if_pos HSM.out] at e
                  rw [← e]
                  exact ⟨rfl, HST.out⟩
                · have n2 : (((p.2.1 : Nat) : Int) == (n : Int)) = false := by rw [beq_eq_false_iff_ne]; omega
                  have H2 := Lib.hid h2; clear h2
                  go_wp2_with fail
                  go_roundw
                  case rel => exact ⟨i + 1, vint (by omega), by omega, Lib.hid (by
                    rw [HS.out, if_pos H1.out]
                    intro q hq
                    rcases List.mem_append.1 hq with hq | hq
                    · exact hpre.out q hq
                    · rw [List.mem_singleton.1 hq]; have := H2.out; omega), by first | rfl | trivial⟩
                  case measure => simp [intOf]; omega
              · have n1 : (p.1 == k) = false := by rw [beq_eq_false_iff_ne]; exact h1
                have H1 := Lib.hid h1; clear h1
                go_wp2_with fail
                go_roundw
                case rel => exact ⟨i + 1, vint (by omega), by omega, Lib.hid (by rw [HS.out, if_neg H1.out]; exact hpre.out), by first | rfl | trivial⟩
                case measure => simp [intOf]; omega
            · obtain rfl : i = l.length := by omega
              have hno : ¬ (fLast (cacheOf l k) n).isSome = true := by
                rw [fLast_iff]
                rintro ⟨q, hq, e⟩
                have := hpre.out
                rw [List.take_length] at this
                exact this q hq e
              have HNO := Lib.hid hno
              clear hno hpre
              by_cases hyo : y = old
              · have HYO := Lib.hid hyo
                subst hyo
                have l1 := beq_list y
                go_wp2_with fail
                go_ret
                have e := HRES.out
                rw [if_neg HNO.out, if_pos trivial] at e
                rw [← e]
                exact ⟨rfl, HSET.out⟩
              · have HYO := Lib.hid hyo
                have l1 := bne_list hyo
                clear hyo
                go_wp2_with fail
                go_ret
                have e := HRES.out
                rw [if_neg HNO.out, if_neg HYO.out] at e
                rw [← e]
                exact ⟨rfl, HST.out⟩
        · rw [if_pos h0]
          have e2 : (m != 0) = true := by simp [h0]
          clear h h1 h0 hrng
          go_enter Try.func33, Try.ntmps33
          go_wp2_with fail
          refine hm.mono ?_
          rintro e w' ⟨rfl, rfl⟩
          go_wp2_with fail
          go_ret
          exact ⟨rfl, hst⟩
set_option maxRecDepth 100000 in
set_option maxHeartbeats 1000000 in
theorem rfence_any (h : IsR w g F R) (k t : Int) (hpl : R.pend.length < 20000) : Calls Try.prog 34 #[.pointer (some ⟨g, 0, none⟩), .int .i64 k, .int .i64 t] w fun e w' => e = .returned (.int .i64 (fFence R.ds k t).2) ∧ AftR w w' g F R (fFence R.ds k t).1 := by
  have hst := AftR.stay h
  have hk := rregistered_any h k
  have ht := rregistered_any h t
  have hl0 := h.ok.l0
  unfold fFence
  rw [show fMay R.ds k 0 false = if (keyOf R.ks R.on k).getD false then 0 else 14 by
    unfold fMay
    rw [if_neg (by
      intro h
      have : (R.ds.lies.length : Int) = R.L.length := rfl
      rcases h with h | h | h
      · omega
      · omega
      · cases h)]; rfl, show R.ds.keys t = keyOf R.ks R.on t from rfl, show R.ds.pend = R.pend from rfl]
  have htk : (keyOf R.ks R.on t).getD false = true → t ∈ R.ks := by
    intro e
    unfold keyOf at e
    by_cases hm : t ∈ R.ks
    · exact hm
    · rw [if_neg hm] at e; cases e
  generalize (keyOf R.ks R.on k).getD false = bk at *
  generalize (keyOf R.ks R.on t).getD false = bt at *
  by_cases h1 : t < 1
  · rw [if_pos h1]
    clear h hk ht htk
    go_enter Try.func34, Try.ntmps34
    go_wp2_with fail
    go_ret
    exact ⟨rfl, hst⟩
  · rw [if_neg h1]
    cases bk with
    | false =>
      rw [if_neg (by simp)]
      rw [if_neg (by simp)]
      clear h ht htk
      go_enter Try.func34, Try.ntmps34
      go_wp2_with fail
      refine hk.mono ?_
      rintro e w' ⟨rfl, rfl⟩
      go_wp2_with fail
      go_ret
      exact ⟨rfl, hst⟩
    | true =>
      rw [if_pos rfl]
      obtain ⟨i0, hi, hz0, hz1, hz2⟩ := info_parts int_info
      have hcp := h.cap
      have hok := h.ok
      obtain ⟨vs, h⟩ := h.x
      have hgl := h.blk.lt
      have ho1 : ORow w 3 (vs 4) R.pend.length (R.pend.map (Value.int .i64)) := h.row 4 (by omega)
      have c4 : w.cell? ⟨g, 4, none⟩ = some (vs 4) := by simpa using h.blk.cell 4
      obtain ⟨A, c, e4, _, hR⟩ := ho1.reads
      rw [e4] at c4 ho1
      have H := Lib.hid h; have HE := Lib.hid e4; have HST := Lib.hid hst; have HTK := Lib.hid htk; have HO := Lib.hid ho1
      have h1' : 1 ≤ t := by omega
      clear h e4 hst htk ho1 h1
      generalize hres : (if (0 : Int) = 0 ∧ bt = true ∧ t ∉ R.pend then R.ds.setPend (R.pend ++ [t]) else R.ds) = res at *
      replace hres := Lib.hid hres
      generalize hpd : R.pend = l at *
      replace hpd := Lib.hid hpd
      go_enter Try.func34, Try.ntmps34
      go_wp2_with fail
      refine hk.mono ?_
      rintro e w' ⟨rfl, rfl⟩
      go_wp2_with fail
      refine ht.mono ?_
      rintro e w' ⟨rfl, rfl⟩
      go_upto_block 0 with (fail)
      go_cut [8] (fun v w' => v = .bool (bt && decide (t ∉ l)) ∧ w = w')
      case first =>
        go_wp2_with fail
        go_loopw [8, 9] (fun v p wr => ∃ i : Nat, p = .int .i64 i ∧ i ≤ l.length ∧ v = .bool (bt && decide (t ∉ l.take i)) ∧ w = wr) (fun _ p _ => l.length - (intOf p).toNat)
        case atStart => exact ⟨0, rfl, by omega, by simp, rfl⟩
        case round =>
          obtain ⟨i, rfl, hi, rfl, rfl⟩ := hrel
          by_cases hlt : i < l.length
          · obtain ⟨ad, rfl, _, hc⟩ := hR.2 (by omega)
            have hg := hc i _ (by rw [List.getElem?_map, List.getElem?_eq_getElem hlt]; rfl)
            have hs : (bt && decide (t ∉ l.take (i + 1))) = ((bt && decide (t ∉ l.take i)) && (l[i] != t)) := by
              rw [List.take_succ_eq_append_getElem hlt]; exact notin_snoc _ _ _ _
            generalize l[i] = q at *
            have HS := Lib.hid hs; clear hs hc
            generalize (bt && decide (t ∉ l.take i)) = bb at *
            cases bb with
            | true =>
              go_wp2_with fail
              go_roundw
              case rel => exact ⟨i + 1, vint (by omega), by omega, by rw [HS.out]; rfl, by first | rfl | trivial⟩
              case measure => simp [intOf]; omega
            | false =>
              go_wp2_with fail
              go_roundw
              case rel => exact ⟨i + 1, vint (by omega), by omega, by rw [HS.out]; rfl, by first | rfl | trivial⟩
              case measure => simp [intOf]; omega
          · obtain rfl : i = l.length := by omega
            rw [List.take_length]
            go_wp2_with fail
            all_goals go_meet
            all_goals exact ⟨rfl, rfl⟩
      case rest =>
      obtain ⟨rfl, rfl⟩ := hcut
      by_cases hb : bt = true ∧ t ∉ l
      · have e1 : (bt && decide (t ∉ l)) = true := by simp [hb.1, hb.2]
        rw [e1]
        have HB := Lib.hid hb; clear hb e1
        have ho1 := HO.out
        go_wp2_with (at_builtin; refine wpList_append_orow rfl (.tmp 46) (.tmp 48) rfl _ _ _ rfl (ho1.keep (Fr.alloc (fun _ => False) _ _) (fun _ _ h => h)) (by omega) ⟨w.heap.size, 0, none⟩ 1 t rfl ((Blk.new w 3 #[.int .i64 t]).cell 0) ?_)
        intro v' w1 hown' hgrow hob
        have hfr : Fr (fun k => (vs 4).ownBlock = some k) w w1 := by rw [HE.out]; exact (Fr.alloc _ _ _).trans (Fr.of_grown hgrow)
        have hb1 := hfr.blk H.out.blk (fun e => (H.out.fo 4 (by omega) g e).2 rfl)
        have hc1 : w1.cell? ⟨g, 4, none⟩ = some (vs 4) := by simpa using hb1.cell 4
        have hf1 := hb1.frozen 4
        have hu := H.out.upd (R' := { R with pend := R.pend ++ [t] }) 4 (by omega) hfr (v' := v') (by
            show ORow w1 3 v' (R.pend ++ [t]).length ((R.pend ++ [t]).map (Value.int .i64))
            rw [hpd.out, List.length_append, List.map_append]; exact hown')
          (fun j hj hne w v hr => by rcases j with _ | _ | _ | _ | _ | j; exact hr; exact hr; exact hr; exact hr; exact absurd rfl hne; omega)
          (by rcases hob with e | e; exact .inl (by rw [HE.out]; exact e); exact .inr (.inr ⟨_, e, by simp⟩))
        have hfin : AftR w (w1.setCell ⟨g, 4, none⟩ v') g F R res := by
          have hp := hpd.out
          have := AftR.of (R := R) hu.1 hu.2 ⟨hok.l0, hok.on, hok.puts, fun x hx => by
            rcases List.mem_append.1 hx with hx | hx
            · exact hok.pend x hx
            · rw [List.mem_singleton.1 hx]; exact HTK.out HB.out.1⟩ ⟨hcp.l, hcp.ks, hcp.puts, by simp [hp]; omega⟩ ⟨rfl, Nat.le_succ _, Nat.le_succ _, by simp⟩
          have e := hres.out
          rw [if_pos ⟨trivial, HB.out⟩, ← hp] at e
          rw [← e]
          exact this
        have HF := Lib.hid hfin; clear hfin hu
        obtain ⟨A'', c'', rfl, _, _⟩ := hown'.reads
        clear hown' hgrow hob hb1 hfr ho1
        go_wp2_with fail
        go_ret
        exact ⟨rfl, HF.out⟩
      · have e1 : (bt && decide (t ∉ l)) = false := by
          cases bt with
          | false => rfl
          | true => simp; exact Classical.not_not.1 (fun e => hb ⟨rfl, e⟩)
        rw [e1]
        have HB := Lib.hid hb; clear hb e1
        go_wp2_with fail
        go_ret
        have e := hres.out
        rw [if_neg (fun e => HB.out e.2)] at e
        rw [← e]
        exact ⟨rfl, HST.out⟩
end
end Go.Proofs.Ytekgoliakgknjaa
