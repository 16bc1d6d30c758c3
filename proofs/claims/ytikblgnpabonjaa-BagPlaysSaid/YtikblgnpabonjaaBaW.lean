import Derived.Test.YtikblgnpabonjaaBaV
namespace Go.Proofs.Ytikblgnpabonjaa
open Go.RowKit
set_option linter.unusedVariables false
attribute [local go_sem] b_max2 b_min2 b_max b_min

section
variable {w w' : World} {g : Nat} {F G : Nat → Prop} {l : List Pc}
theorem RNet.fb (h : RNet w g F l) : ∀ k, F k → k < w.heap.size := by obtain ⟨A, c, h⟩ := h; exact h.fb
theorem RNet.cap (h : RNet w g F l) : l.length ≤ 20000 := by obtain ⟨A, c, h⟩ := h; exact h.cap
theorem RNet.keep (h : RNet w g F l) (hf : Fr G w w') (hG : ∀ k, G k → ¬ F k) : RNet w' g F l := by
  obtain ⟨A, c, h⟩ := h
  exact ⟨A, c, hf.blk h.blk (fun e => hG _ e h.fg), hf.own h.own (fun k hk e => hG k e (h.fo k hk)), h.fg, h.fo, fun k hk => Nat.lt_of_lt_of_le (h.fb k hk) hf.size, h.cap⟩
theorem RNet.low (h : RNet w g F l) (hb : Below w.heap.size w w') : RNet w' g F l := h.keep (G := fun _ => False) (Fr.of_below hb _) (fun _ h => h.elim)
theorem RNet.more {F' : Nat → Prop} (h : RNet w g F l) (h1 : ∀ k, F k → F' k) (h2 : ∀ k, F' k → k < w.heap.size) : RNet w g F' l := by
  obtain ⟨A, c, h⟩ := h
  exact ⟨A, c, h.blk, h.own, h1 _ h.fg, fun k hk => h1 _ (h.fo k hk), h2, h.cap⟩
end
theorem rUp_mem {l : List Pc} {p : Pc} (h : p ∈ rUp l 8) : p ∈ l := by
  simp only [rUp, rTo, List.mem_flatMap, List.mem_filter] at h
  obtain ⟨_, _, _, _, h, _⟩ := h
  exact h
theorem isP_self (p : Pc) : isP (p.1 : Nat) (p.2.1 : Nat) p = true := by simp [isP]

set_option maxRecDepth 100000 in
set_option maxHeartbeats 1000000 in
theorem rany_none {w : World} {g : Nat} {F : Nat → Prop} {l : List Pc} (h : RNet w g F l) (x : Int) (h0 : rUp l 8 = []) :
    Calls Try.prog 22 #[.pointer (some ⟨g, 0, none⟩), .int .i64 x] w fun e w' => e = .returned (.tuple #[.agg #[.int .i64 0, .int .i64 0, .string ⟨#[]⟩], .bool false]) ∧ Below w.heap.size w w' := by
  have c := rall_any (h.low ((Below.refl _ w).alloc (Nat.le_refl _) (.cells #[.int .i64 0, .int .i64 0, .string ⟨#[]⟩] 32)))
  rw [h0] at c
  clear h h0
  go_enter Try.func22, Try.ntmps22
  go_wp2_with fail
  refine c.mono ?_
  rintro e w1 ⟨v, rfl, hown, hb⟩
  obtain ⟨A, cp, rfl, _, _⟩ := Reads.of_own hown
  rw [show ([] : List Pc).length = 0 from rfl]
  have hb0 : Below w.heap.size w w1 := ((Below.refl _ w).alloc (Nat.le_refl _) _).trans (hb.mono (by simp))
  have hB : Blk w1 w.heap.size 32 #[.int .i64 0, .int .i64 0, .string ⟨#[]⟩] := (Blk.new w 32 _).below hb (by simp)
  have k0 : w1.cell? ⟨w.heap.size, 0, none⟩ = some (.int .i64 0) := hB.cell 0
  have k1 : w1.cell? ⟨w.heap.size, 1, none⟩ = some (.int .i64 0) := hB.cell 1
  have k2 : w1.cell? ⟨w.heap.size, 2, none⟩ = some (.string ⟨#[]⟩) := hB.cell 2
  have f0 := hB.frozen 0
  have f1 := hB.frozen 1
  have f2 := hB.frozen 2
  have e0 := (hB.set_ 0 (.int .i64 0)).cell 0
  have e1 := ((hB.set_ 0 (.int .i64 0)).set_ 1 (.int .i64 0)).cell 1
  have e2 := (((hB.set_ 0 (.int .i64 0)).set_ 1 (.int .i64 0)).set_ 2 (.string ⟨#[]⟩)).cell 2
  simp at e0 e1 e2
  clear hown hb c
  go_wp2_with fail
  refine bodyPost_ret (v := .tuple #[.agg #[.int .i64 0, .int .i64 0, .string ⟨#[]⟩], .bool false]) (by simp [results, Try.results22, go_sem, e0, e1, e2]) rfl ⟨rfl, ?_⟩
  exact ((hb0.setCell (Nat.le_refl _) _).setCell (Nat.le_refl _) _).setCell (Nat.le_refl _) _

set_option maxRecDepth 100000 in
set_option maxHeartbeats 1000000 in
theorem rany_some {w : World} {g : Nat} {F : Nat → Prop} {l : List Pc} (h : RNet w g F l) (x : Int) (x0 : -9223372036854775808 ≤ x) (x1 : x ≤ 9223372036854775807) (p : Pc) (hp : (rUp l 8)[place x (rUp l 8).length]? = some p) (hl : l.length ≤ 1000) :
    Calls Try.prog 22 #[.pointer (some ⟨g, 0, none⟩), .int .i64 x] w fun e w' => ∃ I, isAt l (p.1 : Nat) (p.2.1 : Nat) ((((rUp l 8).take (place x (rUp l 8).length)).filter (isP (p.1 : Nat) (p.2.1 : Nat))).length : Nat) I ∧
      e = .returned (.tuple #[.agg #[.int .i64 (p.1 : Nat), .int .i64 (p.2.1 : Nat), .string p.2.2], .bool true]) ∧ RNet w' g (Fup F w w') (l.eraseIdx I) ∧ Fr F w w' := by
  obtain ⟨a, b, s⟩ := p
  simp only
  have hn0 := h.low ((Below.refl _ w).alloc (Nat.le_refl _) (.cells #[.int .i64 0, .int .i64 0, .string ⟨#[]⟩] 32))
  have c := rall_any hn0
  have hq := (List.getElem?_eq_some_iff.1 hp).1
  have hpos : 0 < (l.filter (isP a b)).length := List.length_pos_of_mem (List.mem_filter.2 ⟨rUp_mem (List.mem_of_getElem? hp), isP_self (a, b, s)⟩)
  have hlen : (rUp l 8).length ≤ 64000 := by
    have h1 := rUp_le l 8
    have h4 : l.length * 8 * 8 ≤ 1000 * 8 * 8 := Nat.mul_le_mul (Nat.mul_le_mul hl (Nat.le_refl _)) (Nat.le_refl _)
    omega
  have hML : 0 < (rUp l 8).length := by omega
  have cw := fun w => rwhich_any x (rUp l 8).length w x0 x1 hML (by omega)
  generalize hM : rUp l 8 = M at *
  generalize hQ : place x M.length = q at *
  have HM := Lib.hid hM; have HQ := Lib.hid hQ; have HP := Lib.hid hp; clear hM hQ hp
  have hnM : ((M.length : Int) == 0) = false := by rw [beq_eq_false_iff_ne]; omega
  have hnM2 : M ≠ [] := fun e => by subst e; simp at hML
  go_enter Try.func22, Try.ntmps22
  go_wp2_with fail
  refine c.mono ?_
  rintro e w1 ⟨v, rfl, hown, hb⟩
  obtain ⟨A, cp, rfl, _, hR⟩ := Reads.of_own hown
  have hs1 := hb.size
  simp only [sz_alloc] at hs1
  have hb0 : Below w.heap.size w w1 := ((Below.refl _ w).alloc (Nat.le_refl _) _).trans (hb.mono (by simp))
  have hB : Blk w1 w.heap.size 32 #[.int .i64 0, .int .i64 0, .string ⟨#[]⟩] := (Blk.new w 32 _).below hb (by simp)
  clear c hown hb
  go_wp2_with fail
  refine (cw _).mono ?_
  rintro e w2 ⟨rfl, rfl⟩
  clear cw
  obtain ⟨ad, rfl, _, k0, k1, k2⟩ := pcs_at hR hq
  have hMq : M[q] = (a, b, s) := by have := HP.out; rw [List.getElem?_eq_getElem hq] at this; exact Option.some.inj this
  rw [hMq] at k0 k1 k2
  simp only at k0 k1 k2
  have hP3 : Blk (w1.alloc (.cells #[.int .i64 a, .int .i64 b, .string s] 32)) w1.heap.size 32 #[.int .i64 a, .int .i64 b, .string s] := Blk.new _ _ _
  have hR3 := hR.alloc (Nat.le_refl _) (.cells #[.int .i64 a, .int .i64 b, .string s] 32)
  have hB3 := hB.alloc (.cells #[.int .i64 a, .int .i64 b, .string s] 32)
  have hb3 : Below w.heap.size w (w1.alloc (.cells #[.int .i64 a, .int .i64 b, .string s] 32)) := hb0.alloc (by omega) _
  have HMQ := Lib.hid hMq; clear hMq hR hB hb0
  go_wp2_with fail
  generalize hpp : w1.heap.size = pp at *
  have hpw : w.heap.size < pp := by omega
  clear hpp hs1
  generalize w1.alloc (.cells #[.int .i64 a, .int .i64 b, .string s] 32) = w3 at *
  clear k0 k1 k2
  have p0 : w3.cell? ⟨pp, 0, none⟩ = some (.int .i64 a) := hP3.cell 0
  have p1 : w3.cell? ⟨pp, 1, none⟩ = some (.int .i64 b) := hP3.cell 1
  go_loopw [9, 10] (fun v p wr => ∃ i : Nat, p = .int .i64 i ∧ i ≤ q ∧ v = .int .i64 (((M.take i).filter (isP a b)).length : Nat) ∧ ∃ m, wr = w3.drewN m) (fun _ p _ => q - (intOf p).toNat)
  case atStart => exact ⟨0, rfl, by omega, rfl, 0, rfl⟩
  case round =>
    obtain ⟨i, rfl, hi, rfl, m, rfl⟩ := hrel
    by_cases hlt : i < q
    · have hltM : i < M.length := by omega
      obtain ⟨ad2, e2, _, k0, k1, k2⟩ := pcs_at hR3 hltM
      obtain rfl : ad = ad2 := by simpa using e2
      have hs := filter_take_succ (isP a b) M hltM
      have hle : ((M.take i).filter (isP a b)).length ≤ 64000 := by
        have := List.length_filter_le (isP a b) (M.take i)
        rw [List.length_take] at this; omega
      generalize M[i] = y at *
      generalize (M.take i).filter (isP a b) = X at *
      have HS := Lib.hid hs; clear hs e2
      have hdq : decide (i < q) = true := by simpa using hlt
      rcases isP_cases a b y with ⟨h1, h2, h3⟩ | ⟨h1, h3⟩ | ⟨h1, h2, h3⟩
      · have H3 := Lib.hid h3; clear h3
        have n1 : (((y.1 : Nat) : Int) == (a : Int)) = true := by rw [beq_iff_eq]; exact h1
        have n2 : (((y.2.1 : Nat) : Int) == (b : Int)) = true := by rw [beq_iff_eq]; exact h2
        have n3 : (y.1 == a) = true := by rw [beq_iff_eq]; omega
        have n4 : (y.2.1 == b) = true := by rw [beq_iff_eq]; omega
        clear h1 h2
        go_wp2_with fail
        go_quiet (fail)
        go_wp2_with fail
        go_roundw
        case rel => exact ⟨i + 1, vint (by omega), by omega, by rw [HS.out, H3.out, if_pos rfl, List.length_append]; exact vint (by simp), _, rfl⟩
        case measure => simp [intOf]; omega
      · have H3 := Lib.hid h3; clear h3
        have n1 : (((y.1 : Nat) : Int) == (a : Int)) = false := by rw [beq_eq_false_iff_ne]; exact h1
        have n3 : (y.1 == a) = false := by rw [beq_eq_false_iff_ne]; omega
        clear h1
        go_wp2_with fail
        go_quiet (fail)
        go_wp2_with fail
        go_roundw
        case rel => exact ⟨i + 1, vint (by omega), by omega, by rw [HS.out, H3.out, if_neg (by simp), List.append_nil], _, rfl⟩
        case measure => simp [intOf]; omega
      · have H3 := Lib.hid h3; clear h3
        have n1 : (((y.1 : Nat) : Int) == (a : Int)) = true := by rw [beq_iff_eq]; exact h1
        have n2 : (((y.2.1 : Nat) : Int) == (b : Int)) = false := by rw [beq_eq_false_iff_ne]; exact h2
        have n3 : (y.1 == a) = true := by rw [beq_iff_eq]; omega
        have n4 : (y.2.1 == b) = false := by rw [beq_eq_false_iff_ne]; omega
        clear h1 h2
        go_wp2_with fail
        go_quiet (fail)
        go_wp2_with fail
        go_roundw
        case rel => exact ⟨i + 1, vint (by omega), by omega, by rw [HS.out, H3.out, if_neg (by simp), List.append_nil], _, rfl⟩
        case measure => simp [intOf]; omega
    · obtain rfl : i = q := by omega
      have hle : ((M.take i).filter (isP a b)).length ≤ 64000 := by
        have := List.length_filter_le (isP a b) (M.take i)
        rw [List.length_take] at this; omega
      have n3 := h.low (bdrewN hb3 m)
      have hP4 : Blk (w3.drewN m) pp 32 #[.int .i64 a, .int .i64 b, .string s] := hP3
      have hB4 : Blk (w3.drewN m) w.heap.size 32 #[.int .i64 0, .int .i64 0, .string ⟨#[]⟩] := hB3
      have hb4 := bdrewN hb3 m
      generalize hCC : ((M.take i).filter (isP a b)).length = C at *
      have HCC := Lib.hid hCC; clear hCC p0 p1 hP3 hB3 hb3 hR3
      generalize w3.drewN m = w4 at *
      have u0 : w4.cell? ⟨pp, 0, none⟩ = some (.int .i64 a) := hP4.cell 0
      have u1 : w4.cell? ⟨pp, 1, none⟩ = some (.int .i64 b) := hP4.cell 1
      go_wp2_with fail
      refine (rtake_some n3 a b C (by omega) (by omega) hpos).mono ?_
      rintro e w7 ⟨I, hI, rfl, hn7, hf7⟩
      generalize (l.getD I (0, 0, ⟨#[]⟩)).2.2 = tt
      have hnF : ∀ k, w.heap.size ≤ k → ¬ F k := fun k hk hf => by have := h.fb k hf; omega
      have hP7 := hf7.blk hP4 (hnF pp (by omega))
      have hR7 := hf7.blk hB4 (hnF _ (Nat.le_refl _))
      have a0 : w7.cell? ⟨pp, 0, none⟩ = some (.int .i64 a) := hP7.cell 0
      have a1 : w7.cell? ⟨pp, 1, none⟩ = some (.int .i64 b) := hP7.cell 1
      have a2 : w7.cell? ⟨pp, 2, none⟩ = some (.string s) := hP7.cell 2
      have b0 : w7.cell? ⟨w.heap.size, 0, none⟩ = some (.int .i64 0) := hR7.cell 0
      have b1 : w7.cell? ⟨w.heap.size, 1, none⟩ = some (.int .i64 0) := hR7.cell 1
      have b2 : w7.cell? ⟨w.heap.size, 2, none⟩ = some (.string ⟨#[]⟩) := hR7.cell 2
      have f0 := hR7.frozen 0
      have f1 := hR7.frozen 1
      have f2 := hR7.frozen 2
      have e0 := (hR7.set_ 0 (.int .i64 a)).cell 0
      have e1 := ((hR7.set_ 0 (.int .i64 a)).set_ 1 (.int .i64 b)).cell 1
      have e2 := (((hR7.set_ 0 (.int .i64 a)).set_ 1 (.int .i64 b)).set_ 2 (.string s)).cell 2
      simp at e0 e1 e2
      have HI := Lib.hid hI; clear hI
      go_wp2_with fail
      have hsz7 := hf7.size
      have hs5 := hb4.size
      have hwp5 : w.heap.size < w4.heap.size := hB4.lt
      refine bodyPost_ret (v := .tuple #[.agg #[.int .i64 a, .int .i64 b, .string s], .bool true]) (by simp [results, Try.results22, go_sem, e0, e1, e2]) rfl ⟨I, by have := HI.out; rw [← HCC.out] at this; exact this, rfl, ?_, ?_⟩
      · have hset : Fr (fun k => k = w.heap.size) w7 (((w7.setCell ⟨w.heap.size, 0, none⟩ (.int .i64 a)).setCell ⟨w.heap.size, 1, none⟩ (.int .i64 b)).setCell ⟨w.heap.size, 2, none⟩ (.string s)) :=
          ((Fr.setCell (F := fun k => k = w.heap.size) _ _ _ _ rfl).trans (Fr.setCell _ _ _ _ rfl)).trans (Fr.setCell _ _ _ _ rfl)
        have k1 := hn7.keep hset (fun k hk hk2 => by
          subst hk
          rcases hk2 with hk2 | ⟨hk2, _⟩
          · exact hnF _ (Nat.le_refl _) hk2
          · omega)
        refine k1.more (fun k hk => ?_) (fun k hk => ?_)
        · rcases hk with hk | ⟨hk, hk3⟩
          · exact .inl hk
          · exact .inr ⟨by omega, by simpa using hk3⟩
        · rcases hk with hk | ⟨_, hk3⟩
          · have := h.fb k hk; simp; omega
          · exact hk3
      · have hset : Fr (fun k => k = w.heap.size ∨ F k) w7 (((w7.setCell ⟨w.heap.size, 0, none⟩ (.int .i64 a)).setCell ⟨w.heap.size, 1, none⟩ (.int .i64 b)).setCell ⟨w.heap.size, 2, none⟩ (.string s)) :=
          ((Fr.setCell _ _ _ _ (.inl rfl)).trans (Fr.setCell _ _ _ _ (.inl rfl))).trans (Fr.setCell _ _ _ _ (.inl rfl))
        have hall := ((Fr.of_below hb4 (fun k => k = w.heap.size ∨ F k)).trans (hf7.mono (fun k hk _ => .inr hk))).trans hset
        exact hall.mono (fun k hk hlt => by rcases hk with hk | hk; omega; exact hk)
end Go.Proofs.Ytikblgnpabonjaa
