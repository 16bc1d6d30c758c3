import Derived.Test.YtekgoliakgknjaaDiF
namespace Go.Proofs.Ytekgoliakgknjaa
open Go.RowKit
set_option linter.unusedVariables false
attribute [local go_sem] b_max2 b_min2 b_max b_min

theorem int_info : (Try.prog.info? 3).map (fun i => (i.zero, i.size, i.bytes)) = some (some (.int .i64 0), 1, 8) := by kernel_rfl
/-! ### append to a row that may begin behind its block's first cells -/
theorem orow_append {w : World} {v : Value} {n : Nat} {xs : List Value} (h : ORow w 3 v n xs) (hn : n ≤ 100000) (ad : Addr) (c : Nat) (x : Int) (hx : w.cell? ad = some (.int .i64 x)) (ty : TypeId) :
    ∃ v' w', (Builtin.append_ #[31, 31] ty #[v, .slice (some ad) 1 c]).run Try.prog w = .ok v' w' ∧ ORow w' 3 v' (n + 1) (xs ++ [.int .i64 x]) ∧ w.grownBy w' v.ownBlock ∧ (v'.ownBlock = v.ownBlock ∨ v'.ownBlock = some w.heap.size) := by
  obtain ⟨i, hi, hz, hsize, hby⟩ := info_parts int_info
  have hnews : ∀ j u, [Value.int .i64 x][j]? = some u → w.cell? (ad.add j) = some u := by
    intro j u hj
    cases j with
    | zero => simp at hj; subst hj; exact hx
    | succ j => simp at hj
  obtain ⟨h0, ⟨rfl, rfl⟩ | ⟨b, o, cap, cur, rfl, h2, h3, h4, h5, h6⟩⟩ := h
  · obtain rfl : xs = [] := List.eq_nil_of_length_eq_zero h0
    obtain ⟨v', w', r1, r2, r3, _, r5⟩ := run_append_own_at (P := Try.prog) w 0 31 ty 3 i (.int .i64 0) 1 8 Try.underlying31 hi hz hsize hby rfl (by decide) (.slice none 0 0) 0 [] (World.ownsRow_nil _ _ _ _) ad 1 c [.int .i64 x] rfl hnews (by simp [Value.oneCell']) (by simp only [maxLen]; omega) (by omega) (Nat.zero_le _)
    exact ⟨v', w', r1, ORow.of_own r2, r3, r5⟩
  · by_cases hroom : n + 1 ≤ cap
    · have hf := run_firstCells_some (P := Try.prog) w i.size 1 ad 1 c [.int .i64 x] (by rw [hsize]; rfl) hnews
      have hst := run_storeCells_at Try.prog b (o + n) 3 [.int .i64 x] 0 cur w h2 (by simp; omega) (by simp [Value.oneCell'])
      simp only [Nat.add_zero] at hst
      refine ⟨.slice (some ⟨b, o, none⟩) (n + 1) cap, w.setRow b (cur.toList.take (o + n) ++ [Value.int .i64 x] ++ cur.toList.drop (o + n + 1)).toArray, ?_, ⟨by simp [h0], .inr ⟨b, o, cap, _, rfl, setRow_heap w b cur _ 3 _ h2, hroom, h4, ?_, ?_⟩⟩, ⟨rfl, rfl, rfl, by simp, fun k _ hk => setRow_other w b k _ (fun e => hk (by simp [Value.ownBlock, e]))⟩, .inl rfl⟩
      · rw [hsize] at hf
        have hadd : (⟨b, o, none⟩ : Addr).add n = ⟨b, o + n, none⟩ := by unfold Addr.add; split <;> simp_all
        have hst' := hst
        simp only [List.length_singleton] at hst'
        simp [Builtin.append_, run_underlying Try.underlying31, sizeOf, typeInfo, hi, hsize, Builtin.lenOf, hroom, hf, hadd, hst']
      · simp; omega
      · rw [List.toList_toArray, List.append_assoc, List.drop_append, List.drop_take, List.length_take, Array.length_toList, show o - min (o + n) cur.size = 0 by omega, List.drop_zero, show o + n - o = n by omega, h6, ← List.append_assoc]
        rw [List.take_append_of_le_length (by simp [h0])]
        rw [List.take_of_length_le (by simp [h0])]
    · have holds : ∀ j u, xs[j]? = some u → w.cell? ((⟨b, o, none⟩ : Addr).add j) = some u := by
        intro j u hj
        have hj2 := (List.getElem?_eq_some_iff.1 hj).1
        have hadd : (⟨b, o, none⟩ : Addr).add j = ⟨b, o + j, none⟩ := by unfold Addr.add; split <;> simp_all
        rw [hadd, cell_of_row w b (o + j) cur 3 (0, 0) h2, ← Array.getElem?_toList]
        rw [← h6, List.getElem?_take, List.getElem?_drop] at hj
        split at hj
        · exact hj
        · simp at hj
      have hr := run_append_grow (P := Try.prog) w 31 ty 3 i (.int .i64 0) Try.underlying31 hi hz ⟨b, o, none⟩ n cap xs (by rw [hsize]; omega) holds ad 1 c [.int .i64 x] (by rw [hsize]; rfl) hnews (by omega) (by omega) (growslice_fits (by omega) (by rw [hby]; omega))
      have hge := grownCap_ge w (n + 1) cap 3
      have hcm : grownCap w (n + 1) cap 3 ≤ maxLen := grownCap_le_maxLen w (n + 1) cap 3 (by simp only [maxLen]; omega)
      refine ⟨_, _, hr, ⟨by simp [h0], .inr ⟨w.heap.size, 0, _, _, rfl, heap_alloc_new w.drew _, hge, hcm, ?_, ?_⟩⟩, ⟨rfl, rfl, rfl, by simp, fun k hk _ => heap_alloc_old w.drew _ hk⟩, .inr rfl⟩
      · simp [size_zeroCells, h0, Value.cells]; omega
      · rw [List.drop_zero]
        simp only [Array.toList_append, List.append_assoc]
        rw [← List.append_assoc, show n + 1 = (xs ++ [Value.int .i64 x]).length by simp [h0]]
        exact List.take_left
theorem wpList_append_orow {w : World} {ops : Array Oper} {rest : List Oper} {o : Oper} {a : Act} {Q : Exit → Act → World → Prop} (hgd : o.guard = none) (s y : Operand)
    (ho : o.op = .call { callee := .builtin .append, args := #[s, y], argTypes := #[31, 31] }) (v : Value) (n : Nat) (xs : List Value) (hs : a.eval s = v) (h : ORow w 3 v n xs) (hn : n ≤ 100000)
    (ad : Addr) (c : Nat) (x : Int) (hy : a.eval y = .slice (some ad) 1 c) (hx : w.cell? ad = some (.int .i64 x))
    (hK : ∀ v' w', ORow w' 3 v' (n + 1) (xs ++ [.int .i64 x]) → w.grownBy w' v.ownBlock → (v'.ownBlock = v.ownBlock ∨ v'.ownBlock = some w.heap.size) → wpList Try.prog ops Q rest (a.put o.dst v') w') : wpList Try.prog ops Q (o :: rest) a w := by
  refine wpList_plain hgd fun K hK' => ?_
  obtain ⟨v', w', hrun, h2, h3, h4⟩ := orow_append h hn ad c x hx o.type
  unfold Oper.wp execOp
  simp only [ho, resolve, invoke, builtin, Sem.run_bind, Sem.run_pure, Result.andThen_ok, List.map_toArray, List.map_cons, List.map_nil, hs, hy, hrun]
  exact hK' _ _ (hK v' w' h2 h3 h4)
theorem ORow.reads {w : World} {e : TypeId} {v : Value} {n : Nat} {xs : List Value} (h : ORow w e v n xs) : ∃ A c, v = .slice A n c ∧ n ≤ c ∧ Reads w w.heap.size 1 A n xs := by
  obtain ⟨h0, ⟨rfl, rfl⟩ | ⟨b, o, cap, cur, rfl, h2, h3, h4, h5, h6⟩⟩ := h
  · exact ⟨none, 0, rfl, Nat.le_refl _, by omega, fun hn => by omega⟩
  · refine ⟨_, _, rfl, h3, by omega, fun _ => ⟨_, rfl, (Array.getElem?_eq_some_iff.1 h2).1, fun j u hj => ?_⟩⟩
    have hadd : (⟨b, o, none⟩ : Addr).add j = ⟨b, o + j, none⟩ := by unfold Addr.add; split <;> simp_all
    rw [hadd, cell_of_row w b (o + j) cur e (0, 0) h2, ← Array.getElem?_toList]
    rw [← h6, List.getElem?_take, List.getElem?_drop] at hj
    split at hj
    · exact hj
    · simp at hj
set_option maxRecDepth 100000 in
set_option maxHeartbeats 400000 in
theorem indexi_any (A : Option Addr) (n c : Nat) (xs : List Int) (k : Int) (w : World) (hx : xs.length = n) (hr : Reads w w.heap.size 1 A n (xs.map (Value.int .i64))) (hn : n ≤ 1000000) :
    Calls Try.prog 67 #[.slice A n c, .int .i64 k] w fun e w' => (∃ i : Int, e = .returned (.int .i64 i) ∧ decide (0 ≤ i) = xs.contains k ∧ -1 ≤ i) ∧ w = w' := by
  go_enter Try.func67, Try.ntmps67
  go_wp2_with fail
  go_loopw [8, 5] (fun p _ wr => ∃ i : Nat, p = .int .i64 i ∧ i ≤ n ∧ Hid (k ∉ xs.take i) ∧ w = wr) (fun p _ _ => n - (intOf p).toNat)
  case atStart => exact ⟨0, rfl, by omega, Lib.hid (by simp), rfl⟩
  case round =>
    obtain ⟨i, rfl, hi, hpre, rfl⟩ := hrel
    by_cases hlt : i < n
    · obtain ⟨ad, rfl, hb, hc⟩ := hr.2 (by omega)
      have hg := hc i _ (by rw [List.getElem?_map, List.getElem?_eq_getElem (by omega)]; rfl)
      have hs : xs.take (i + 1) = xs.take i ++ [xs[i]'(by omega)] := List.take_succ_eq_append_getElem (by omega)
      have hmem : xs[i]'(by omega) ∈ xs := List.getElem_mem _
      clear hc
      generalize xs[i]'(by omega) = y at *
      have HS := Lib.hid hs; clear hs
      by_cases hk : k = y
      · have hc' : (k == y) = true := by rw [beq_iff_eq]; exact hk
        have HM := Lib.hid (show k ∈ xs by rw [hk]; exact hmem)
        clear hk hmem
        go_wp2_with fail
        go_ret
        exact ⟨⟨_, rfl, by rw [Bool.eq_iff_iff, decide_eq_true_eq, List.contains_iff_mem]; exact ⟨fun _ => HM.out, fun _ => by omega⟩, by omega⟩, rfl⟩
      · have hc' : (k == y) = false := by rw [beq_eq_false_iff_ne]; exact hk
        have HK := Lib.hid hk; clear hk hmem
        go_wp2_with fail
        go_roundw
        case rel => exact ⟨i + 1, vint (by omega), by omega, Lib.hid (by rw [HS.out, List.mem_append]; intro e; rcases e with e | e; exact hpre.out e; exact HK.out (by simpa using e)), trivial⟩
        case measure => simp [intOf]; omega
    · obtain rfl : i = n := by omega
      have hall : k ∉ xs := by have := hpre.out; rw [List.take_of_length_le (by omega)] at this; exact this
      have HA := Lib.hid hall; clear hall
      go_wp2_with fail
      go_ret
      exact ⟨⟨_, rfl, by rw [Bool.eq_iff_iff, decide_eq_true_eq, List.contains_iff_mem]; exact ⟨fun h => by omega, fun h => (HA.out h).elim⟩, by omega⟩, rfl⟩
theorem containsi_any (A : Option Addr) (n c : Nat) (xs : List Int) (k : Int) (w : World) (hx : xs.length = n) (hr : Reads w w.heap.size 1 A n (xs.map (Value.int .i64))) (hn : n ≤ 1000000) :
    Calls Try.prog 49 #[.slice A n c, .int .i64 k] w fun e w' => e = .returned (.bool (xs.contains k)) ∧ w = w' := by
  go_enter Try.func49, Try.ntmps49
  go_wp2_with fail
  refine (indexi_any A n c xs k w hx hr hn).mono ?_
  rintro e w' ⟨⟨i, rfl, hi, _⟩, rfl⟩
  go_wp2_with fail
  go_ret
  exact ⟨ret_bool (by simp), rfl⟩
/-! ### picks -/
def pickF (zs : List Int) (i : Nat) : Bool := decide (i < zs.length) && ((zs.getD i 0).tmod 2 != 0)
theorem picked_any (A : Option Addr) (n c : Nat) (w : World) : Calls Try.prog 52 #[.slice A n c] w fun e w' => e = .returned (.func (.func 71) #[] #[.pointer (some ⟨w.heap.size, 0, none⟩)]) ∧ w' = w.alloc (.cells #[.slice A n c] 31) := by
  go_enter Try.func52, Try.ntmps52
  go_wp2_with fail
  go_ret
  exact ⟨rfl, rfl⟩
set_option maxRecDepth 100000 in
theorem pick_any (pb : Addr) (A : Option Addr) (n c : Nat) (zs : List Int) (i : Nat) (B : Nat) (w : World) (hp : w.cell? pb = some (.slice A n c)) (hz : zs.length = n) (hr : Reads w B 1 A n (zs.map (Value.int .i64)))
    (hb : ∀ z ∈ zs, -9223372036854775808 ≤ z ∧ z ≤ 9223372036854775807) (hi : i ≤ 1000000) :
    Calls Try.prog 71 #[.int .i64 i, .pointer (some pb)] w fun e w' => e = .returned (.bool (pickF zs i)) ∧ w = w' := by
  by_cases hlt : i < n
  · obtain ⟨ad, rfl, _, hc⟩ := hr.2 (by omega)
    have hg := hc i _ (by rw [List.getElem?_map, List.getElem?_eq_getElem (by omega)]; rfl)
    have hb' := hb (zs[i]'(by omega)) (List.getElem_mem _)
    have e1 : pickF zs i = ((zs[i]'(by omega)).tmod 2 != 0) := by
      rw [pickF, decide_eq_true (by omega), Bool.true_and, List.getD_eq_getElem?_getD, List.getElem?_eq_getElem (by omega)]; rfl
    rw [e1]
    clear hc e1 hb hr
    generalize zs[i]'(by omega) = y at *
    have tb1 := Int.tmod_lt_of_pos y (show (0:Int) < 2 by omega)
    have tb2 := Int.lt_tmod_of_pos y (show (0:Int) < 2 by omega)
    go_enter Try.func71, Try.ntmps71
    go_wp2_with fail
    go_ret
    exact ⟨rfl, rfl⟩
  · have e1 : pickF zs i = false := by rw [pickF, decide_eq_false (by omega), Bool.false_and]
    rw [e1]
    clear hr hb
    go_enter Try.func71, Try.ntmps71
    go_wp2_with fail
    go_ret
    exact ⟨rfl, rfl⟩
end Go.Proofs.Ytekgoliakgknjaa
