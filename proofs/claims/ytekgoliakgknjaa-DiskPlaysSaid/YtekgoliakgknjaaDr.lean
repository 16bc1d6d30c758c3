import Derived.Test.YtekgoliakgknjaaDq
namespace Go.Proofs.Ytekgoliakgknjaa
open Go.RowKit
set_option linter.unusedVariables false
attribute [local go_sem] b_max2 b_min2 b_max b_min

/-- the document's disk once i sectors are there -/
def RN (z : ByteArray) (i : Nat) : RS := ⟨List.replicate i z, [], [], [], []⟩
set_option maxRecDepth 100000 in
set_option maxHeartbeats 1000000 in
theorem rnew_any (n : Nat) (w : World) (h1 : 1 ≤ n) (h2 : n ≤ 1000) :
    Calls Try.prog 26 #[.int .i64 n] w fun e w' => ∃ g F, e = .returned (.pointer (some ⟨g, 0, none⟩)) ∧ IsR w' g F (RN (zeros 512) n) ∧ (∀ k, F k → w.heap.size ≤ k) ∧ Below w.heap.size w w' := by
  obtain ⟨i0, hinf, hz0, hz1, hz2⟩ := info_parts str_info
  go_enter Try.func26, Try.ntmps26
  go_upto_block 0 with (fail)
  have hg0 : Blk (w.alloc (.cells #[.slice none 0 0, .slice none 0 0, .slice none 0 0, .slice none 0 0, .slice none 0 0] 64)) w.heap.size 64 #[.slice none 0 0, .slice none 0 0, .slice none 0 0, .slice none 0 0, .slice none 0 0] := Blk.new _ _ _
  have hb0 : Below w.heap.size w (w.alloc (.cells #[.slice none 0 0, .slice none 0 0, .slice none 0 0, .slice none 0 0, .slice none 0 0] 64)) := (Below.refl _ w).alloc (Nat.le_refl _) _
  generalize hz : zeros 512 = z
  replace hz := Lib.hid hz
  have hx0 : RX (w.alloc (.cells #[.slice none 0 0, .slice none 0 0, .slice none 0 0, .slice none 0 0, .slice none 0 0] 64)) w.heap.size (fun k => k = w.heap.size) (RN z 0) (fun _ => .slice none 0 0) := by
    refine ⟨hg0, fun j hj => ?_, rfl, fun j _ k hk => (by cases hk), fun i j _ _ _ k hk => (by cases hk), fun k hk => (by simp [hk])⟩
    rcases j with _ | _ | _ | _ | _ | j
    · exact World.ownsRow_nil _ _ _ _
    · exact World.ownsRow_nil _ _ _ _
    · exact World.ownsRow_nil _ _ _ _
    · exact World.ownsRow_nil _ _ _ _
    · exact ORow.nil _ _
    · omega
  clear hg0
  generalize w.alloc (.cells #[.slice none 0 0, .slice none 0 0, .slice none 0 0, .slice none 0 0, .slice none 0 0] 64) = w1 at *
  generalize hg : w.heap.size = g at *
  replace hg := Lib.hid hg
  go_wp2_with fail
  go_loopw [4] (fun p wr => ∃ (i : Nat) (vs : Nat → Value) (F : Nat → Prop), p = .int .i64 i ∧ i ≤ n ∧ RX wr g F (RN z i) vs ∧ (∀ k, F k → g ≤ k) ∧ Below g w wr) (fun p _ => n - (intOf p).toNat)
  case atStart => exact ⟨0, _, _, rfl, by omega, hx0, fun k hk => Nat.le_of_eq hk.symm, hb0⟩
  case round =>
    clear hx0 hb0
    obtain ⟨i, vs, F, rfl, hi, hx, hF, hb⟩ := hrel
    by_cases hlt : i < n
    · obtain ⟨w4, hm, hc, b4⟩ := zero_text (wr.drewN 1) 512 (by omega)
      rw [hz.out] at hc
      have hm' : (Instr.makeSlice 28 (.int .i64 512) (.int .i64 512)).run Try.prog wr.drew = .ok (.slice (some ⟨wr.heap.size, 0, none⟩) 512 512) w4 := hm
      have hc' : (convert 28 9 (.slice (some ⟨wr.heap.size, 0, none⟩) 512 512)).run Try.prog w4 = .ok (.string z) w4 := hc
      have b5 : Below wr.heap.size wr (w4.alloc (.cells #[.string z] 9)) := ((bdrewN (Below.refl _ wr) 1).trans b4).alloc b4.size _
      have hx5 := hx.low b5
      have c0 : wr.cell? ⟨g, 0, none⟩ = some (vs 0) := by simpa using hx.blk.cell 0
      have c5 : w4.cell? ⟨g, 0, none⟩ = some (vs 0) := by
        rw [b4.cell (p := ⟨g, 0, none⟩) hx.blk.lt]; exact c0
      have ho : (w4.alloc (.cells #[.string z] 9)).ownsRow 0 9 1 (vs 0) (List.replicate i z).length ((List.replicate i z).map Value.string) := hx5.row 0 (by omega)
      rw [List.length_replicate] at ho
      obtain ⟨A, c, e0, _, _⟩ := Reads.of_own ho
      have c6 : (w4.alloc (.cells #[.string z] 9)).cell? ⟨g, 0, none⟩ = some (vs 0) := by simpa using hx5.blk.cell 0
      rw [e0] at c0 c5 c6 ho
      have hfin : ∀ v' w5, w5.ownsRow 0 9 1 v' (i + 1) ((List.replicate i z).map Value.string ++ [.string z]) → (w4.alloc (.cells #[.string z] 9)).grownBy w5 (Value.slice A i c).ownBlock → (v'.ownBlock = (Value.slice A i c).ownBlock ∨ v'.ownBlock = some (w4.alloc (.cells #[.string z] 9)).heap.size) →
          w5.frozen? ⟨g, 0, none⟩ = false ∧ (∃ u, w5.cell? ⟨g, 0, none⟩ = some u) ∧ ∃ vs' F', RX (w5.setCell ⟨g, 0, none⟩ v') g F' (RN z (i + 1)) vs' ∧ (∀ k, F' k → g ≤ k) ∧ Below g w (w5.setCell ⟨g, 0, none⟩ v') := by
        intro v' w5 hown hgrow hob
        have hfr : Fr (fun k => (vs 0).ownBlock = some k) (w4.alloc (.cells #[.string z] 9)) w5 := by rw [e0]; exact Fr.of_grown hgrow
        have hb5 := hfr.blk hx5.blk (fun e => (hx5.fo 0 (by omega) g e).2 rfl)
        have hu := hx5.upd (R' := RN z (i + 1)) 0 (by omega) hfr (v' := v') (by
            show w5.ownsRow 0 9 1 v' (List.replicate (i + 1) z).length ((List.replicate (i + 1) z).map Value.string)
            rw [List.length_replicate, List.replicate_succ', List.map_append]; exact hown)
          (fun j hj hne w v hr => by rcases j with _ | _ | _ | _ | _ | j; exact absurd rfl hne; exact hr; exact hr; exact hr; exact hr; omega)
          (by rcases hob with e | e; exact .inl (by rw [e0]; exact e); exact .inr (.inr ⟨_, e, Nat.le_refl _⟩))
        have hgs : g ≤ (w4.alloc (.cells #[.string z] 9)).heap.size := Nat.le_of_lt hx5.blk.lt
        refine ⟨hb5.frozen 0, ⟨_, by simpa using hb5.cell 0⟩, _, _, hu.1, fun k hk => hk.elim (hF k) (fun e => Nat.le_trans hgs e.1), ?_⟩
        have hbb : Below g w (w4.alloc (.cells #[.string z] 9)) := hb.trans (b5.mono (Nat.le_of_lt hx.blk.lt))
        have := hg.out
        subst this
        exact hu.2.below hbb hF
      have HFIN := Lib.hid hfin; have HO := Lib.hid ho
      clear hfin ho hx hx5 e0 hm hc
      go_wp2_with fail
      go_region_law (refine step_append_any _ rfl (.tmp 20) (.tmp 23) 60 rfl 0 9 i0 _ 1 16 Try.underlying60 hinf hz0 hz1 hz2 rfl (by decide) (.slice A i c) _ _ (by simp [Act.eval]) (by exact HO.out) (w4.heap.size + 1) (some ⟨w4.heap.size, 0, none⟩) 1 1 [.string z] (by simp [Act.eval]) (Reads.new w4 #[.string z] 9 1 rfl rfl) (by simp [Value.oneCell']) (by simp only [maxLen]; omega) (by omega) (Nat.zero_le _) ?_; intro v' w5 hown' hgrow hob; have HN := Lib.hid (HFIN.out v' w5 hown' hgrow hob).2.2; obtain ⟨f5, ⟨u5, q5⟩, _⟩ := HFIN.out v' w5 hown' hgrow hob; obtain ⟨A', c', rfl, _, _⟩ := Reads.of_own hown'; clear hown' hgrow hob)
      all_goals
        go_wp2_with fail
        go_roundw
        case rel =>
          obtain ⟨vs', F', x1, x2, x3⟩ := HN.out
          exact ⟨i + 1, vs', F', vint (by omega), by omega, x1, x2, x3⟩
        case measure => simp [intOf]; omega
    · obtain rfl : i = n := by omega
      go_wp2_with fail
      go_ret
      rw [hz.out, hg.out]
      refine ⟨g, F, rfl, ⟨⟨vs, hx⟩, ⟨by simp [RN]; omega, rfl, fun _ h => (by cases h), fun _ h => (by cases h)⟩, ⟨by simp [RN]; omega, Nat.zero_le _, Nat.zero_le _, Nat.zero_le _⟩⟩, hF, hb⟩
/-- what a call writes -/
def txt (y : Nat) (b : Bool) : ByteArray := if b = true then (sec y).extract 0 511 else sec y
set_option maxRecDepth 100000 in
set_option maxHeartbeats 1000000 in
theorem optext_any (k0 k1 k2 k3 : Int) (y : Nat) (b : Bool) (A : Option Addr) (n c : Nat) (w : World) (hy : y < 256) :
    Calls Try.prog 30 #[.agg #[.int .i64 k0, .int .i64 k1, .int .i64 k2, .int .i64 k3, .int .u8 y, .bool b, .slice A n c]] w fun e w' => e = .returned (.string (txt y b)) ∧ Below w.heap.size w w' := by
  have cs := fun w => sector_any y w hy
  have hsz := sec_size y
  unfold txt
  generalize sec y = x at *
  cases b with
  | true =>
    rw [if_pos rfl]
    go_enter Try.func30, Try.ntmps30
    go_wp2_with fail
    refine (cs _).mono ?_
    rintro e w1 ⟨rfl, b1⟩
    have hb : Below w.heap.size w w1 := ((Below.refl _ w).alloc (Nat.le_refl _) _).trans (b1.mono (by simp))
    have c5 : w1.cell? ⟨w.heap.size, 5, none⟩ = some (.bool true) := by
      rw [b1.cell (p := ⟨w.heap.size, 5, none⟩) (by simp)]
      exact (Blk.new w 33 #[.int .i64 k0, .int .i64 k1, .int .i64 k2, .int .i64 k3, .int .u8 y, .bool true, .slice A n c]).cell 5
    go_wp2_with fail
    go_ret
    exact ⟨rfl, hb⟩
  | false =>
    rw [if_neg (by simp)]
    go_enter Try.func30, Try.ntmps30
    go_wp2_with fail
    refine (cs _).mono ?_
    rintro e w1 ⟨rfl, b1⟩
    have hb : Below w.heap.size w w1 := ((Below.refl _ w).alloc (Nat.le_refl _) _).trans (b1.mono (by simp))
    have c5 : w1.cell? ⟨w.heap.size, 5, none⟩ = some (.bool false) := by
      rw [b1.cell (p := ⟨w.heap.size, 5, none⟩) (by simp)]
      exact (Blk.new w 33 #[.int .i64 k0, .int .i64 k1, .int .i64 k2, .int .i64 k3, .int .u8 y, .bool false, .slice A n c]).cell 5
    go_wp2_with fail
    go_ret
    exact ⟨rfl, hb⟩
set_option maxRecDepth 100000 in
theorem oppicks_any (k0 k1 k2 k3 : Int) (y : Nat) (b : Bool) (A : Option Addr) (n c : Nat) (w : World) (hc : n ≤ c) :
    Calls Try.prog 28 #[.agg #[.int .i64 k0, .int .i64 k1, .int .i64 k2, .int .i64 k3, .int .u8 y, .bool b, .slice A n c]] w fun e w' => e = .returned (.slice A (min n 12) c) ∧ Below w.heap.size w w' := by
  have hb : Below w.heap.size w (w.alloc (.cells #[.int .i64 k0, .int .i64 k1, .int .i64 k2, .int .i64 k3, .int .u8 y, .bool b, .slice A n c] 33)) := (Below.refl _ w).alloc (Nat.le_refl _) _
  by_cases h : 12 < n
  · rw [Nat.min_eq_right (by omega)]
    go_enter Try.func28, Try.ntmps28
    go_wp2_with fail
    go_ret
    exact ⟨rfl, hb⟩
  · rw [Nat.min_eq_left (by omega)]
    go_enter Try.func28, Try.ntmps28
    go_wp2_with fail
    go_ret
    exact ⟨rfl, hb⟩
end Go.Proofs.Ytekgoliakgknjaa
