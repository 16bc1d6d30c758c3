import Derived.Test.YtikblgnpabonjaaBaH
namespace Go.Proofs.Ytikblgnpabonjaa
open Go.RowKit
set_option linter.unusedVariables false
attribute [local go_sem] b_max2 b_min2 b_max b_min

theorem take_nil (f t x : Int) (w : World) : Calls Try.prog 18 #[.pointer none, .int .i64 f, .int .i64 t, .int .i64 x] w fun e w' => e = .returned (.tuple #[.string ⟨#[]⟩, .bool false]) ∧ w = w' := by
  go_enter Try.func18, Try.ntmps18
  go_wp2_with fail
  refine (link_nil f t _).mono ?_
  rintro e w1 ⟨rfl, rfl⟩
  go_wp2_with fail
  go_ret2
  exact ⟨rfl, rfl⟩
theorem send_nil (f t : Int) (s : ByteArray) (hs : s.size ≤ 9223372036854775807) (w : World) : Calls Try.prog 13 #[.pointer none, .int .i64 f, .int .i64 t, .string s] w fun e w' => e = .returned (.bool false) ∧ w = w' := by
  go_enter Try.func13, Try.ntmps13
  go_wp2_with fail
  refine (link_nil f t _).mono ?_
  rintro e w1 ⟨rfl, rfl⟩
  go_wp2_with fail
  go_ret
  exact ⟨rfl, rfl⟩
theorem double_nil (f t x : Int) (w : World) : Calls Try.prog 14 #[.pointer none, .int .i64 f, .int .i64 t, .int .i64 x] w fun e w' => e = .returned (.bool false) ∧ w = w' := by
  go_enter Try.func14, Try.ntmps14
  go_wp2_with fail
  refine (link_nil f t _).mono ?_
  rintro e w1 ⟨rfl, rfl⟩
  go_wp2_with fail
  go_ret
  exact ⟨rfl, rfl⟩
theorem waits_nil (f t : Int) (w : World) : Calls Try.prog 15 #[.pointer none, .int .i64 f, .int .i64 t] w fun e w' => e = .returned (.int .i64 0) ∧ w = w' := by
  go_enter Try.func15, Try.ntmps15
  go_wp2_with fail
  refine (link_nil f t _).mono ?_
  rintro e w1 ⟨rfl, rfl⟩
  go_wp2_with fail
  go_ret
  exact ⟨rfl, rfl⟩
theorem drop_nil (f t x : Int) (w : World) : Calls Try.prog 23 #[.pointer none, .int .i64 f, .int .i64 t, .int .i64 x] w fun e w' => e = .returned (.bool false) ∧ w = w' := by
  go_enter Try.func23, Try.ntmps23
  go_wp2_with fail
  refine (take_nil f t x _).mono ?_
  rintro e w1 ⟨rfl, rfl⟩
  go_wp2_with fail
  go_ret
  exact ⟨rfl, rfl⟩
set_option maxRecDepth 100000 in
theorem all_nil (w : World) : Calls Try.prog 17 #[.pointer none] w fun e w' => e = .returned (.slice none 0 0) ∧ w = w' := by
  go_enter Try.func17, Try.ntmps17
  go_wp2_with fail
  go_loopw [3, 4, 5, 6, 8, 9] (fun v _ _ _ _ p wr => ∃ i : Nat, p = .int .i64 i ∧ i ≤ 8 ∧ v = .slice none 0 0 ∧ w = wr) (fun _ _ _ _ _ p _ => 8 - (intOf p).toNat)
  case atStart => exact ⟨0, rfl, by omega, rfl, rfl⟩
  case round =>
    obtain ⟨i, rfl, hi8, rfl, rfl⟩ := hrel
    by_cases hlt : i < 8
    · have hd : decide ((i : Int) < 8) = true := by rw [decide_eq_true_eq]; omega
      go_wp2_with fail
      go_step3
      go_wp2_with fail
      go_step3
      go_wp2_with fail
      go_loopw [3, 5, 6, 8, 12] (fun v _ _ _ p wr => ∃ j : Nat, p = .int .i64 j ∧ j ≤ 8 ∧ v = .slice none 0 0 ∧ w = wr) (fun _ _ _ _ p _ => 8 - (intOf p).toNat)
      case atStart => exact ⟨0, rfl, by omega, rfl, rfl⟩
      case round =>
        obtain ⟨j, rfl, hj8, rfl, rfl⟩ := hrel
        by_cases hltj : j < 8
        · go_wp2_with fail
          refine (link_nil i j _).mono ?_
          rintro e w1 ⟨rfl, rfl⟩
          go_wp2_with fail
          go_roundw
          case rel => exact ⟨j + 1, vint (by omega), by omega, by first | rfl | trivial, by first | rfl | trivial⟩
          case measure => simp [intOf]; omega
        · go_wp2
          rw [Exit.noGoto_normal]
          go_wp2
          go_roundw
          case rel => exact ⟨i + 1, vint (by omega), by omega, by first | rfl | trivial, by first | rfl | trivial⟩
          case measure => simp [intOf]; omega
    · go_wp2_with fail
      go_ret
      exact ⟨rfl, rfl⟩
set_option maxRecDepth 100000 in
set_option maxHeartbeats 1000000 in
theorem any_nil {w : World} (x : Int) (x0 : -9223372036854775808 ≤ x) (x1 : x ≤ 9223372036854775807) :
    Calls Try.prog 16 #[.pointer none, .int .i64 x] w fun e w' => e = .returned (.tuple #[.agg #[.int .i64 0, .int .i64 0, .string ⟨#[]⟩], .bool false]) ∧ Below w.heap.size w w' := by
  have c := all_nil (w.alloc (.cells #[.int .i64 0, .int .i64 0, .string ⟨#[]⟩] 32))
  obtain ⟨i0, hi, hz0, hz1, hz2⟩ := info_parts str_info
  go_enter Try.func16, Try.ntmps16
  go_wp2_with fail
  refine c.mono ?_
  rintro e w1 ⟨rfl, rfl⟩
  have hb0 : Below w.heap.size w (w.alloc (.cells #[.int .i64 0, .int .i64 0, .string ⟨#[]⟩] 32)) := (Below.refl _ _).alloc (Nat.le_refl _) _
  have hR0 : Blk (w.alloc (.cells #[.int .i64 0, .int .i64 0, .string ⟨#[]⟩] 32)) w.heap.size 32 #[.int .i64 0, .int .i64 0, .string ⟨#[]⟩] := Blk.new _ _ _
  have hs1 : w.heap.size + 1 ≤ (w.alloc (.cells #[.int .i64 0, .int .i64 0, .string ⟨#[]⟩] 32)).heap.size := by simp
  generalize w.alloc (.cells #[.int .i64 0, .int .i64 0, .string ⟨#[]⟩] 32) = w1 at *
  go_wp2_with (with_reducible refine wpList_make_full _ rfl (.tmp 16) (.tmp 16) 53 rfl 0 9 i0 (.string ⟨#[]⟩) 1 Try.underlying53 hi hz0 hz1 .i64 .i64 0 0 0 rfl rfl rfl rfl (by rw [hz2]; omega) (by simp) (Nat.zero_le _) ?_)
  intro w2 hown2 hgr2
  have hb2 : Below w.heap.size w w2 := hb0.grown hgr2 (by omega) (by simp)
  go_wp2_with fail
  refine (pick_none _ _ x _ x0 x1).mono ?_
  rintro e w3 ⟨rfl, rfl⟩
  have hB : Blk w2 w.heap.size 32 #[.int .i64 0, .int .i64 0, .string ⟨#[]⟩] := hR0.grown hgr2 (by simp)
  have k0 : w2.cell? ⟨w.heap.size, 0, none⟩ = some (.int .i64 0) := hB.cell 0
  have k1 : w2.cell? ⟨w.heap.size, 1, none⟩ = some (.int .i64 0) := hB.cell 1
  have k2 : w2.cell? ⟨w.heap.size, 2, none⟩ = some (.string ⟨#[]⟩) := hB.cell 2
  have f0 := hB.frozen 0
  have f1 := hB.frozen 1
  have f2 := hB.frozen 2
  go_wp2_with fail
  have e0 := (hB.set_ 0 (.int .i64 0)).cell 0
  have e1 := ((hB.set_ 0 (.int .i64 0)).set_ 1 (.int .i64 0)).cell 1
  have e2 := (((hB.set_ 0 (.int .i64 0)).set_ 1 (.int .i64 0)).set_ 2 (.string ⟨#[]⟩)).cell 2
  simp at e0 e1 e2
  refine bodyPost_ret (v := .tuple #[.agg #[.int .i64 0, .int .i64 0, .string ⟨#[]⟩], .bool false]) (by simp [results, Try.results16, go_sem, e0, e1, e2]) rfl ⟨rfl, ?_⟩
  exact ((hb2.setCell (Nat.le_refl _) _).setCell (Nat.le_refl _) _).setCell (Nat.le_refl _) _

set_option maxRecDepth 100000 in
theorem void_nil {w : World} (x : Int) :
    Calls Try.prog 19 #[.pointer none, .int .i64 x] w fun e w' => e = .returned (.int .i64 0) ∧ Below w.heap.size w w' := by
  go_enter Try.func19, Try.ntmps19
  go_wp2_with fail
  go_loopw [5, 6, 8, 9] (fun v _ _ p wr => ∃ i : Nat, p = .int .i64 i ∧ i ≤ 8 ∧ v = .int .i64 0 ∧ Below w.heap.size w wr) (fun _ _ _ p _ => 8 - (intOf p).toNat)
  case atStart => exact ⟨0, rfl, by omega, rfl, Below.refl _ _⟩
  case round =>
    obtain ⟨i, rfl, hi, rfl, hb⟩ := hrel
    by_cases hlt : i < 8
    · have c1 := link_nil x i wr
      have c2 := link_nil i x wr
      have hd : decide ((i : Int) < 8) = true := by rw [decide_eq_true_eq]; omega
      go_wp2_with fail
      refine c1.mono ?_
      rintro e w1 ⟨rfl, rfl⟩
      go_wp2_with fail
      refine c2.mono ?_
      rintro e w1 ⟨rfl, rfl⟩
      go_wp2_with fail
      have hB : Blk (wr.alloc (.cells #[.pointer none, .pointer none] 59)) wr.heap.size 59 #[.pointer none, .pointer none] := Blk.new _ _ _
      have hb1 : Below w.heap.size w (wr.alloc (.cells #[.pointer none, .pointer none] 59)) := hb.alloc hb.size _
      generalize wr.alloc (.cells #[.pointer none, .pointer none] 59) = w1 at *
      generalize wr.heap.size = z at *
      have q0 : w1.cell? ⟨z, 0, none⟩ = some (.pointer none) := hB.cell 0
      have q1 : w1.cell? ⟨z, 1, none⟩ = some (.pointer none) := hB.cell 1
      go_loopw [5, 8, 22] (fun v _ p wr => ∃ j : Nat, p = .int .i64 j ∧ j ≤ 2 ∧ v = .int .i64 0 ∧ w1 = wr) (fun _ _ p _ => 2 - (intOf p).toNat)
      case atStart => exact ⟨0, rfl, by omega, rfl, rfl⟩
      case round =>
        obtain ⟨j, rfl, hj, rfl, rfl⟩ := hrel
        obtain rfl | rfl | rfl : j = 0 ∨ j = 1 ∨ j = 2 := by omega
        · go_wp2_with fail
          go_roundw
          case rel => exact ⟨1, rfl, by omega, by first | rfl | trivial, by first | rfl | trivial⟩
          case measure => simp [intOf]
        · go_wp2_with fail
          go_roundw
          case rel => exact ⟨2, rfl, by omega, by first | rfl | trivial, by first | rfl | trivial⟩
          case measure => simp [intOf]
        · go_wp2
          go_roundw
          case rel => exact ⟨i + 1, vint (by omega), by omega, by first | rfl | trivial, hb1⟩
          case measure => simp [intOf]; omega
    · go_wp2_with fail
      go_ret
      exact ⟨rfl, hb⟩


theorem net_new (w : World) : Net (w.alloc (.cells (List.replicate 64 (Value.slice none 0 0)).toArray 57)) w.heap.size (fun k => k = w.heap.size) (List.replicate 64 []) := by
  refine ⟨List.replicate 64 (Value.slice none 0 0), rfl, rfl, Blk.new _ _ _, ?_, ?_, rfl, ?_, ?_, ?_⟩
  · intro i v l hv hl
    obtain rfl : v = .slice none 0 0 := List.eq_of_mem_replicate (List.mem_of_getElem? hv)
    obtain rfl : l = [] := List.eq_of_mem_replicate (List.mem_of_getElem? hl)
    exact World.ownsRow_nil _ _ _ _
  · intro i j v v' k _ hv _ hk
    obtain rfl : v = .slice none 0 0 := List.eq_of_mem_replicate (List.mem_of_getElem? hv)
    cases hk
  · intro i v k hv hk
    obtain rfl : v = .slice none 0 0 := List.eq_of_mem_replicate (List.mem_of_getElem? hv)
    cases hk
  · intro k hk; subst hk; simp
  · intro l hl
    obtain rfl : l = [] := List.eq_of_mem_replicate hl
    simp

theorem new_any (w : World) : Calls Try.prog 11 #[] w fun e w' => e = .returned (.pointer (some ⟨w.heap.size, 0, none⟩)) ∧ Net w' w.heap.size (fun k => k = w.heap.size) (List.replicate 64 []) ∧ Below w.heap.size w w' ∧ w.heap.size < w'.heap.size := by
  go_enter Try.func11, Try.ntmps11
  go_wp2_with fail
  go_ret
  exact ⟨rfl, net_new w, (Below.refl _ _).alloc (Nat.le_refl _) _, by simp⟩
end Go.Proofs.Ytikblgnpabonjaa
