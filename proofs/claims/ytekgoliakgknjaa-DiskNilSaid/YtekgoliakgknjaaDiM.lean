import Derived.Test.YtekgoliakgknjaaDiL
namespace Go.Proofs.Ytekgoliakgknjaa
open Go.RowKit
set_option linter.unusedVariables false
attribute [local go_sem] b_max2 b_min2 b_max b_min

/-! ### no disk, and one without sectors -/
def NS (p : Option Addr) (w : World) : Prop := Calls Try.prog 27 #[.pointer p] w fun e w' => e = .returned (.int .i64 0) ∧ w = w'
theorem ns_nil (w : World) : NS none w := by
  unfold NS
  go_enter Try.func27, Try.ntmps27
  go_wp2_with fail
  go_ret
  exact ⟨rfl, rfl⟩
theorem ns_zero {w : World} {g : Nat} (h : Blk w g 69 #[.slice none 0 0, .map none, .map none, .slice none 0 0]) : NS (some ⟨g, 0, none⟩) w := by
  unfold NS
  have c0 : w.cell? ⟨g, 0, none⟩ = some (.slice none 0 0) := h.cell 0
  go_enter Try.func27, Try.ntmps27
  go_wp2_with fail
  go_ret
  exact ⟨rfl, rfl⟩
theorem may_ns {p : Option Addr} {w : World} (hs : NS p w) (k : Int) (A : Option Addr) (n c : Nat) : Calls Try.prog 45 #[.pointer p, .int .i64 k, .int .i64 0, .slice A n c] w fun e w' => e = .returned (.int .i64 1) ∧ w = w' := by
  unfold NS at hs
  go_enter Try.func45, Try.ntmps45
  go_wp2_with (go_at_call 27; refine hs.mono ?_; rintro e w' ⟨rfl, rfl⟩)
  go_ret
  exact ⟨rfl, rfl⟩
theorem reg_ns {p : Option Addr} {w : World} (hs : NS p w) (k : Int) : Calls Try.prog 12 #[.pointer p, .int .i64 k] w fun e w' => e = .returned (.int .i64 1) ∧ w = w' := by
  unfold NS at hs
  go_enter Try.func12, Try.ntmps12
  go_wp2_with (go_at_call 27; refine hs.mono ?_; rintro e w' ⟨rfl, rfl⟩)
  go_ret
  exact ⟨rfl, rfl⟩
theorem read_ns {p : Option Addr} {w : World} (hs : NS p w) (k : Int) : Calls Try.prog 15 #[.pointer p, .int .i64 k, .int .i64 0] w fun e w' => e = .returned (.tuple #[.string ⟨#[]⟩, .int .i64 1]) ∧ w = w' := by
  have hm := may_ns hs k none 0 0
  go_enter Try.func15, Try.ntmps15
  go_wp2_with (go_at_call 45; refine hm.mono ?_; rintro e w' ⟨rfl, rfl⟩)
  go_ret2
  exact ⟨rfl, rfl⟩
theorem flush_ns {p : Option Addr} {w : World} (hs : NS p w) (k : Int) : Calls Try.prog 17 #[.pointer p, .int .i64 k] w fun e w' => e = .returned (.int .i64 1) ∧ w = w' := by
  have hm := may_ns hs k none 0 0
  go_enter Try.func17, Try.ntmps17
  go_wp2_with (go_at_call 45; refine hm.mono ?_; rintro e w' ⟨rfl, rfl⟩)
  go_ret
  exact ⟨rfl, rfl⟩
theorem fence_ns {p : Option Addr} {w : World} (hs : NS p w) (k : Int) : Calls Try.prog 20 #[.pointer p, .int .i64 k, .int .i64 2] w fun e w' => e = .returned (.int .i64 1) ∧ w = w' := by
  have hm := may_ns hs k none 0 0
  go_enter Try.func20, Try.ntmps20
  go_wp2_with (go_at_call 45; refine hm.mono ?_; rintro e w' ⟨rfl, rfl⟩)
  go_ret
  exact ⟨rfl, rfl⟩
theorem write_nil (k : Int) (t : ByteArray) (w : World) : Calls Try.prog 14 #[.pointer none, .int .i64 k, .int .i64 0, .string t] w fun e w' => e = .returned (.int .i64 1) ∧ Below w.heap.size w w' := by
  have hm := may_ns (ns_nil (w.alloc (.cells #[.string t] 9))) k (some ⟨w.heap.size, 0, none⟩) 1 1
  go_enter Try.func14, Try.ntmps14
  go_wp2_with (go_at_call 45; refine hm.mono ?_; rintro e w' ⟨rfl, rfl⟩)
  go_ret
  exact ⟨rfl, (Below.refl _ w).alloc (Nat.le_refl _) _⟩
theorem swap_nil (k : Int) (t u : ByteArray) (w : World) : Calls Try.prog 18 #[.pointer none, .int .i64 k, .int .i64 0, .string t, .string u] w fun e w' => e = .returned (.int .i64 1) ∧ Below w.heap.size w w' := by
  have hm := may_ns (ns_nil (w.alloc (.cells #[.string t, .string u] 9))) k (some ⟨w.heap.size, 0, none⟩) 2 2
  go_enter Try.func18, Try.ntmps18
  go_wp2_with (go_at_call 45; refine hm.mono ?_; rintro e w' ⟨rfl, rfl⟩)
  go_ret
  exact ⟨rfl, (Below.refl _ w).alloc (Nat.le_refl _) _⟩
theorem power_nil (v : Value) (w : World) : Calls Try.prog 21 #[.pointer none, v] w fun e w' => e = .returned (.tuple #[]) ∧ w = w' := by
  go_enter Try.func21, Try.ntmps21
  go_wp2_with fail
  refine bodyPost_ret (results_none rfl _ _ _) rfl ?_
  exact ⟨rfl, rfl⟩
theorem pending_nil (w : World) : Calls Try.prog 22 #[.pointer none] w fun e w' => e = .returned (.slice none 0 0) ∧ w = w' := by
  go_enter Try.func22, Try.ntmps22
  go_wp2_with fail
  go_ret
  exact ⟨rfl, rfl⟩
theorem peek_ns {p : Option Addr} {w : World} (hs : NS p w) : Calls Try.prog 16 #[.pointer p, .int .i64 0] w fun e w' => e = .returned (.string ⟨#[]⟩) ∧ w = w' := by
  unfold NS at hs
  go_enter Try.func16, Try.ntmps16
  go_wp2_with (go_at_call 27; refine hs.mono ?_; rintro e w' ⟨rfl, rfl⟩)
  go_ret
  exact ⟨rfl, rfl⟩
set_option maxRecDepth 100000 in
set_option maxHeartbeats 2000000 in
theorem law_nil (k : Int) (w : World) (h0 : -9223372036854775808 ≤ k) (h1 : k ≤ 9223372036854775807) :
    Calls Try.prog 9 #[.int .i64 k] w fun e w' => e = .returned (.bool true) ∧ Below w.heap.size w w' := by
  go_enter Try.func9, Try.ntmps9
  go_wp2_with fail
  have hz : Blk (w.alloc (.cells #[.slice none 0 0, .map none, .map none, .slice none 0 0] 69)) w.heap.size 69 #[.slice none 0 0, .map none, .map none, .slice none 0 0] := Blk.new _ _ _
  have hb0 : Below w.heap.size w (w.alloc (.cells #[.slice none 0 0, .map none, .map none, .slice none 0 0] 69)) := (Below.refl _ w).alloc (Nat.le_refl _) _
  generalize w.alloc (.cells #[.slice none 0 0, .map none, .map none, .slice none 0 0] 69) = w0 at *
  generalize hzz : w.heap.size = z at *
  refine (sector_any 120 _ (by omega)).mono ?_
  rintro e w1 ⟨rfl, b1⟩
  have hb1 : Below z w w1 := hb0.trans (b1.mono (by have := hb0.size; omega))
  have hz1 := Fr.blk_low b1 hz
  generalize sec 120 = x at *
  clear hz b1 hb0
  go_wp2_with fail
  refine (drop_nil 1 _ _).mono ?_
  rintro e w2 ⟨rfl, rfl⟩
  go_wp2_with fail
  refine (power_nil _ _).mono ?_
  rintro e w2 ⟨rfl, rfl⟩
  have hz2 := (hz1.alloc (.cells #[.int .i64 1] 3)).alloc (.cells #[.int .i64 1] 3)
  have hb2 := (hb1.alloc (by have := hb1.size; omega) (.cells #[.int .i64 1] 3)).alloc (by have := hb1.size; simp; omega) (.cells #[.int .i64 1] 3)
  clear hz1 hb1
  generalize (w1.alloc (.cells #[.int .i64 1] 3)).alloc (.cells #[.int .i64 1] 3) = w2 at *
  go_wp2_with fail
  refine (read_ns (ns_nil _) 1).mono ?_
  rintro e w3 ⟨rfl, rfl⟩
  go_wp2_with fail
  refine (read_ns (ns_zero hz2) 1).mono ?_
  rintro e w3 ⟨rfl, rfl⟩
  go_wp2_with fail
  refine (awake_any _).mono ?_
  rintro e w3 ⟨rfl, b3⟩
  have hz3 := Fr.blk_low b3 hz2
  have hsz2 := hb2.size
  have hb3 : Below z w w3 := hb2.trans (b3.mono (by omega))
  clear hz2 hb2
  go_wp2_with fail
  refine (reg_ns (ns_nil _) 1).mono ?_
  rintro e w4 ⟨rfl, rfl⟩
  go_wp2_with fail
  refine (reg_ns (ns_zero hz3) 1).mono ?_
  rintro e w4 ⟨rfl, rfl⟩
  go_wp2_with fail
  refine (registered_nil _ k).mono ?_
  rintro e w4 ⟨rfl, rfl⟩
  go_wp2_with fail
  refine (write_nil 1 x _).mono ?_
  rintro e w5 ⟨rfl, b5⟩
  have hz5 := Fr.blk_low b5 hz3
  have hsz3 := hb3.size
  have hb5 : Below z w w5 := hb3.trans (b5.mono (by omega))
  clear hz3 hb3
  go_wp2_with fail
  refine (flush_ns (ns_nil _) 1).mono ?_
  rintro e w6 ⟨rfl, rfl⟩
  go_wp2_with fail
  refine (swap_nil 1 x x _).mono ?_
  rintro e w7 ⟨rfl, b7⟩
  have hz7 := Fr.blk_low b7 hz5
  have hsz5 := hb5.size
  have hb7 : Below z w w7 := hb5.trans (b7.mono (by omega))
  clear hz5 hb5
  go_wp2_with fail
  refine (fence_ns (ns_nil _) 1).mono ?_
  rintro e w8 ⟨rfl, rfl⟩
  go_wp2_with fail
  refine (takes_nil _ _).mono ?_
  rintro e w8 ⟨rfl, rfl⟩
  go_wp2_with fail
  refine (ns_nil _).mono ?_
  rintro e w8 ⟨rfl, rfl⟩
  go_wp2_with fail
  refine (cached_nil _ 1).mono ?_
  rintro e w8 ⟨rfl, rfl⟩
  go_wp2_with fail
  refine (pending_nil _).mono ?_
  rintro e w8 ⟨rfl, rfl⟩
  go_wp2_with fail
  refine (peek_ns (ns_nil _)).mono ?_
  rintro e w8 ⟨rfl, rfl⟩
  go_wp2_with fail
  refine (ns_zero hz7).mono ?_
  rintro e w8 ⟨rfl, rfl⟩
  go_wp2_with fail
  go_ret
  exact ⟨rfl, by rw [hzz]; exact hb7⟩
end Go.Proofs.Ytekgoliakgknjaa
