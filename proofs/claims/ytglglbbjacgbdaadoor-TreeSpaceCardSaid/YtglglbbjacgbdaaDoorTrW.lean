import Derived.Test.YtglglbbjacgbdaaDoorTrV
namespace Go.Proofs.YtglglbbjacgbdaaDoor
open Go.RowKit
set_option linter.unusedVariables false
set_option linter.unusedSimpArgs false
attribute [local go_sem] b_max2 b_min2 b_max b_min

/-! ### New -/
def node0 : NR := ⟨0, 0, ⟨#[]⟩, []⟩
def newS (room : Int) (g : Nat) : TS := ⟨min (max room 0) 1099511627776, fun id => if id.1 = g ∧ (id.2 = 1 ∨ id.2 = 5 ∨ id.2 = 9 ∨ id.2 = 13) then some node0 else none⟩
def newA (room : Int) : Array Value := #[.int .i64 (min (max room 0) 1099511627776), .int .i64 0, .int .i64 0, .string ⟨#[]⟩, .slice none 0 0, .int .i64 0, .int .i64 0, .string ⟨#[]⟩, .slice none 0 0,
  .int .i64 0, .int .i64 0, .string ⟨#[]⟩, .slice none 0 0, .int .i64 0, .int .i64 0, .string ⟨#[]⟩, .slice none 0 0]
theorem newS_nd {room : Int} {g : Nat} {id : Id} {r : NR} (h : (newS room g).nd id = some r) : id.1 = g ∧ (id.2 = 1 ∨ id.2 = 5 ∨ id.2 = 9 ∨ id.2 = 13) ∧ r = node0 := by
  unfold newS at h
  dsimp only at h
  split at h
  · rename_i hh; exact ⟨hh.1, hh.2, (Option.some.inj h).symm⟩
  · cases h
theorem new_tree {w : World} {g : Nat} (room : Int) (hb : Blk w g 45 (newA room)) : IsT w g (newS room g) (fun _ => .slice none 0 0) ∧ SepT w g (newS room g) (fun _ => .slice none 0 0) := by
  refine ⟨⟨by rw [hb.cell]; rfl, fun id r e => ?_⟩, ⟨fun id r e => ?_, fun id r e => ?_, fun a b r r' k e1 e2 k1 => ?_, ⟨45, _, hb, by decide⟩⟩⟩
  · obtain ⟨i1, i2⟩ := id
    obtain ⟨h1, h2, rfl⟩ := newS_nd e
    dsimp only at h1 h2
    subst h1
    rcases h2 with rfl | rfl | rfl | rfl <;> exact ⟨by rw [hb.cell]; rfl, by rw [hb.cell]; rfl, by rw [hb.cell]; rfl, by rw [hb.cell]; rfl, World.ownsRow_nil _ _ _ _, ⟨_, _, hb⟩⟩
  · obtain ⟨h1, _, _⟩ := newS_nd e
    exact ⟨45, _, by rw [h1]; exact hb, by decide⟩
  · obtain ⟨h1, h2, _⟩ := newS_nd e
    refine .inl ⟨h1, ?_⟩
    rcases h2 with h2 | h2 | h2 | h2
    · exact ⟨0, by omega, by omega⟩
    · exact ⟨1, by omega, by omega⟩
    · exact ⟨2, by omega, by omega⟩
    · exact ⟨3, by omega, by omega⟩
  · simp [Value.ownBlock] at k1
set_option maxRecDepth 100000 in
set_option maxHeartbeats 1000000 in
theorem new_any (room : Int) (w : World) : Calls Tryd.prog 6 #[.int .i64 room] w fun e w' => e = .returned (.pointer (some ⟨w.heap.size, 0, none⟩)) ∧ Below w.heap.size w w' ∧
    IsT w' w.heap.size (newS room w.heap.size) (fun _ => .slice none 0 0) ∧ SepT w' w.heap.size (newS room w.heap.size) (fun _ => .slice none 0 0) := by
  obtain ⟨w0, hw0, b0, p0⟩ := open1 w (newA room) 45
  unfold newA at hw0
  have HB := Lib.hid b0; have HP := Lib.hid p0
  clear b0 p0
  go_enter Tryd.func6, Tryd.ntmps6
  go_wp2_with fail
  go_ret
  exact ⟨rfl, HB.out, new_tree room HP.out⟩
theorem ok_node0 : OkN node0 := ⟨by simp [node0, SortedC], by simp [node0], by simp [node0], by show (⟨#[]⟩ : ByteArray).size ≤ 10000; decide⟩
theorem newS_root (room : Int) (g z : Nat) (hz : z < 4) : (newS room g).nd (g, 1 + z * 4) = some node0 := by
  unfold newS
  dsimp only
  rw [if_pos ⟨rfl, by omega⟩]
theorem new_ok (room : Int) (g : Nat) : OkT (newS room g) g := by
  refine ⟨fun z hz => ⟨node0, newS_root room g z hz, by simp [node0]⟩, fun id r e c hc => ?_, fun id r e => ?_, ⟨[], by simp, fun b r e => ?_⟩⟩
  · obtain ⟨_, _, rfl⟩ := newS_nd e
    simp [node0] at hc
  · obtain ⟨_, _, rfl⟩ := newS_nd e
    exact ok_node0
  · obtain ⟨_, h, _⟩ := newS_nd e
    dsimp only at h
    omega
theorem new_kd (room : Int) (g : Nat) : KdT (newS room g) := by
  refine ⟨fun b r e => ?_, fun id r e => ?_⟩
  · obtain ⟨_, h, _⟩ := newS_nd e
    dsimp only at h
    omega
  · obtain ⟨_, _, rfl⟩ := newS_nd e
    simp [node0]
theorem new_trav (room : Int) (g D : Nat) : ∀ z, z ≤ 4 → travR (newS room g) g D z = [] := by
  intro z
  induction z with
  | zero => intro _; rfl
  | succ z ih =>
    intro hz
    have hr : rootL (newS room g) g z = [] := by unfold rootL; rw [newS_root room g z (by omega)]; rfl
    rw [travR, ih (by omega), hr, trav_nil]; rfl
theorem new_rk (room : Int) (g : Nat) : RkT (newS room g) g (fun _ => 0) 0 := by
  refine ⟨⟨fun b r e c hc => ?_⟩, fun z hz c hc => ?_, by omega, ?_, fun x hx => ?_⟩
  · obtain ⟨_, _, rfl⟩ := newS_nd e
    simp [node0] at hc
  · have hr : rootL (newS room g) g z = [] := by unfold rootL; rw [newS_root room g z hz]; rfl
    rw [hr] at hc
    simp at hc
  · show 0 ≤ min (max room 0) 1099511627776 ∧ min (max room 0) 1099511627776 ≤ 1099511627776
    omega
  · rw [new_trav room g 0 4 (by omega)] at hx
    simp at hx
end Go.Proofs.YtglglbbjacgbdaaDoor
