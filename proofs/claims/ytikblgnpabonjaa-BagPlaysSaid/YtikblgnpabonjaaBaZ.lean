import Derived.Test.YtikblgnpabonjaaBaY
namespace Go.Proofs.Ytikblgnpabonjaa
open Go.RowKit
set_option linter.unusedVariables false

/-! ### both networks in memory, side by side -/
structure LP (B w : World) (g : Nat) (F : Nat → Prop) (Ls : List (List ByteArray)) (g' : Nat) (F' : Nat → Prop) (l : List Pc) : Prop where
  ls : LS B w g F Ls
  rn : RNet w g' F' l
  lo : ∀ k, F' k → B.heap.size ≤ k
  dis : ∀ k, F k → ¬ F' k
section
variable {B w w' : World} {g g' : Nat} {F F' : Nat → Prop} {Ls Ls' : List (List ByteArray)} {l l' : List Pc}
theorem LP.net (h : LP B w g F Ls g' F' l) (h1 : LS B w' g (Fup F w w') Ls') (hf : Fr F w w') : LP B w' g (Fup F w w') Ls' g' F' l :=
  ⟨h1, h.rn.keep hf h.dis, h.lo, fun k hk hk' => by
    rcases hk with hk | ⟨hk, _⟩
    · exact h.dis k hk hk'
    · have := h.rn.fb k hk'; omega⟩
theorem LP.net_same (h : LP B w g F Ls g' F' l) (h1 : LS B w' g F Ls') (hf : Fr F w w') : LP B w' g F Ls' g' F' l := ⟨h1, h.rn.keep hf h.dis, h.lo, h.dis⟩
theorem LP.ref (h : LP B w g F Ls g' F' l) (h1 : RNet w' g' (Fup F' w w') l') (hf : Fr F' w w') : LP B w' g F Ls g' (Fup F' w w') l' :=
  ⟨⟨h.ls.net.keep hf (fun k hk hk' => h.dis k hk' hk), hf.below h.ls.b h.lo, h.ls.l⟩, h1, fun k hk => by
    rcases hk with hk | ⟨hk, _⟩
    · exact h.lo k hk
    · exact Nat.le_trans h.ls.b.size hk, fun k hk hk' => by
    rcases hk' with hk' | ⟨hk', _⟩
    · exact h.dis k hk hk'
    · have := h.ls.net.fb k hk; omega⟩
theorem LP.low (h : LP B w g F Ls g' F' l) (hb : Below w.heap.size w w') : LP B w' g F Ls g' F' l := ⟨h.ls.low hb, h.rn.low hb, h.lo, h.dis⟩
theorem LP.alloc (h : LP B w g F Ls g' F' l) (o : Obj) : LP B (w.alloc o) g F Ls g' F' l := h.low ((Below.refl _ _).alloc (Nat.le_refl _) o)
theorem LP.drewN (h : LP B w g F Ls g' F' l) (n : Nat) : LP B (w.drewN n) g F Ls g' F' l := h.low (bdrewN (Below.refl _ _) n)
/-- a block of another's own, past a call of either network -/
theorem LP.other (h : LP B w g F Ls g' F' l) {z : Nat} {t : TypeId} {cs : Array Value} (hb : Blk w z t cs) (h1 : ¬ F z) (h2 : ¬ F' z) (hf : Fr F w w' ∨ Fr F' w w') : Blk w' z t cs := by
  rcases hf with hf | hf
  · exact hf.blk hb h1
  · exact hf.blk hb h2
/-- the document's network, when it is made -/
theorem RNet.new (w : World) : RNet (w.alloc (.cells #[.slice none 0 0] 50)) w.heap.size (fun k => k = w.heap.size) [] :=
  ⟨none, 0, ⟨Blk.new _ _ _, World.ownsRow_nil _ _ _ _, rfl, (fun k hk => by cases hk), (fun k hk => by subst hk; simp), by simp⟩⟩
theorem LP.new {B w : World} {g : Nat} {F : Nat → Prop} {Ls : List (List ByteArray)} (h : LS B w g F Ls) : LP B (w.alloc (.cells #[.slice none 0 0] 50)) g F Ls w.heap.size (fun k => k = w.heap.size) [] :=
  ⟨h.low ((Below.refl _ _).alloc (Nat.le_refl _) _), RNet.new w, fun k hk => by subst hk; exact h.b.size, fun k hk hk' => by subst hk'; have := h.net.fb _ hk; omega⟩
end
end Go.Proofs.Ytikblgnpabonjaa
