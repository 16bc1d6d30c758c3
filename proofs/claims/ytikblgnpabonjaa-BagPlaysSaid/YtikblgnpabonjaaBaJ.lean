import Derived.Test.YtikblgnpabonjaaBaI
namespace Go.Proofs.Ytikblgnpabonjaa
open Go.RowKit
set_option linter.unusedVariables false
attribute [local go_sem] b_max2 b_min2 b_max b_min

/-- a network of the call's own; all that was there when B stood is as it was -/
structure LS (B w : World) (g : Nat) (F : Nat → Prop) (Ls : List (List ByteArray)) : Prop where
  net : Net w g F Ls
  b : Below B.heap.size B w
  l : ∀ k, F k → B.heap.size ≤ k
section
variable {B w w' : World} {g : Nat} {F : Nat → Prop} {Ls Ls' : List (List ByteArray)}
theorem LS.step (h : LS B w g F Ls) (hn : Net w' g (Fup F w w') Ls') (hf : Fr F w w') : LS B w' g (Fup F w w') Ls' :=
  ⟨hn, hf.below h.b h.l, fun k hk => by rcases hk with hk | ⟨hk, _⟩; exact h.l k hk; exact Nat.le_trans h.b.size hk⟩
theorem LS.same (h : LS B w g F Ls) (hn : Net w' g F Ls') (hf : Fr F w w') : LS B w' g F Ls' := ⟨hn, hf.below h.b h.l, h.l⟩
theorem LS.low (h : LS B w g F Ls) (hb : Below w.heap.size w w') : LS B w' g F Ls := ⟨h.net.low hb, h.b.trans (hb.mono h.b.size), h.l⟩
theorem LS.drewN (h : LS B w g F Ls) (n : Nat) : LS B (w.drewN n) g F Ls := ⟨h.net.drewN n, bdrewN h.b n, h.l⟩
theorem send_ls (h : LS B w g F Ls) (f t : Int) (s : ByteArray) (hs : s.size ≤ 9223372036854775807) (r : Bool) (hr : canSend Ls f t s = r) (hL : fSend Ls f t s = Ls') :
    Calls Try.prog 13 #[.pointer (some ⟨g, 0, none⟩), .int .i64 f, .int .i64 t, .string s] w fun e w' => e = .returned (.bool r) ∧ LS B w' g (Fup F w w') Ls' ∧ Fr F w w' := by
  subst hr; subst hL
  exact (send_any h.net f t s hs).mono fun e w' ⟨h1, h2, h3⟩ => ⟨h1, h.step h2 h3, h3⟩
theorem take_ls (h : LS B w g F Ls) (f t x : Int) (x0 : -9223372036854775808 ≤ x) (x1 : x ≤ 9223372036854775807) (s : ByteArray) (r : Bool) (hs : tTake Ls f t x = s) (hr : canTake Ls f t = r) (hL : fTake Ls f t x = Ls') :
    Calls Try.prog 18 #[.pointer (some ⟨g, 0, none⟩), .int .i64 f, .int .i64 t, .int .i64 x] w fun e w' => e = .returned (.tuple #[.string s, .bool r]) ∧ LS B w' g (Fup F w w') Ls' ∧ Fr F w w' := by
  subst hr; subst hL; subst hs
  exact (take_any h.net f t x x0 x1).mono fun e w' ⟨h1, h2, h3⟩ => ⟨h1, h.step h2 h3, h3⟩
theorem drop_ls (h : LS B w g F Ls) (f t x : Int) (x0 : -9223372036854775808 ≤ x) (x1 : x ≤ 9223372036854775807) (r : Bool) (hr : canTake Ls f t = r) (hL : fTake Ls f t x = Ls') :
    Calls Try.prog 23 #[.pointer (some ⟨g, 0, none⟩), .int .i64 f, .int .i64 t, .int .i64 x] w fun e w' => e = .returned (.bool r) ∧ LS B w' g (Fup F w w') Ls' ∧ Fr F w w' := by
  subst hr; subst hL
  exact (drop_any h.net f t x x0 x1).mono fun e w' ⟨h1, h2, h3⟩ => ⟨h1, h.step h2 h3, h3⟩
theorem double_ls (h : LS B w g F Ls) (f t x : Int) (x0 : -9223372036854775808 ≤ x) (x1 : x ≤ 9223372036854775807) (r : Bool) (hr : canDouble Ls f t = r) (hL : fDouble Ls f t x = Ls') :
    Calls Try.prog 14 #[.pointer (some ⟨g, 0, none⟩), .int .i64 f, .int .i64 t, .int .i64 x] w fun e w' => e = .returned (.bool r) ∧ LS B w' g (Fup F w w') Ls' ∧ Fr F w w' := by
  subst hr; subst hL
  exact (double_any h.net f t x x0 x1).mono fun e w' ⟨h1, h2, h3⟩ => ⟨h1, h.step h2 h3, h3⟩
theorem waits_ls (h : LS B w g F Ls) (f t : Int) (n : Nat) (hn : fWaits Ls f t = n) :
    Calls Try.prog 15 #[.pointer (some ⟨g, 0, none⟩), .int .i64 f, .int .i64 t] w fun e w' => e = .returned (.int .i64 (n : Nat)) ∧ w = w' := by
  subst hn
  exact waits_any h.net f t
end
theorem new_ls (B w : World) (hb : Below B.heap.size B w) : Calls Try.prog 11 #[] w fun e w' => ∃ g, e = .returned (.pointer (some ⟨g, 0, none⟩)) ∧ LS B w' g (fun k => k = g) (List.replicate 64 []) ∧ g < w'.heap.size ∧ w.heap.size ≤ g ∧ Below w.heap.size w w' :=
  (new_any w).mono fun e w' ⟨h1, h2, h3, h4⟩ => ⟨_, h1, ⟨h2, hb.trans (h3.mono hb.size), fun k hk => by subst hk; exact hb.size⟩, h4, Nat.le_refl _, h3⟩

def bA : ByteArray := ⟨#[97]⟩
def bB : ByteArray := ⟨#[98]⟩
set_option maxRecDepth 100000 in
set_option maxHeartbeats 1000000 in
theorem awake_any (w : World) : Calls Try.prog 10 #[] w fun e w' => e = .returned (.bool true) ∧ Below w.heap.size w w' := by
  go_enter Try.func10, Try.ntmps10
  go_wp2_with fail
  refine (new_ls w _ (Below.refl _ _)).mono ?_
  rintro e w1 ⟨g, rfl, h1, _, _, _⟩
  go_wp2_with fail
  refine (send_ls h1 1 2 ⟨#[97]⟩ (by decide) true (Ls' := (List.replicate 64 []).set 10 [bA]) (by decide) (by rfl)).mono ?_
  rintro e w2 ⟨rfl, h2, _⟩
  go_wp2_with fail
  refine (send_ls h2 1 2 ⟨#[98]⟩ (by decide) true (Ls' := (List.replicate 64 []).set 10 [bA, bB]) (by decide) (by rfl)).mono ?_
  rintro e w3 ⟨rfl, h3, _⟩
  go_wp2_with fail
  refine (take_ls h3 1 2 1 (by omega) (by omega) ⟨#[98]⟩ true (Ls' := (List.replicate 64 []).set 10 [bA]) (by rfl) (by decide) (by rfl)).mono ?_
  rintro e w4 ⟨rfl, h4, _⟩
  go_wp2_with fail
  refine (double_ls h4 1 2 0 (by omega) (by omega) true (Ls' := (List.replicate 64 []).set 10 [bA, bA]) (by decide) (by rfl)).mono ?_
  rintro e w5 ⟨rfl, h5, _⟩
  go_wp2_with fail
  refine (waits_ls h5 1 2 2 (by decide)).mono ?_
  rintro e w6 ⟨rfl, rfl⟩
  go_wp2_with fail
  have hall : fAll ((List.replicate 64 []).set 10 [bA, bA]) = [(1, 2, bA), (1, 2, bA)] := by rfl
  refine (any_some h5.net 1 (by omega) (by omega) 1 2 1 ⟨#[97]⟩ [] [] (by omega) (by omega) (by omega) (by rw [hall]; rfl) (by decide) rfl (by rw [hall]; rfl) (by simp)).mono ?_
  rintro e w7 ⟨rfl, h7, hf7⟩
  have h7' := h5.step h7 hf7
  go_wp2_with fail
  refine (send_ls (h7'.low ((Below.refl _ w7).alloc (Nat.le_refl _) _)) 1 1 ⟨#[]⟩ (by decide) false rfl rfl).mono ?_
  rintro e w8 ⟨rfl, h8, _⟩
  go_wp2_with fail
  go_ret
  exact ⟨rfl, h8.b⟩

set_option maxRecDepth 100000 in
set_option maxHeartbeats 1000000 in
theorem law_nil (x : Int) (w : World) (x0 : -9223372036854775808 ≤ x) (x1 : x ≤ 9223372036854775807) : Calls Try.prog 9 #[.int .i64 x] w fun e w' => e = .returned (.bool true) ∧ Below w.heap.size w w' := by
  have hnet := net_new w
  have hz : LS w (w.alloc (.cells (List.replicate 64 (Value.slice none 0 0)).toArray 57)) w.heap.size (fun k => k = w.heap.size) (List.replicate 64 []) :=
    ⟨hnet, (Below.refl _ _).alloc (Nat.le_refl _) _, fun k hk => by subst hk; exact Nat.le_refl _⟩
  go_enter Try.func9, Try.ntmps9
  go_wp2_with fail
  refine (take_nil 0 1 x _).mono ?_
  rintro e w1 ⟨rfl, rfl⟩
  go_wp2_with fail
  refine (any_nil x x0 x1).mono ?_
  rintro e w1 ⟨rfl, hb1⟩
  have h1 := hz.low hb1
  go_wp2_with fail
  have h2 := h1.low ((Below.refl _ w1).alloc (Nat.le_refl _) (.cells #[.int .i64 0, .int .i64 0, .string ⟨#[]⟩] 32))
  refine (awake_any _).mono ?_
  rintro e w2 ⟨rfl, hb2⟩
  have h3 := h2.low hb2
  go_wp2_with fail
  refine (send_nil 0 1 ⟨#[]⟩ (by decide) _).mono ?_
  rintro e w3 ⟨rfl, rfl⟩
  go_wp2_with fail
  refine (drop_nil 0 1 x _).mono ?_
  rintro e w3 ⟨rfl, rfl⟩
  go_wp2_with fail
  refine (double_nil 0 1 x _).mono ?_
  rintro e w3 ⟨rfl, rfl⟩
  go_wp2_with fail
  refine (void_nil 0).mono ?_
  rintro e w3 ⟨rfl, hb3⟩
  have h4 := h3.low hb3
  go_wp2_with fail
  refine (waits_nil 0 1 _).mono ?_
  rintro e w4 ⟨rfl, rfl⟩
  go_wp2_with fail
  refine (all_nil _).mono ?_
  rintro e w4 ⟨rfl, rfl⟩
  go_wp2_with fail
  refine (send_ls h4 0 1 ⟨#[120]⟩ (by decide) true (Ls' := (List.replicate 64 []).set 1 [⟨#[120]⟩]) (by decide) (by rfl)).mono ?_
  rintro e w5 ⟨rfl, h5, _⟩
  go_wp2_with fail
  refine (waits_ls h5 0 1 1 (by decide)).mono ?_
  rintro e w6 ⟨rfl, rfl⟩
  go_wp2_with fail
  go_ret
  exact ⟨rfl, h5.b⟩
end Go.Proofs.Ytikblgnpabonjaa
