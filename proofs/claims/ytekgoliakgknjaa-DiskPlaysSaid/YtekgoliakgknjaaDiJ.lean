import Derived.Test.YtekgoliakgknjaaDiI
namespace Go.Proofs.Ytekgoliakgknjaa
open Go.RowKit
set_option linter.unusedVariables false
attribute [local go_sem] b_max2 b_min2 b_max b_min

/-! ### a disk beside what a law holds -/
theorem laid_ok {st : Nat → Bool} {l : List Put} {i : Nat} {L : List ByteArray} : (laid st l i L).length = L.length := laid_len _ _ _ _
theorem DS.ok_reg {d : DS} (h : d.ok) (k : Int) : (fReg d k).1.ok := by
  unfold fReg
  split
  · exact h
  · split
    · exact h
    · exact h
theorem DS.ok_write {d : DS} (h : d.ok) (k s : Int) (t : ByteArray) : (fWrite d k s t).1.ok := by
  unfold fWrite
  dsimp only
  split
  · rename_i h0
    obtain ⟨s0, s1, _, _⟩ := may_zero h0
    intro j p hp
    by_cases hj : j = k
    · subst hj
      simp only [DS.setCache, if_pos] at hp
      rcases List.mem_append.1 hp with hp | hp
      · exact h j p hp
      · obtain rfl : p = (s.toNat, t) := by simpa using hp
        show s.toNat < d.lies.length; omega
    · simp only [DS.setCache, if_neg hj] at hp
      exact h j p hp
  · exact h
theorem DS.ok_settle {d : DS} (h : d.ok) (k : Int) (st : Nat → Bool) : (fSettle d k st).ok := by
  intro j p hp
  have e : (fSettle d k st).lies.length = d.lies.length := laid_len _ _ _ _
  rw [e]
  by_cases hj : j = k
  · subst hj
    simp only [fSettle, DS.setCache, if_pos] at hp
    cases hp
  · simp only [fSettle, DS.setCache, if_neg hj] at hp
    exact h j p hp
theorem DS.ok_new (n : Nat) : (DS.new n).ok := fun _ _ h => by cases h
def DL (B w : World) (g : Nat) (d : DS) : Prop := ∃ F, IsD w g F d ∧ d.ok ∧ Below B.heap.size B w ∧ ∀ k, F k → B.heap.size ≤ k
section
variable {B w w' : World} {g : Nat} {d d' : DS}
theorem DL.b (h : DL B w g d) : Below B.heap.size B w := by obtain ⟨F, _, _, h, _⟩ := h; exact h
theorem DL.low (h : DL B w g d) (hb : Below w.heap.size w w') : DL B w' g d := by
  obtain ⟨F, h1, h2, h3, h4⟩ := h
  exact ⟨F, h1.low hb, h2, h3.trans (hb.mono h3.size), h4⟩
theorem DL.alloc (h : DL B w g d) (o : Obj) : DL B (w.alloc o) g d := h.low ((Below.refl _ _).alloc (Nat.le_refl _) o)
theorem DL.drewN (h : DL B w g d) (n : Nat) : DL B (w.drewN n) g d := h.low (bdrewN (Below.refl _ _) n)
theorem Aft.dl {F : Nat → Prop} (ha : Aft w w' g F d') (hok : d'.ok) (h3 : Below B.heap.size B w) (h4 : ∀ k, F k → B.heap.size ≤ k) : DL B w' g d' := by
  obtain ⟨F', a1, a2, a3⟩ := ha
  exact ⟨F', a1, hok, a2.below h3 h4, fun k hk => (a3 k hk).elim (h4 k) (fun h => Nat.le_trans h3.size h)⟩
theorem new_dl (B w : World) (hb : Below B.heap.size B w) (n : Nat) (h1 : 1 ≤ n) (h2 : n ≤ 1000) :
    Calls Try.prog 11 #[.int .i64 n] w fun e w' => ∃ g, e = .returned (.pointer (some ⟨g, 0, none⟩)) ∧ DL B w' g (DS.new n) := by
  exact (new_any n w h1 h2).mono fun e w' ⟨g, F, e1, e2, e3, e4⟩ => ⟨g, e1, ⟨F, e2, DS.ok_new n, hb.trans (e4.mono hb.size), fun k hk => Nat.le_trans hb.size (e3 k hk)⟩⟩
theorem DL.reg (h : DL B w g d) (k r : Int) (hr : fReg d k = (d', r)) : Calls Try.prog 12 #[.pointer (some ⟨g, 0, none⟩), .int .i64 k] w fun e w' => e = .returned (.int .i64 r) ∧ DL B w' g d' := by
  obtain ⟨F, h1, h2, h3, h4⟩ := h
  exact (register_any h1 k).mono fun e w' ⟨e1, e2⟩ => by rw [hr] at e1 e2; exact ⟨e1, e2.dl (by have := DS.ok_reg h2 k; rw [hr] at this; exact this) h3 h4⟩
theorem DL.write (h : DL B w g d) (k s : Int) (t : ByteArray) (r : Int) (hl : (d.caches k).length ≤ 1000) (hr : fWrite d k s t = (d', r)) :
    Calls Try.prog 14 #[.pointer (some ⟨g, 0, none⟩), .int .i64 k, .int .i64 s, .string t] w fun e w' => e = .returned (.int .i64 r) ∧ DL B w' g d' := by
  obtain ⟨F, h1, h2, h3, h4⟩ := h
  exact (write_any h1 k s t hl).mono fun e w' ⟨e1, e2⟩ => by rw [hr] at e1 e2; exact ⟨e1, e2.dl (by have := DS.ok_write h2 k s t; rw [hr] at this; exact this) h3 h4⟩
theorem DL.flush (h : DL B w g d) (k r : Int) (hl : (d.caches k).length ≤ 100000) (hr : fFlush d k = (d', r)) :
    Calls Try.prog 17 #[.pointer (some ⟨g, 0, none⟩), .int .i64 k] w fun e w' => e = .returned (.int .i64 r) ∧ DL B w' g d' := by
  obtain ⟨F, h1, h2, h3, h4⟩ := h
  have hok : (fFlush d k).1.ok := by unfold fFlush; dsimp only; split; exact DS.ok_settle h2 k _; exact h2
  exact (flush_any h1 h2 k hl).mono fun e w' ⟨e1, e2, e3⟩ => by rw [hr] at e1 e2 hok; exact ⟨e1, (Aft.of_same e2 e3).dl hok h3 h4⟩
theorem DL.fence (h : DL B w g d) (k t r : Int) (hl : d.pend.length ≤ 100000) (hr : fFence d k t = (d', r)) :
    Calls Try.prog 20 #[.pointer (some ⟨g, 0, none⟩), .int .i64 k, .int .i64 t] w fun e w' => e = .returned (.int .i64 r) ∧ DL B w' g d' := by
  obtain ⟨F, h1, h2, h3, h4⟩ := h
  have hok : (fFence d k t).1.ok := by unfold fFence; split; exact h2; dsimp only; split; exact h2; exact h2
  exact (fence_any h1 k t hl).mono fun e w' ⟨e1, e2⟩ => by rw [hr] at e1 e2 hok; exact ⟨e1, e2.dl hok h3 h4⟩
theorem DL.takes (h : DL B w g d) (A : Option Addr) (n c : Nat) (zs : List Int) (r : Int) (hp : Picks w (fun k => B.heap.size ≤ k) A n zs) (hl : ∀ k, (d.caches k).length ≤ 100000) (hpl : d.pend.length ≤ 100000) (hr : fTakes d zs = (d', r)) :
    Calls Try.prog 24 #[.pointer (some ⟨g, 0, none⟩), .slice A n c] w fun e w' => e = .returned (.int .i64 r) ∧ DL B w' g d' := by
  obtain ⟨F, h1, h2, h3, h4⟩ := h
  have hok : (fTakes d zs).1.ok := by
    unfold fTakes
    cases d.pend with
    | nil => exact h2
    | cons k l => exact DS.ok_settle (d := (d.setPend l).setKey k false) h2 k _
  exact (takes_any h1 h2 hl A n c zs ⟨hp.len, hp.rd, fun h0 ad e => ⟨fun hF => (hp.own h0 ad e).1 (h4 _ hF), (hp.own h0 ad e).2⟩, hp.b⟩ hpl).mono fun e w' ⟨e1, e2⟩ => by rw [hr] at e1 e2 hok; exact ⟨e1, e2.dl hok h3 h4⟩
theorem DL.peek (h : DL B w g d) (s : Int) (t : ByteArray) (hr : fPeek d s = t) : Calls Try.prog 16 #[.pointer (some ⟨g, 0, none⟩), .int .i64 s] w fun e w' => e = .returned (.string t) ∧ w = w' := by
  obtain ⟨F, h1, _⟩ := h
  rw [← hr]; exact peek_any h1 s
end
theorem oddB_sec (c : Nat) : oddB (sec c) = false := by unfold oddB; rw [sec_size]; rfl
/-- four sectors -/
def L4 (a b c e : ByteArray) : List ByteArray := [a, b, c, e]
def Z4 : List ByteArray := List.replicate 4 (zeros 512)
theorem z4_len : Z4.length = 4 := rfl
def K1 : Int → Option Bool := fun j => if j = 1 then some true else none
def K2 : Int → Option Bool := fun j => if j = 2 then some true else K1 j
def C0 : Int → List Put := fun _ => []

def aw1 : DS := fSettle ⟨Z4, K2, fun j => if j = 1 then [(0, sec 120)] else [], []⟩ 1 (fun _ => true)
def aw2 : DS := aw1.setPend [1]
def aw3 : DS := aw2.setCache 1 [(0, sec 121)]
def aw4 : DS := fSettle ((aw3.setPend []).setKey 1 false) 1 (pickF [])
theorem aw3_len (k : Int) : (aw3.caches k).length ≤ 100000 := by
  unfold aw3 aw2 aw1 fSettle
  simp only [DS.setCache, DS.setPend, DS.setLies]
  split
  · simp
  · simp
set_option maxRecDepth 100000 in
set_option maxHeartbeats 1000000 in
theorem awake_any (w : World) : Calls Try.prog 10 #[] w fun e w' => e = .returned (.bool true) ∧ Below w.heap.size w w' := by
  go_enter Try.func10, Try.ntmps10
  go_wp2_with fail
  refine (new_dl w w (Below.refl _ _) 4 (by omega) (by omega)).mono ?_
  rintro e w1 ⟨g, rfl, h1⟩
  go_wp2_with fail
  refine (h1.reg 1 0 (d' := ⟨Z4, K1, C0, []⟩) rfl).mono ?_
  rintro e w2 ⟨rfl, h2⟩
  clear h1
  go_wp2_with fail
  refine (h2.reg 2 0 (d' := ⟨Z4, K2, C0, []⟩) rfl).mono ?_
  rintro e w3 ⟨rfl, h3⟩
  clear h2
  go_wp2_with fail
  refine (sector_any 120 _ (by omega)).mono ?_
  rintro e w4 ⟨rfl, b4⟩
  have h4 := h3.low b4
  clear h3 b4
  go_wp2_with fail
  refine (h4.write 1 0 (sec 120) 0 (by show 0 ≤ 1000; omega) (d' := ⟨Z4, K2, fun j => if j = 1 then [(0, sec 120)] else [], []⟩) (by rw [fWrite, oddB_sec]; rfl)).mono ?_
  rintro e w5 ⟨rfl, h5⟩
  clear h4
  go_wp2_with fail
  refine (h5.peek 0 (zeros 512) rfl).mono ?_
  rintro e w5' ⟨rfl, rfl⟩
  go_wp2_with fail
  refine (h5.flush 1 0 (by show 1 ≤ 100000; omega) (d' := aw1) rfl).mono ?_
  rintro e w6 ⟨rfl, h6⟩
  clear h5
  go_wp2_with fail
  refine (h6.peek 0 (sec 120) rfl).mono ?_
  rintro e w6' ⟨rfl, rfl⟩
  go_wp2_with fail
  refine (h6.fence 2 1 0 (by show 0 ≤ 100000; omega) (d' := aw2) rfl).mono ?_
  rintro e w7 ⟨rfl, h7⟩
  clear h6
  go_wp2_with fail
  refine (sector_any 121 _ (by omega)).mono ?_
  rintro e w8 ⟨rfl, b8⟩
  have h8 := h7.low b8
  clear h7 b8
  go_wp2_with fail
  refine (h8.write 1 0 (sec 121) 0 (by show 0 ≤ 1000; omega) (d' := aw3) (by rw [fWrite, oddB_sec]; rfl)).mono ?_
  rintro e w9 ⟨rfl, h9⟩
  clear h8
  go_wp2_with fail
  refine (h9.takes none 0 0 [] 1 (Picks.none_ _ _) aw3_len (by show 1 ≤ 100000; omega) (d' := aw4) rfl).mono ?_
  rintro e w10 ⟨rfl, h10⟩
  clear h9
  go_wp2_with fail
  refine (sector_any 122 _ (by omega)).mono ?_
  rintro e w11 ⟨rfl, b11⟩
  have h11 := h10.low b11
  clear h10 b11
  go_wp2_with fail
  refine (h11.write 1 0 (sec 122) 14 (by show 0 ≤ 1000; omega) (d' := aw4) (by rw [fWrite, oddB_sec]; rfl)).mono ?_
  rintro e w12 ⟨rfl, h12⟩
  clear h11
  obtain ⟨w13, hm, hc, b13⟩ := zero_text w12 512 (by omega)
  have h13 := h12.low b13
  have e1 := beq_list (zeros 512)
  have e2 := beq_list (sec 120)
  have hp := @DL.peek w w13 g aw4 h13 0 (sec 120) rfl
  have hm' : (Instr.makeSlice 28 (.int .i64 512) (.int .i64 512)).run Try.prog w12 = .ok (.slice (some ⟨w12.heap.size, 0, none⟩) 512 512) w13 := hm
  clear hm h12
  generalize sec 120 = x at *
  generalize zeros 512 = z at *
  go_wp2_with (go_at_call 16; refine hp.mono ?_; rintro e w' ⟨rfl, rfl⟩)
  go_ret
  exact ⟨rfl, h13.b⟩
end Go.Proofs.Ytekgoliakgknjaa
