import Derived.Test.YtikblgnpabonjaaBaA
namespace Go.Proofs.Ytikblgnpabonjaa
open Go.RowKit
set_option linter.unusedVariables false
attribute [local go_sem] b_max2 b_min2 b_max b_min

def isL (f t : Int) : Prop := 0 ≤ f ∧ f < 8 ∧ 0 ≤ t ∧ t < 8 ∧ f ≠ t
instance (f t : Int) : Decidable (isL f t) := by unfold isL; exact inferInstance
theorem isL_cases (f t : Int) : ¬ isL f t ∨ ∃ a b : Nat, f = a ∧ t = b ∧ a < 8 ∧ b < 8 ∧ a ≠ b ∧ isL f t := by
  by_cases h : isL f t
  · obtain ⟨h1, h2, h3, h4, h5⟩ := h
    exact .inr ⟨f.toNat, t.toNat, by omega, by omega, by omega, by omega, by omega, ⟨h1, h2, h3, h4, h5⟩⟩
  · exact .inl h

theorem link_in (g a b : Nat) (w : World) (ha : a < 8) (hb : b < 8) (hab : a ≠ b) : Calls Try.prog 29 #[.pointer (some ⟨g, 0, none⟩), .int .i64 a, .int .i64 b] w fun e w' => e = .returned (.pointer (some ⟨g, a * 8 + b, none⟩)) ∧ w = w' := by
  have e1 : (a == b) = false := by simpa using hab
  have e2 : ((a : Int) == (b : Int)) = false := by simpa using (by omega : ¬ (a : Int) = b)
  go_enter Try.func29, Try.ntmps29
  go_wp2
  go_ret
  exact ⟨rfl, rfl⟩
theorem link_nil (f t : Int) (w : World) : Calls Try.prog 29 #[.pointer none, .int .i64 f, .int .i64 t] w fun e w' => e = .returned (.pointer none) ∧ w = w' := by
  go_enter Try.func29, Try.ntmps29
  go_wp2
  all_goals go_ret
  all_goals exact ⟨rfl, rfl⟩
theorem link_out (g : Nat) (f t : Int) (w : World) (h : ¬ isL f t) : Calls Try.prog 29 #[.pointer (some ⟨g, 0, none⟩), .int .i64 f, .int .i64 t] w fun e w' => e = .returned (.pointer none) ∧ w = w' := by
  have hc : f < 0 ∨ (0 ≤ f ∧ 8 ≤ f) ∨ (0 ≤ f ∧ f < 8 ∧ t < 0) ∨ (0 ≤ f ∧ f < 8 ∧ 0 ≤ t ∧ 8 ≤ t) ∨ (0 ≤ f ∧ f < 8 ∧ 0 ≤ t ∧ t < 8 ∧ f = t) := by
    unfold isL at h; omega
  clear h
  rcases hc with h | ⟨h1, h2⟩ | ⟨h1, h2, h3⟩ | ⟨h1, h2, h3, h4⟩ | ⟨h1, h2, h3, h4, rfl⟩
  all_goals
    go_enter Try.func29, Try.ntmps29
    go_wp2
    all_goals go_ret
    all_goals exact ⟨rfl, rfl⟩

/-- 'which' of k things -/
def place (w : Int) (k : Nat) : Nat := (if w < 0 then (-(w + 1)).toNat else w.toNat) % k
theorem place_lt (w : Int) {k : Nat} (h : 0 < k) : place w k < k := Nat.mod_lt _ h
theorem pick_any (A : Option Addr) (n c : Nat) (x : Int) (w : World) (h0 : -9223372036854775808 ≤ x) (h1 : x ≤ 9223372036854775807) (hn : n ≤ 9223372036854775807) :
    Calls Try.prog 30 #[.slice A n c, .int .i64 x] w fun e w' => e = .returned (.tuple #[.int .i64 (if n = 0 then 0 else (place x n : Nat)), .bool (decide (0 < n))]) ∧ w = w' := by
  go_enter Try.func30, Try.ntmps30
  go_upto_if 7 with (fail)
  go_cut [1] (fun s w' => s = .int .i64 (if x < 0 then -(x + 1) else x) ∧ w = w')
  case first =>
    by_cases hx : x < 0
    · go_wp2_with fail
      go_meet
      exact ⟨vint (by omega), rfl⟩
    · go_wp2_with fail
      go_meet
      exact ⟨vint (by omega), rfl⟩
  case rest =>
  obtain ⟨rfl, rfl⟩ := hcut
  have hy : 0 ≤ (if x < 0 then -(x + 1) else x) := by split <;> omega
  have hp : ∀ k : Nat, ((place x k : Nat) : Int) = (if x < 0 then -(x + 1) else x) % k := by
    intro k
    unfold place
    rw [Int.natCast_emod]
    congr 1
    split <;> omega
  generalize (if x < 0 then -(x + 1) else x) = y at *
  by_cases h : n = 0
  · subst h
    go_wp2_with fail
    go_ret2
    exact ⟨rfl, rfl⟩
  · have hn0 : ((n : Int) == 0) = false := by simpa using h
    have hn1 : (n == 0) = false := by simpa using h
    have hpos : 0 < n := by omega
    have HP := Lib.hid hp; clear hp
    go_wp2_with fail
    go_ret2
    rw [HP.out]
    exact ⟨rfl, rfl⟩
theorem pick_some (A : Option Addr) (n c : Nat) (x : Int) (w : World) (h0 : -9223372036854775808 ≤ x) (h1 : x ≤ 9223372036854775807) (hn : n ≤ 9223372036854775807) (hp : 0 < n) :
    Calls Try.prog 30 #[.slice A n c, .int .i64 x] w fun e w' => e = .returned (.tuple #[.int .i64 (place x n : Nat), .bool true]) ∧ w = w' := by
  have c := pick_any A n c x w h0 h1 hn
  rw [if_neg (by omega), decide_eq_true hp] at c
  exact c
theorem pick_none (A : Option Addr) (c : Nat) (x : Int) (w : World) (h0 : -9223372036854775808 ≤ x) (h1 : x ≤ 9223372036854775807) :
    Calls Try.prog 30 #[.slice A 0 c, .int .i64 x] w fun e w' => e = .returned (.tuple #[.int .i64 0, .bool false]) ∧ w = w' := by
  have c := pick_any A 0 c x w h0 h1 (by omega)
  exact c

theorem str_info : (Try.prog.info? 9).map (fun i => (i.zero, i.size, i.bytes)) = some (some (.string ⟨#[]⟩), 1, 16) := by kernel_rfl

/-! ### what the calls do -/
def lk (Ls : List (List ByteArray)) (a b : Nat) : List ByteArray := Ls.getD (a * 8 + b) []
def canSend (Ls : List (List ByteArray)) (f t : Int) (s : ByteArray) : Bool := decide (isL f t) && decide (s.size ≤ 2000) && decide ((lk Ls f.toNat t.toNat).length < 200)
def fSend (Ls : List (List ByteArray)) (f t : Int) (s : ByteArray) : List (List ByteArray) := if canSend Ls f t s then Ls.set (f.toNat * 8 + t.toNat) (lk Ls f.toNat t.toNat ++ [s]) else Ls

/-- the link's cell and its row -/
theorem IsN.at_ {w : World} {g : Nat} {F : Nat → Prop} {vs : List Value} {Ls : List (List ByteArray)} (h : IsN w g F vs Ls) {a b : Nat} (ha : a < 8) (hb : b < 8) :
    ∃ A c, vs[a * 8 + b]? = some (.slice A (lk Ls a b).length c) ∧ (lk Ls a b).length ≤ c ∧ Reads w w.heap.size 1 A (lk Ls a b).length ((lk Ls a b).map Value.string) ∧
      w.ownsRow 0 9 1 (.slice A (lk Ls a b).length c) (lk Ls a b).length ((lk Ls a b).map Value.string) ∧ (lk Ls a b).length ≤ 200 ∧ w.cell? ⟨g, a * 8 + b, none⟩ = some (.slice A (lk Ls a b).length c) ∧ w.frozen? ⟨g, a * 8 + b, none⟩ = false := by
  obtain ⟨v, l, hv, hl, ho, hlen⟩ := h.get (i := a * 8 + b) (by omega)
  have e : lk Ls a b = l := by simp [lk, List.getD_eq_getElem?_getD, hl]
  rw [e]
  obtain ⟨A, c, rfl, hc, hr⟩ := Reads.of_own ho
  exact ⟨A, c, hv, hc, hr, ho, hlen, h.cell hv, h.blk.frozen _⟩

/-- the network, but for where its lists lie -/
def Net (w : World) (g : Nat) (F : Nat → Prop) (Ls : List (List ByteArray)) : Prop := ∃ vs, IsN w g F vs Ls

set_option maxRecDepth 100000 in
theorem send_any {w : World} {g : Nat} {F : Nat → Prop} {Ls : List (List ByteArray)} (h : Net w g F Ls) (f t : Int) (s : ByteArray) (hs : s.size ≤ 9223372036854775807) :
    Calls Try.prog 13 #[.pointer (some ⟨g, 0, none⟩), .int .i64 f, .int .i64 t, .string s] w fun e w' => e = .returned (.bool (canSend Ls f t s)) ∧ Net w' g (Fup F w w') (fSend Ls f t s) ∧ Fr F w w' := by
  obtain ⟨vs, h⟩ := h
  have hNo : canSend Ls f t s = false → Net w g (Fup F w w) (fSend Ls f t s) ∧ Fr F w w := by
    intro hc
    have : Fup F w w = F := by funext k; unfold Fup; simp; omega
    rw [fSend, hc, if_neg (by simp), this]
    exact ⟨⟨vs, h⟩, Fr.refl _ _⟩
  rcases isL_cases f t with hl | ⟨a, b, rfl, rfl, ha, hb, hab, hL⟩
  · have hc : canSend Ls f t s = false := by simp [canSend, hl]
    have hno := hNo hc
    rw [hc]
    have c := link_out g f t w hl
    clear hc hNo
    go_enter Try.func13, Try.ntmps13
    go_wp2_with fail
    refine c.mono ?_
    rintro e w1 ⟨rfl, rfl⟩
    go_wp2_with fail
    go_ret
    exact ⟨rfl, hno⟩
  · obtain ⟨A, c, hv, hlc, hr, ho, hlen, hcell, hfz⟩ := h.at_ ha hb
    obtain ⟨i0, hi, hz0, hz1, hz2⟩ := info_parts str_info
    have HL := Lib.hid (rfl : lk Ls a b = lk Ls a b)
    have hS : fSend Ls a b s = if canSend Ls a b s then Ls.set (a * 8 + b) (lk Ls a b ++ [s]) else Ls := by simp [fSend]
    have hC : canSend Ls a b s = (decide (s.size ≤ 2000) && decide ((lk Ls a b).length < 200)) := by simp [canSend, hL]
    generalize lk Ls a b = l at *
    by_cases h1 : s.size ≤ 2000
    · by_cases h2 : l.length < 200
      · have hc : canSend Ls a b s = true := by rw [hC]; simp [h1, h2]
        rw [hc, if_pos rfl] at hS
        rw [hc, hS]
        have d1 : decide ((2000 : Int) < (s.size : Int)) = false := by simp; omega
        have d2 : decide ((200 : Int) ≤ (l.length : Int)) = false := by simp; omega
        clear hS hC hc hNo hr
        go_enter Try.func13, Try.ntmps13
        go_wp2_with fail
        refine (link_in g a b _ ha hb hab).mono ?_
        rintro e w1 ⟨rfl, rfl⟩
        have hgne : (Value.slice A l.length c).ownBlock ≠ some g := own_blk_ne ho h.blk (by decide)
        go_wp2_with (at_builtin; refine wpList_append_any _ rfl (.tmp 31) (.tmp 33) 53 rfl 0 9 i0 _ 1 16 Try.underlying53 hi hz0 hz1 hz2 rfl (by decide) _ _ _ rfl (ho.alloc _) (w.heap.size + 1) (some ⟨w.heap.size, 0, none⟩) 1 1 [.string s] rfl (Reads.new w #[.string s] 9 1 rfl rfl) (by simp [Value.oneCell']) (by simp only [maxLen]; omega) (by omega) (Nat.zero_le _) ?_)
        intro v' w1 hown' hgrow hown''
        have hfr : Fr (fun k => (Value.slice A l.length c).ownBlock = some k) w w1 := (Fr.alloc _ _ _).trans (Fr.of_grown hgrow)
        have hb1 := hfr.blk h.blk hgne
        have hc1 : w1.cell? ⟨g, a * 8 + b, none⟩ = some (.slice A l.length c) := by rw [hb1.cell]; simpa using hv
        have hf1 := hb1.frozen (a * 8 + b)
        have hu := h.upd (l' := l ++ [s]) hv hfr (by rw [List.length_append, List.map_append]; exact hown') (by rcases hown'' with e | e; exact .inl e; exact .inr (.inr ⟨_, e, by simp⟩)) (by simp; omega)
        have HU := Lib.hid hu; clear hu
        obtain ⟨A', c', rfl, _, _⟩ := Reads.of_own hown'
        clear hown''
        go_wp2_with fail
        go_ret
        exact ⟨rfl, ⟨_, HU.out.1⟩, HU.out.2⟩
      · have hc : canSend Ls a b s = false := by rw [hC]; simp; omega
        have hno := hNo hc
        rw [hc]
        have d1 : decide ((2000 : Int) < (s.size : Int)) = false := by simp; omega
        have d2 : decide ((200 : Int) ≤ (l.length : Int)) = true := by simp; omega
        clear hS hC hc hNo hr
        go_enter Try.func13, Try.ntmps13
        go_wp2_with fail
        refine (link_in g a b _ ha hb hab).mono ?_
        rintro e w1 ⟨rfl, rfl⟩
        go_wp2_with fail
        go_ret
        exact ⟨rfl, hno⟩
    · have hc : canSend Ls a b s = false := by rw [hC]; simp; omega
      have hno := hNo hc
      rw [hc]
      have d1 : decide ((2000 : Int) < (s.size : Int)) = true := by simp; omega
      clear hS hC hc hNo hr
      go_enter Try.func13, Try.ntmps13
      go_wp2_with fail
      refine (link_in g a b _ ha hb hab).mono ?_
      rintro e w1 ⟨rfl, rfl⟩
      go_wp2_with fail
      go_ret
      exact ⟨rfl, hno⟩
end Go.Proofs.Ytikblgnpabonjaa
