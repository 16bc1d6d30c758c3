import Derived.Test.YtikblgnpabonjaaBaG
namespace Go.Proofs.Ytikblgnpabonjaa
open Go.RowKit
set_option linter.unusedVariables false
attribute [local go_sem] b_max2 b_min2 b_max b_min

theorem Net.at_ {w : World} {g : Nat} {F : Nat → Prop} {Ls : List (List ByteArray)} (h : Net w g F Ls) {a b : Nat} (ha : a < 8) (hb : b < 8) :
    ∃ A c, (lk Ls a b).length ≤ 200 ∧ w.cell? ⟨g, a * 8 + b, none⟩ = some (.slice A (lk Ls a b).length c) ∧ w.frozen? ⟨g, a * 8 + b, none⟩ = false := by
  obtain ⟨vs, h⟩ := h
  obtain ⟨A, c, hv, hlc, hr, ho, hlen, hcell, hfz⟩ := h.at_ ha hb
  exact ⟨A, c, hlen, hcell, hfz⟩
theorem Net.clear {w : World} {g : Nat} {F : Nat → Prop} {Ls : List (List ByteArray)} (h : Net w g F Ls) {i : Nat} (hi : i < 64) :
    Net (w.setCell ⟨g, i, none⟩ (.slice none 0 0)) g F (Ls.set i []) ∧ Fr F w (w.setCell ⟨g, i, none⟩ (.slice none 0 0)) := by
  obtain ⟨vs, h⟩ := h
  obtain ⟨v, l, hv, hl, ho, hlen⟩ := h.get hi
  obtain ⟨k1, k2⟩ := h.upd (w1 := w) (v' := .slice none 0 0) (l' := []) hv (Fr.refl _ _) (World.ownsRow_nil _ _ _ _) (.inr (.inl rfl)) (by simp)
  have e : Fup F w (w.setCell ⟨g, i, none⟩ (.slice none 0 0)) = F := by
    funext k; unfold Fup; simp; omega
  rw [e] at k1
  exact ⟨⟨_, k1⟩, k2⟩

/-- one step of Void: a link from the node, and one to it -/
def voidStep (n : Nat) (st : List (List ByteArray) × Nat) (o : Nat) : List (List ByteArray) × Nat :=
  if n = o then st else ((st.1.set (n * 8 + o) []).set (o * 8 + n) [], st.2 + (lk st.1 n o).length + (lk st.1 o n).length)
def voidTo (Ls : List (List ByteArray)) (n k : Nat) : List (List ByteArray) × Nat := (List.range k).foldl (voidStep n) (Ls, 0)
theorem voidTo_succ (Ls : List (List ByteArray)) (n k : Nat) : voidTo Ls n (k + 1) = voidStep n (voidTo Ls n k) k := by
  unfold voidTo; rw [List.range_succ, List.foldl_append]; rfl

set_option maxRecDepth 100000 in
theorem void_out {w : World} {g : Nat} (x : Int) (hx : x < 0 ∨ 8 ≤ x) :
    Calls Try.prog 19 #[.pointer (some ⟨g, 0, none⟩), .int .i64 x] w fun e w' => e = .returned (.int .i64 0) ∧ Below w.heap.size w w' := by
  have HX := Lib.hid hx; clear hx
  go_enter Try.func19, Try.ntmps19
  go_wp2_with fail
  go_loopw [5, 6, 8, 9] (fun v _ _ p wr => ∃ i : Nat, p = .int .i64 i ∧ i ≤ 8 ∧ v = .int .i64 0 ∧ Below w.heap.size w wr) (fun _ _ _ p _ => 8 - (intOf p).toNat)
  case atStart => exact ⟨0, rfl, by omega, rfl, Below.refl _ _⟩
  case round =>
    obtain ⟨i, rfl, hi, rfl, hb⟩ := hrel
    by_cases hlt : i < 8
    · have c1 := link_out g x i wr (by unfold isL; have := HX.out; omega)
      have c2 := link_out g i x wr (by unfold isL; have := HX.out; omega)
      have hd : decide ((i : Int) < 8) = true := by rw [decide_eq_true_eq]; omega
      go_wp2_with fail
      refine c1.mono ?_
      rintro e w1 ⟨rfl, rfl⟩
      go_wp2_with fail
      refine c2.mono ?_
      rintro e w1 ⟨rfl, rfl⟩
      go_wp2_with fail
      have hB : Blk (wr.alloc (.cells #[.pointer none, .pointer none] 59)) wr.heap.size 59 #[.pointer none, .pointer none] := Blk.new _ _ _
      have hb1 : Below w.heap.size w (wr.alloc (.cells #[.pointer none, .pointer none] 59)) := hb.alloc hb.size _
      generalize wr.alloc (.cells #[.pointer none, .pointer none] 59) = w1 at *
      generalize wr.heap.size = z at *
      have q0 : w1.cell? ⟨z, 0, none⟩ = some (.pointer none) := hB.cell 0
      have q1 : w1.cell? ⟨z, 1, none⟩ = some (.pointer none) := hB.cell 1
      go_loopw [5, 8, 22] (fun v _ p wr => ∃ j : Nat, p = .int .i64 j ∧ j ≤ 2 ∧ v = .int .i64 0 ∧ w1 = wr) (fun _ _ p _ => 2 - (intOf p).toNat)
      case atStart => exact ⟨0, rfl, by omega, rfl, rfl⟩
      case round =>
        obtain ⟨j, rfl, hj, rfl, rfl⟩ := hrel
        obtain rfl | rfl | rfl : j = 0 ∨ j = 1 ∨ j = 2 := by omega
        · go_wp2_with fail
          go_roundw
          case rel => exact ⟨1, rfl, by omega, by first | rfl | trivial, by first | rfl | trivial⟩
          case measure => simp [intOf]
        · go_wp2_with fail
          go_roundw
          case rel => exact ⟨2, rfl, by omega, by first | rfl | trivial, by first | rfl | trivial⟩
          case measure => simp [intOf]
        · go_wp2
          go_roundw
          case rel => exact ⟨i + 1, vint (by omega), by omega, by first | rfl | trivial, hb1⟩
          case measure => simp [intOf]; omega
    · go_wp2_with fail
      go_ret
      exact ⟨rfl, hb⟩

theorem lk_set' {Ls : List (List ByteArray)} {a b a' b' : Nat} {l' : List ByteArray} (hne : a * 8 + b ≠ a' * 8 + b') : lk (Ls.set (a * 8 + b) l') a' b' = lk Ls a' b' := by
  unfold lk
  rw [List.getD_eq_getElem?_getD, List.getElem?_set, if_neg hne, List.getD_eq_getElem?_getD]
theorem voidTo_len (Ls : List (List ByteArray)) (n k : Nat) : (voidTo Ls n k).1.length = Ls.length := by
  induction k with
  | zero => rfl
  | succ k ih => rw [voidTo_succ, voidStep]; split; exact ih; simpa using ih
theorem voidTo_le {Ls : List (List ByteArray)} (hc : ∀ l ∈ Ls, l.length ≤ 200) (n k : Nat) : (∀ l ∈ (voidTo Ls n k).1, l.length ≤ 200) ∧ (voidTo Ls n k).2 ≤ 400 * k := by
  induction k with
  | zero => exact ⟨hc, by simp [voidTo]⟩
  | succ k ih =>
    rw [voidTo_succ, voidStep]
    split
    · exact ⟨ih.1, by omega⟩
    · refine ⟨set_mem' (P := fun l : List ByteArray => l.length ≤ 200) (set_mem' (P := fun l : List ByteArray => l.length ≤ 200) ih.1 _ _ (by simp)) _ _ (by simp), ?_⟩
      have h1 := lk_le ih.1 n k
      have h2 := lk_le ih.1 k n
      simp only []; omega

set_option maxRecDepth 100000 in
set_option maxHeartbeats 1000000 in
theorem void_in {w : World} {g : Nat} {F : Nat → Prop} {Ls : List (List ByteArray)} (h : Net w g F Ls) (n : Nat) (hn : n < 8) :
    Calls Try.prog 19 #[.pointer (some ⟨g, 0, none⟩), .int .i64 n] w fun e w' => e = .returned (.int .i64 ((voidTo Ls n 8).2 : Nat)) ∧ Net w' g F (voidTo Ls n 8).1 ∧ Fr F w w' := by
  go_enter Try.func19, Try.ntmps19
  go_wp2_with fail
  go_loopw [5, 6, 8, 9] (fun v _ _ p wr => ∃ i : Nat, p = .int .i64 i ∧ i ≤ 8 ∧ v = .int .i64 ((voidTo Ls n i).2 : Nat) ∧ Net wr g F (voidTo Ls n i).1 ∧ Fr F w wr) (fun _ _ _ p _ => 8 - (intOf p).toNat)
  case atStart => exact ⟨0, rfl, by omega, rfl, h, Fr.refl _ _⟩
  case round =>
    obtain ⟨i, rfl, hi, rfl, hN, hF⟩ := hrel
    by_cases hlt : i < 8
    · have hd : decide ((i : Int) < 8) = true := by rw [decide_eq_true_eq]; omega
      have hsucc := voidTo_succ Ls n i
      have hle := (voidTo_le h.cap n i).2
      by_cases hni : n = i
      · rw [voidStep, if_pos hni] at hsucc
        subst hni
        have c1 := link_out g n n wr (by unfold isL; omega)
        have HS := Lib.hid hsucc; clear hsucc
        generalize hCC : (voidTo Ls n n).2 = C at *
        have HCC := Lib.hid hCC; clear hCC
        go_wp2_with fail
        refine c1.mono ?_
        rintro e w1 ⟨rfl, rfl⟩
        go_wp2_with fail
        refine c1.mono ?_
        rintro e w1 ⟨rfl, rfl⟩
        go_wp2_with fail
        have hB : Blk (wr.alloc (.cells #[.pointer none, .pointer none] 59)) wr.heap.size 59 #[.pointer none, .pointer none] := Blk.new _ _ _
        have hN1 : Net (wr.alloc (.cells #[.pointer none, .pointer none] 59)) g F (voidTo Ls n n).1 := hN.low ((Below.refl _ wr).alloc (Nat.le_refl _) _)
        have hF1 : Fr F w (wr.alloc (.cells #[.pointer none, .pointer none] 59)) := hF.trans (Fr.alloc _ _ _)
        generalize wr.alloc (.cells #[.pointer none, .pointer none] 59) = w1 at *
        generalize wr.heap.size = z at *
        have q0 : w1.cell? ⟨z, 0, none⟩ = some (.pointer none) := hB.cell 0
        have q1 : w1.cell? ⟨z, 1, none⟩ = some (.pointer none) := hB.cell 1
        go_loopw [5, 8, 22] (fun v _ p wr => ∃ j : Nat, p = .int .i64 j ∧ j ≤ 2 ∧ v = .int .i64 (C : Nat) ∧ w1 = wr) (fun _ _ p _ => 2 - (intOf p).toNat)
        case atStart => exact ⟨0, rfl, by omega, rfl, rfl⟩
        case round =>
          obtain ⟨j, rfl, hj, rfl, rfl⟩ := hrel
          obtain rfl | rfl | rfl : j = 0 ∨ j = 1 ∨ j = 2 := by omega
          · go_wp2_with fail
            go_roundw
            case rel => exact ⟨1, rfl, by omega, by first | rfl | trivial, by first | rfl | trivial⟩
            case measure => simp [intOf]
          · go_wp2_with fail
            go_roundw
            case rel => exact ⟨2, rfl, by omega, by first | rfl | trivial, by first | rfl | trivial⟩
            case measure => simp [intOf]
          · go_wp2
            go_roundw
            case rel => exact ⟨n + 1, vint (by omega), by omega, by rw [HS.out, HCC.out], by rw [HS.out]; exact hN1, hF1⟩
            case measure => simp [intOf]; omega
      · rw [voidStep, if_neg hni] at hsucc
        have c1 := link_in g n i wr hn hlt hni
        have c2 := link_in g i n wr hlt hn (fun e => hni e.symm)
        obtain ⟨A1, p1, l1, k1, f1⟩ := hN.at_ hn hlt
        obtain ⟨A2, p2, l2, k2, f2⟩ := hN.at_ hlt hn
        have hlk : lk ((voidTo Ls n i).1.set (n * 8 + i) []) i n = lk (voidTo Ls n i).1 i n := lk_set' (by omega)
        have hLen : (voidTo Ls n i).1.length = 64 := by rw [voidTo_len]; exact h.len
        generalize (voidTo Ls n i).2 = C at *
        generalize (voidTo Ls n i).1 = Lc at *
        have HS := Lib.hid hsucc; clear hsucc
        have HLK := Lib.hid hlk; clear hlk
        go_wp2_with fail
        refine c1.mono ?_
        rintro e w1 ⟨rfl, rfl⟩
        go_wp2_with fail
        refine c2.mono ?_
        rintro e w1 ⟨rfl, rfl⟩
        go_wp2_with fail
        have hB : Blk (wr.alloc (.cells #[.pointer (some ⟨g, n * 8 + i, none⟩), .pointer (some ⟨g, i * 8 + n, none⟩)] 59)) wr.heap.size 59 #[.pointer (some ⟨g, n * 8 + i, none⟩), .pointer (some ⟨g, i * 8 + n, none⟩)] := Blk.new _ _ _
        have hb1 : Below wr.heap.size wr (wr.alloc (.cells #[.pointer (some ⟨g, n * 8 + i, none⟩), .pointer (some ⟨g, i * 8 + n, none⟩)] 59)) := (Below.refl _ wr).alloc (Nat.le_refl _) _
        have hN1 := hN.low hb1
        have hF1 : Fr F w (wr.alloc (.cells #[.pointer (some ⟨g, n * 8 + i, none⟩), .pointer (some ⟨g, i * 8 + n, none⟩)] 59)) := hF.trans (Fr.alloc _ _ _)
        have hgz : g < wr.heap.size := by
          obtain ⟨vs, hh⟩ := hN
          exact hh.blk.lt
        obtain ⟨y1, y2⟩ := bcell hb1
        rw [← y1 _ _ hgz] at k1 k2
        rw [← y2 _ _ hgz] at f1 f2
        clear y1 y2 hb1 hN hF
        generalize wr.alloc (.cells #[.pointer (some ⟨g, n * 8 + i, none⟩), .pointer (some ⟨g, i * 8 + n, none⟩)] 59) = w1 at *
        generalize wr.heap.size = z at *
        have q0 : w1.cell? ⟨z, 0, none⟩ = some (.pointer (some ⟨g, n * 8 + i, none⟩)) := hB.cell 0
        have q1 : w1.cell? ⟨z, 1, none⟩ = some (.pointer (some ⟨g, i * 8 + n, none⟩)) := hB.cell 1
        obtain ⟨hN2, hF2⟩ := hN1.clear (i := n * 8 + i) (by omega)
        obtain ⟨hN3, hF3⟩ := hN2.clear (i := i * 8 + n) (by omega)
        have hFF := (hF1.trans hF2).trans hF3
        generalize (lk Lc n i).length = m1 at *
        generalize (lk Lc i n).length = m2 at *
        have HN3 := Lib.hid hN3; have HFF := Lib.hid hFF
        clear hN1 hN2 hN3 hF1 hF2 hF3 hFF
        go_loopw [5, 8, 22] (fun v _ p wr => (p = .int .i64 0 ∧ v = .int .i64 (C : Nat) ∧ wr = w1) ∨ (p = .int .i64 1 ∧ v = .int .i64 (C + m1 : Nat) ∧ wr = w1.setCell ⟨g, n * 8 + i, none⟩ (.slice none 0 0)) ∨ (p = .int .i64 2 ∧ v = .int .i64 (C + m1 + m2 : Nat) ∧ wr = (w1.setCell ⟨g, n * 8 + i, none⟩ (.slice none 0 0)).setCell ⟨g, i * 8 + n, none⟩ (.slice none 0 0))) (fun _ _ p _ => 2 - (intOf p).toNat)
        case atStart => exact .inl ⟨rfl, rfl, rfl⟩
        case round =>
          rcases hrel with ⟨rfl, rfl, rfl⟩ | ⟨rfl, rfl, rfl⟩ | ⟨rfl, rfl, rfl⟩
          · go_wp2_with fail
            go_roundw
            case rel => exact .inr (.inl ⟨rfl, vint (by omega), by first | rfl | trivial⟩)
            case measure => simp [intOf]
          · have k3 : (w1.setCell ⟨g, n * 8 + i, none⟩ (.slice none 0 0)).cell? ⟨g, i * 8 + n, none⟩ = some (.slice A2 m2 p2) := by
              rw [World.cell?_setCell_other _ _ _ _ (by intro e; simp only [Addr.mk.injEq, true_and, and_true] at e; omega)]; exact k2
            go_wp2_with fail
            go_roundw
            case rel => exact .inr (.inr ⟨rfl, vint (by omega), by first | rfl | trivial⟩)
            case measure => simp [intOf]
          · go_wp2
            go_roundw
            case rel => exact ⟨i + 1, vint (by omega), by omega, by rw [HS.out], by rw [HS.out]; exact HN3.out, HFF.out⟩
            case measure => simp [intOf]; omega
    · go_wp2_with fail
      go_ret
      obtain rfl : i = 8 := by omega
      exact ⟨rfl, hN, hF⟩
end Go.Proofs.Ytikblgnpabonjaa
