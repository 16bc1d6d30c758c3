import Derived.Test.YtglglbbjacgbdaaDoorTrH
import Derived.Laws.EntriesVeiled
namespace Go.Proofs.YtglglbbjacgbdaaDoor
open Go.RowKit
set_option linter.unusedVariables false
attribute [local go_sem] b_max2 b_min2 b_max b_min

/-! ### all things, by their paths -/
def kidsOf (S : TS) (b : Nat) : List Ch := ((S.nd (b, 0)).map NR.list).getD []
def subP (p : ByteArray) (c : Ch) : ByteArray := p ++ slashB ++ c.1
def trav (S : TS) : Nat → ByteArray → List Ch → List (ByteArray × Nat)
  | 0, _, _ => []
  | f + 1, p, l => l.flatMap fun c => (subP p c, c.2) :: trav S f (subP p c) (kidsOf S c.2)
theorem trav_nil (S : TS) (f : Nat) (p : ByteArray) : trav S f p [] = [] := by cases f <;> rfl
theorem trav_snoc (S : TS) (f : Nat) (p : ByteArray) (l : List Ch) (c : Ch) : trav S (f + 1) p (l ++ [c]) = trav S (f + 1) p l ++ (subP p c, c.2) :: trav S f (subP p c) (kidsOf S c.2) := by
  rw [trav, List.flatMap_append, trav]; simp
def rootL (S : TS) (g : Nat) (z : Nat) : List Ch := ((S.nd (g, 1 + z * 4)).map NR.list).getD []
/-- all things of a tree, list by list -/
def travR (S : TS) (g : Nat) (D : Nat) : Nat → List (ByteArray × Nat)
  | 0 => []
  | z + 1 => travR S g D z ++ trav S D ⟨#[]⟩ (rootL S g z)
/-- no thing lies below itself: ranks go down -/
structure Ranked (S : TS) (rk : Nat → Nat) : Prop where
  down : ∀ b r, S.nd (b, 0) = some r → ∀ c ∈ r.list, rk c.2 < rk b
/-- what the one who looks keeps: its own J, the tree, its footprint -/
structure Sees (g : Nat) (S : TS) (vs : Id → Value) (FJ : Nat → Prop) (full : List (ByteArray × Nat)) (J : List (ByteArray × Nat) → World → Prop) (SEE : Nat → ByteArray → Nat → World → (Ending → World → Prop) → Prop) : Prop where
  tree : ∀ pre W, J pre W → IsT W g S vs
  low : ∀ pre W W', J pre W → Below W.heap.size W W' → J pre W'
  step : ∀ pre x W, J pre W → pre ++ [x] <+: full → SEE 0 x.1 x.2 W fun e W' => e = .returned (.tuple #[]) ∧ J (pre ++ [x]) W' ∧ Fr FJ W W'
/-- the call of f50 -/
def see50 (a b : Nat) : Nat → ByteArray → Nat → World → (Ending → World → Prop) → Prop := fun _ q bb W R => Calls Tryd.prog 20 #[.string q, .pointer (some ⟨bb, 0, none⟩), .pointer (some ⟨a, 0, none⟩), .pointer (some ⟨b, 0, none⟩)] W R
section
variable {w : World} {g : Nat} {S : TS} {vs : Id → Value} {FJ : Nat → Prop} {full : List (ByteArray × Nat)} {J : List (ByteArray × Nat) → World → Prop}
set_option maxRecDepth 100000 in
set_option maxHeartbeats 2000000 in
theorem below50_any (a b : Nat) (hS : Sees g S vs FJ full J (see50 a b)) (ho : OkT S g) (rk : Nat → Nat) (hrk : Ranked S rk) (B2 B3 : Nat) (hF2 : ¬ FJ B2) (hF3 : ¬ FJ B3) (NB : Nat) (hNB : ∀ k, FJ k → k < NB) :
    ∀ (f : Nat) (id : Id) (r : NR) (p : ByteArray) (pre : List (ByteArray × Nat)) (W : World), NB ≤ W.heap.size → S.nd id = some r → (∀ c ∈ r.list, rk c.2 < f) → p.size + 101 * f ≤ 1000000 → pre ++ trav S f p r.list <+: full → J pre W →
      Blk W B2 55 #[.func (.func 20) #[] #[.pointer (some ⟨a, 0, none⟩), .pointer (some ⟨b, 0, none⟩)]] → Blk W B3 55 #[.func (.func 32) #[] #[.pointer (some ⟨B2, 0, none⟩), .pointer (some ⟨B3, 0, none⟩)]] →
      Calls Tryd.prog 32 #[.string p, .pointer (some ⟨id.1, id.2, none⟩), .pointer (some ⟨B2, 0, none⟩), .pointer (some ⟨B3, 0, none⟩)] W fun e W' => e = .returned (.tuple #[]) ∧ J (pre ++ trav S f p r.list) W' ∧ Fr FJ W W' := by
  intro f
  induction f with
  | zero =>
    intro id r p pre W hNW hnd hlow hp hpre hJ k2 k3
    have hnil : r.list = [] := by
      cases hl : r.list with
      | nil => rfl
      | cons c l => have := hlow c (by rw [hl]; simp); omega
    have hN := (hS.tree _ _ hJ).node id r hnd
    have c3 := hN.c3
    obtain ⟨A, c, ev, hc, hr⟩ := Reads.of_own hN.row
    rw [ev, hnil] at c3
    change W.cell? ⟨id.1, id.2 + 3, none⟩ = some (.slice A 0 c) at c3
    rw [hnil, trav_nil, List.append_nil]
    have HJ := Lib.hid hJ
    clear hN hr hJ hpre hlow k2 k3 hS ev hc hNB
    go_enter Tryd.func32, Tryd.ntmps32
    go_wp2_with fail
    go_loopw [7, 13] (fun _ p wr => p = .int .i64 0 ∧ W = wr) (fun _ p _ => 0)
    case atStart => exact ⟨rfl, rfl⟩
    case round =>
      obtain ⟨rfl, rfl⟩ := hrel
      go_wp2_with fail
      go_end0
      exact ⟨rfl, HJ.out, Fr.refl _ _⟩
  | succ f ih =>
    intro id r p pre W hNW hnd hlow hp hpre hJ k2 k3
    have hN := (hS.tree _ _ hJ).node id r hnd
    have hok := ho.okn id r hnd
    have c3 := hN.c3
    obtain ⟨A, c, ev, hc, hr⟩ := Reads.of_own hN.row
    rw [ev] at c3
    have hlen := hok.len
    have hnm := hok.nm
    have hkd := ho.kids id r hnd
    have hvs : ∀ wr, IsT wr g S vs → ∃ A' c', vs id = .slice A' r.list.length c' ∧ Reads wr wr.heap.size 2 A' r.list.length (cellsC r.list) := fun wr h => by
      obtain ⟨A', c', e', _, h'⟩ := Reads.of_own (h.node id r hnd).row
      exact ⟨A', c', e', h'⟩
    generalize hn : r.list.length = n at *
    generalize r.list = l at *
    have HVS := Lib.hid hvs; have HLOW := Lib.hid hlow; have HNM := Lib.hid hnm; have HKD := Lib.hid hkd; have HP := Lib.hid hpre
    have HJ := Lib.hid hJ
    have HIH := Lib.hid ih
    clear hvs hlow hnm hkd hpre hr hN hJ hok hc ih
    go_enter Tryd.func32, Tryd.ntmps32
    go_wp2_with fail
    go_loopw [7, 13] (fun _ q wr => ∃ i : Nat, q = .int .i64 i ∧ i ≤ n ∧ Hid (J (pre ++ trav S (f + 1) p (l.take i)) wr) ∧ Blk wr B2 55 #[.func (.func 20) #[] #[.pointer (some ⟨a, 0, none⟩), .pointer (some ⟨b, 0, none⟩)]] ∧ Blk wr B3 55 #[.func (.func 32) #[] #[.pointer (some ⟨B2, 0, none⟩), .pointer (some ⟨B3, 0, none⟩)]] ∧ Fr FJ W wr) (fun _ q _ => n - (intOf q).toNat)
    case atStart => exact ⟨0, rfl, by omega, Lib.hid (by rw [List.take_zero, trav_nil, List.append_nil]; exact HJ.out), k2, k3, Fr.refl _ _⟩
    case round =>
      clear k2 k3
      obtain ⟨i, rfl, hi, hJi, k2, k3, hfr⟩ := hrel
      by_cases hlt : i < n
      · obtain ⟨A', c', e', hr⟩ := HVS.out wr (hS.tree _ _ hJi.out)
        rw [ev] at e'
        cases e'
        obtain ⟨ad, rfl, _, q1, q2⟩ := kids_at hr hn hlt
        have hmem : l.getD i (⟨#[]⟩, 0) ∈ l := by rw [getD_get _ _ _ (by omega)]; exact List.getElem_mem _
        have htk : l.take (i + 1) = l.take i ++ [l.getD i (⟨#[]⟩, 0)] := by rw [List.take_succ_eq_append_getElem (by omega), getD_get _ _ _ (by omega)]
        have hx1 := HNM.out _ hmem
        have hx2 := HLOW.out _ hmem
        obtain ⟨rx, hx3⟩ := HKD.out _ hmem
        generalize l.getD i (⟨#[]⟩, 0) = x at *
        obtain ⟨xn, xb⟩ := x
        dsimp only at hx1 hx2 hx3 q1 q2
        have hko : kidsOf S xb = rx.list := by unfold kidsOf; rw [hx3]; rfl
        have hsn := trav_snoc S f p (l.take i) (xn, xb)
        rw [← htk] at hsn
        dsimp only at hsn
        rw [hko] at hsn
        -- the list's part so far lies ahead of all
        have hpf : pre ++ trav S (f + 1) p (l.take (i + 1)) <+: full := by
          refine List.IsPrefix.trans ?_ HP.out
          rw [List.prefix_append_right_inj]
          conv => rhs; rw [← List.take_append_drop (i + 1) l]
          have : ∀ a b : List Ch, trav S (f + 1) p (a ++ b) = trav S (f + 1) p a ++ trav S (f + 1) p b := fun a b => by rw [trav, List.flatMap_append]; rfl
          rw [this]
          exact List.prefix_append _ _
        rw [hsn] at hpf
        have hpf1 : (pre ++ trav S (f + 1) p (l.take i)) ++ [(subP p (xn, xb), xb)] <+: full := by
          refine List.IsPrefix.trans ?_ hpf
          rw [List.append_assoc, List.prefix_append_right_inj, List.prefix_append_right_inj]
          exact ⟨_, rfl⟩
        have hpf2 : ((pre ++ trav S (f + 1) p (l.take i)) ++ [(subP p (xn, xb), xb)]) ++ trav S f (subP p (xn, xb)) rx.list <+: full := by
          simpa using hpf
        have hsub : subP p (xn, xb) = p ++ ⟨#[47]⟩ ++ xn := rfl
        have hsz : (subP p (xn, xb)).size = p.size + 1 + xn.size := by rw [hsub, ByteArray.size_append, ByteArray.size_append]; rfl
        have hps : p.size + 1 ≤ 9223372036854775807 := by omega
        have hps2 : p.size + 1 + xn.size ≤ 9223372036854775807 := by omega
        rw [hsub] at hpf1 hpf2 hsn hsz
        have hdown : ∀ c ∈ rx.list, rk c.2 < f := fun c hc => by have := hrk.down xb rx hx3 c hc; omega
        have b1 : Below wr.heap.size wr (wr.alloc (.cells #[.string xn, .pointer (some ⟨xb, 0, none⟩)] 72)) := (Below.refl _ wr).alloc (Nat.le_refl _) _
        have hJ1 := hS.low _ _ _ hJi.out b1
        have k21 := Fr.blk_low b1 k2
        have k31 := Fr.blk_low b1 k3
        have z1 : Blk (wr.alloc (.cells #[.string xn, .pointer (some ⟨xb, 0, none⟩)] 72)) wr.heap.size 72 #[.string xn, .pointer (some ⟨xb, 0, none⟩)] := Blk.new _ _ _
        have hfr1 := hfr.trans (Fr.of_below b1 FJ)
        have hst := hS.step _ (p ++ ⟨#[47]⟩ ++ xn, xb) _ hJ1 hpf1
        unfold see50 at hst
        dsimp only at hst
        have hg2 : (wr.alloc (.cells #[.string xn, .pointer (some ⟨xb, 0, none⟩)] 72)).cell? ⟨B2, 0, none⟩ = some (.func (.func 20) #[] #[.pointer (some ⟨a, 0, none⟩), .pointer (some ⟨b, 0, none⟩)]) := k21.cell 0
        have HST := Lib.hid hst; have HSN := Lib.hid hsn; have HPF := Lib.hid hpf2; have HD := Lib.hid hdown; have HSZ := Lib.hid hsz; have HX3 := Lib.hid hx3
        have K2 := Lib.hid k21; have K3 := Lib.hid k31; have HFR := Lib.hid hfr1; have HSE := Lib.hid hS
        have hzlt := z1.lt
        have hNwr : NB ≤ wr.heap.size := Nat.le_trans hNW hfr.size
        have hnz : ¬ FJ wr.heap.size := fun e => by have := hNB _ e; omega
        have hN1 : NB ≤ (wr.alloc (.cells #[.string xn, .pointer (some ⟨xb, 0, none⟩)] 72)).heap.size := by simp; omega
        clear hst hsn hpf1 hpf2 hpf hdown hsub hko htk hmem b1 hJ1 k21 k31 hfr1 hJi k2 k3 hfr hr hx3 hS
        go_upto_region 3 with (fail)
        generalize hwz : wr.heap.size = z at *
        generalize wr.alloc (.cells #[.string xn, .pointer (some ⟨xb, 0, none⟩)] 72) = w1 at *
        have y0 : w1.cell? ⟨z, 0, none⟩ = some (.string xn) := z1.cell 0
        have y1 : w1.cell? ⟨z, 1, none⟩ = some (.pointer (some ⟨xb, 0, none⟩)) := z1.cell 1
        go_wp2_with fail
        refine HST.out.mono ?_
        rintro e w2 ⟨rfl, hJ2, hf2⟩
        have z2 := hf2.blk z1 hnz
        have k22 := hf2.blk K2.out hF2
        have k32 := hf2.blk K3.out hF3
        have x0 : w2.cell? ⟨z, 0, none⟩ = some (.string xn) := z2.cell 0
        have x1 : w2.cell? ⟨z, 1, none⟩ = some (.pointer (some ⟨xb, 0, none⟩)) := z2.cell 1
        have x2 : w2.cell? ⟨B3, 0, none⟩ = some (.func (.func 32) #[] #[.pointer (some ⟨B2, 0, none⟩), .pointer (some ⟨B3, 0, none⟩)]) := k32.cell 0
        have hN2 : NB ≤ w2.heap.size := Nat.le_trans hN1 hf2.size
        have hrec := HIH.out (xb, 0) rx (p ++ ⟨#[47]⟩ ++ xn) _ w2 hN2 HX3.out HD.out (by omega) HPF.out hJ2 k22 k32
        have HRE := Lib.hid hrec; have HF2 := Lib.hid (HFR.out.trans hf2); have K22 := Lib.hid k22; have K32 := Lib.hid k32
        clear hrec hJ2 hf2 z1 z2 y0 y1 k22 k32 HST HFR K2 K3 hg2
        go_wp2_with fail
        refine HRE.out.mono ?_
        rintro e w3 ⟨rfl, hJ3, hf3⟩
        have k23 := hf3.blk K22.out hF2
        have k33 := hf3.blk K32.out hF3
        have hfr3 := HF2.out.trans hf3
        have hJ4 : J (pre ++ trav S (f + 1) p (l.take (i + 1))) w3 := by rw [HSN.out]; simpa using hJ3
        have HJ4 := Lib.hid hJ4
        have HFR3 := Lib.hid hfr3
        clear hJ3 hf3 hJ4 hfr3 HRE HF2 K22 K32
        go_wp2_with fail
        go_roundw
        case rel => exact ⟨i + 1, vint (by omega), by omega, HJ4, k23, k33, HFR3.out⟩
        case measure => simp [intOf]; omega
      · obtain rfl : i = n := by omega
        have hJn := hJi.out
        rw [List.take_of_length_le (by omega)] at hJn
        have HJN := Lib.hid hJn
        clear hJn hS
        go_wp2_with fail
        go_end0
        exact ⟨rfl, HJN.out, hfr⟩
set_option maxRecDepth 100000 in
set_option maxHeartbeats 2000000 in
theorem each50_any (a b : Nat) (D : Nat) (hS : Sees g S vs FJ (travR S g D 4) J (see50 a b)) (ho : OkT S g) (rk : Nat → Nat) (hrk : Ranked S rk) (hD : ∀ z, z < 4 → ∀ c ∈ rootL S g z, rk c.2 < D) (hD9 : D ≤ 9000) (hNB : ∀ k, FJ k → k < w.heap.size) (hJ : J [] w) :
    Calls Tryd.prog 19 #[.pointer (some ⟨g, 0, none⟩), .func (.func 20) #[] #[.pointer (some ⟨a, 0, none⟩), .pointer (some ⟨b, 0, none⟩)]] w fun e w' => e = .returned (.tuple #[]) ∧ J (travR S g D 4) w' ∧ Fr FJ w w' := by
  have hpz : ∀ z, z < 4 → travR S g D z ++ trav S D ⟨#[]⟩ (rootL S g z) <+: travR S g D 4 := by
    intro z hz
    have h1 : ∀ n, z < n → n ≤ 4 → travR S g D (z + 1) <+: travR S g D n := by
      intro n
      induction n with
      | zero => intro h; omega
      | succ n ih =>
        intro h h4
        rcases Nat.lt_or_ge z n with h2 | h2
        · exact (ih h2 (by omega)).trans (List.prefix_append _ _)
        · rw [show z = n by omega]; exact List.prefix_refl _
    exact h1 4 hz (Nat.le_refl _)
  obtain ⟨B2, hB2⟩ : ∃ B2, B2 = w.heap.size := ⟨_, rfl⟩
  have b0 : Below w.heap.size w ((w.alloc (.cells #[.func (.func 20) #[] #[.pointer (some ⟨a, 0, none⟩), .pointer (some ⟨b, 0, none⟩)]] 55)).alloc (.cells #[.func (.func 32) #[] #[.pointer (some ⟨w.heap.size, 0, none⟩), .pointer (some ⟨w.heap.size + 1, 0, none⟩)]] 55)) := ((Below.refl _ w).alloc (Nat.le_refl _) _).alloc (by simp) _
  have k2 : Blk ((w.alloc (.cells #[.func (.func 20) #[] #[.pointer (some ⟨a, 0, none⟩), .pointer (some ⟨b, 0, none⟩)]] 55)).alloc (.cells #[.func (.func 32) #[] #[.pointer (some ⟨w.heap.size, 0, none⟩), .pointer (some ⟨w.heap.size + 1, 0, none⟩)]] 55)) w.heap.size 55 #[.func (.func 20) #[] #[.pointer (some ⟨a, 0, none⟩), .pointer (some ⟨b, 0, none⟩)]] := (Blk.new _ _ _).alloc _
  have k3 : Blk ((w.alloc (.cells #[.func (.func 20) #[] #[.pointer (some ⟨a, 0, none⟩), .pointer (some ⟨b, 0, none⟩)]] 55)).alloc (.cells #[.func (.func 32) #[] #[.pointer (some ⟨w.heap.size, 0, none⟩), .pointer (some ⟨w.heap.size + 1, 0, none⟩)]] 55)) (w.heap.size + 1) 55 #[.func (.func 32) #[] #[.pointer (some ⟨w.heap.size, 0, none⟩), .pointer (some ⟨w.heap.size + 1, 0, none⟩)]] := by
    have := Blk.new (w.alloc (.cells #[.func (.func 20) #[] #[.pointer (some ⟨a, 0, none⟩), .pointer (some ⟨b, 0, none⟩)]] 55)) 55 #[.func (.func 32) #[] #[.pointer (some ⟨w.heap.size, 0, none⟩), .pointer (some ⟨w.heap.size + 1, 0, none⟩)]]
    simpa using this
  have hJ0 := hS.low _ _ _ hJ b0
  have hf0 := Fr.of_below b0 FJ
  have hn2 : ¬ FJ w.heap.size := fun e => by have := hNB _ e; omega
  have hn3 : ¬ FJ (w.heap.size + 1) := fun e => by have := hNB _ e; omega
  have hbl := fun f id r p pre W => below50_any a b hS ho rk hrk w.heap.size (w.heap.size + 1) hn2 hn3 w.heap.size hNB f id r p pre W
  have HBL := Lib.hid hbl; have HPZ := Lib.hid hpz; have HJ0 := Lib.hid hJ0; have HF0 := Lib.hid hf0; have HDD := Lib.hid hD; have HN := Lib.hid hNB
  clear hbl hpz hJ0 hf0 hD hNB hJ b0
  go_enter Tryd.func19, Tryd.ntmps19
  go_upto_block 0 with (fail)
  generalize (w.alloc (.cells #[.func (.func 20) #[] #[.pointer (some ⟨a, 0, none⟩), .pointer (some ⟨b, 0, none⟩)]] 55)).alloc (.cells #[.func (.func 32) #[] #[.pointer (some ⟨w.heap.size, 0, none⟩), .pointer (some ⟨w.heap.size + 1, 0, none⟩)]] 55) = w0 at *
  go_wp2_with fail
  go_loopw [5, 7] (fun _ q wr => ∃ z : Nat, q = .int .i64 z ∧ z ≤ 4 ∧ Hid (J (travR S g D z) wr) ∧ Blk wr w.heap.size 55 #[.func (.func 20) #[] #[.pointer (some ⟨a, 0, none⟩), .pointer (some ⟨b, 0, none⟩)]] ∧ Blk wr (w.heap.size + 1) 55 #[.func (.func 32) #[] #[.pointer (some ⟨w.heap.size, 0, none⟩), .pointer (some ⟨w.heap.size + 1, 0, none⟩)]] ∧ Fr FJ w wr) (fun _ q _ => 4 - (intOf q).toNat)
  case atStart => exact ⟨0, rfl, by omega, HJ0, k2, k3, HF0.out⟩
  case round =>
    clear k2 k3
    obtain ⟨z, rfl, hz, hJz, k2, k3, hfr⟩ := hrel
    by_cases hlt : z < 4
    · obtain ⟨r, hnd, _⟩ := ho.root z hlt
      have hrl : rootL S g z = r.list := by unfold rootL; rw [hnd]; rfl
      have hz4 : (z : Int) < 4 := by omega
      have hJd := hS.low _ _ _ hJz.out (bdrewN (Below.refl _ wr) 1)
      have k2d := k2.drewN 1
      have k3d := k3.drewN 1
      have hrec := HBL.out D (g, 1 + z * 4) r ⟨#[]⟩ (travR S g D z) (wr.drewN 1) hfr.size hnd (by rw [← hrl]; exact HDD.out z hlt) (by show 0 + 101 * D ≤ 1000000; omega) (by rw [← hrl]; exact HPZ.out z hlt) hJd k2d k3d
      rw [← hrl] at hrec
      have c3 : wr.cell? ⟨w.heap.size + 1, 0, none⟩ = some (.func (.func 32) #[] #[.pointer (some ⟨w.heap.size, 0, none⟩), .pointer (some ⟨w.heap.size + 1, 0, none⟩)]) := k3.cell 0
      have HRE := Lib.hid hrec; have K2 := Lib.hid k2d; have K3 := Lib.hid k3d
      have HFD := Lib.hid (hfr.trans (Fr.drewN FJ wr 1))
      clear hrec k2d k3d hJd hJz k2 k3 hfr hrl hnd
      go_wp2_with fail
      go_region_held3 (fun w' => w'.cell? ⟨w.heap.size + 1, 0, none⟩ = some (.func (.func 32) #[] #[.pointer (some ⟨w.heap.size, 0, none⟩), .pointer (some ⟨w.heap.size + 1, 0, none⟩)])) (go_keep)
        (first | (go_at_call 32; refine HRE.out.mono ?_; rintro e w3 ⟨rfl, hJ3, hf3⟩; have k23 := hf3.blk K2.out hn2; have k33 := hf3.blk K3.out hn3; have c33 : w3.cell? ⟨w.heap.size + 1, 0, none⟩ = some (.func (.func 32) #[] #[.pointer (some ⟨w.heap.size, 0, none⟩), .pointer (some ⟨w.heap.size + 1, 0, none⟩)]) := k33.cell 0))
      all_goals
        have HJ3 := Lib.hid hJ3; have HF3 := Lib.hid (HFD.out.trans hf3)
        clear hJ3 hf3 HRE
        go_wp2_with fail
        go_roundw
        case rel => exact ⟨z + 1, vint (by omega), by omega, HJ3, k23, k33, HF3.out⟩
        case measure => simp [intOf]; omega
    · obtain rfl : z = 4 := by omega
      go_wp2_with fail
      go_end0
      exact ⟨rfl, hJz.out, hfr⟩
end
end Go.Proofs.YtglglbbjacgbdaaDoor
