import Derived.RangeFuncNested
import Derived.RangeFuncBound
import Derived.RangeFuncCalls
import Derived.RangeFuncLeaves
import Derived.Shelf.Abstract
import Derived.Shelf.RegionOpen
import Derived.WalkKit
import Derived.OwnWalkIn
import Derived.TacticsInMore
import Derived.LoopNIn
import Derived.LoopIn
import Derived.Test.YtekgoliakgknjaaDiJ
namespace Go.Proofs.Ytekgoliakgknjaa
open Go.RowKit Go.Shelf
set_option linter.unusedVariables false
attribute [local go_sem] Oper.semAt_some

/-! ### a scope without jumps, under a fence -/
section
variable {F : Fence} {n : Nat} {P : Program} {Q : Exit → Act → World → Prop} {a : Act} {w : World} {b : Frame} {k : List Item} {cs : List Frame}
theorem stepR_scope {c : Code} : step P (lone (b.atR a (.code (.scope c) :: k)) cs w) = .next (lone (b.atR a (.code c :: .inScope c :: k)) cs w) :=
  step_lone_go (by simp [stepG, stepG.exec, Frame.atR])
theorem stepR_inScope {c : Code} : step P (lone (b.atR a (.inScope c :: k)) cs w) = .next (lone (b.atR a k) cs w) :=
  step_lone_go (by simp [stepG, stepG.exec, Frame.atR])
theorem wpIn_scope {c : Code} (h : c.wpIn F n P (Exit.noGoto Q) a w) : (Code.scope c).wpIn F n P Q a w := by
  intro b k cs hro hb hr
  have h0 : (lone (b.atR a (.code (.scope c) :: k)) cs w).fenced P F := fenced_calm hb hr rfl
  obtain ⟨e, a₁, w₁, hq, harr⟩ := h b (.inScope c :: k) cs hro hb hr
  cases e with
  | normal => exact ⟨.normal, a₁, w₁, hq, .head h0 stepR_scope (StepsIn.trans harr (.one (fenced_calm hb hr rfl) stepR_inScope))⟩
  | exit id' =>
    have hx : exitTo id' (.inScope c :: k) = exitTo id' k := by simp [exitTo]
    exact ⟨.exit id', a₁, w₁, hq, fun k' hk => .head h0 stepR_scope (harr.1 k' (by rw [hx]; exact hk)),
      fun hr' hk => let ⟨k₁, h1, h2⟩ := harr.2 hr' (by rw [hx]; exact hk); ⟨k₁, h1, .head h0 stepR_scope h2⟩⟩
  | goto l => exact hq.elim
  | ret => exact ⟨_, a₁, w₁, hq, .of_steps (.one h0 stepR_scope) harr⟩
  | panic ch => exact ⟨_, a₁, w₁, hq, .of_steps (.one h0 stepR_scope) harr⟩
  | outgrown => exact ⟨_, a₁, w₁, hq, .of_steps (.one h0 stepR_scope) harr⟩
end
/-- what has come when k rounds are over -/
def upto {α : Type} (f : Nat → α) (k : Nat) : List α := (List.range k).map f
theorem upto_succ {α : Type} (f : Nat → α) (k : Nat) : upto f (k + 1) = upto f k ++ [f k] := by simp [upto, List.range_succ]
theorem upto_length {α : Type} (f : Nat → α) (k : Nat) : (upto f k).length = k := by simp [upto]
def bw (l : List Put) (j : Nat) : Nat × Put := (l.length - 1 - j, (l[l.length - 1 - j]?).getD (0, ⟨#[]⟩))
theorem bw_take (l : List Put) {k : Nat} (hk : k ≤ l.length) : (upto (bw l) k).map Prod.snd = l.reverse.take k := by
  apply List.ext_getElem
  · simp [upto]; omega
  · intro i h1 h2
    have hi : i < k := by simpa [upto] using h1
    simp only [upto, List.map_map, List.getElem_map, List.getElem_range, Function.comp, bw, List.getElem_take, List.getElem_reverse]
    rw [List.getElem?_eq_getElem (by omega)]; rfl
def encP (x : Nat × Put) : Array Value := #[.int .i64 (x.1 : Nat), .agg #[.int .i64 (x.2.1 : Nat), .string x.2.2]]

set_option maxRecDepth 100000 in
set_option maxHeartbeats 2000000 in
theorem back1_in (F : Fence) (n : Nat) (h79 : F.fn 79) (hro : F.round = none) (hn : 1 ≤ n) (lp Bs n₀ : Nat) (A : Option Addr) (len cap : Nat) (l : List Put) (hl : l.length = len) (hbig : len ≤ 100000) (J Jx : List (Nat × Put) → World → Prop)
    (hY : ∀ pre x W, J pre W → pre.length < len → YieldAt F (n - 1) Try.prog lp #[.int .i64 (x.1 : Nat), .agg #[.int .i64 (x.2.1 : Nat), .string x.2.2]] W fun e W' =>
      (e = .returned (.bool true) ∧ J (pre ++ [x]) W' ∧ Below n₀ W W') ∨ (e = .returned (.bool false) ∧ Jx (pre ++ [x]) W'))
    (W : World) (hBs : W.cell? ⟨Bs, 0, none⟩ = some (.slice A len cap)) (hBn : Bs < n₀) (hR : Reads W n₀ 2 A len (cellsW l)) (h0 : J [] W) :
    CallsIn F n Try.prog 79 #[.func (.yield lp) #[] #[], .pointer (some ⟨Bs, 0, none⟩)] W fun e W' => (∃ v, e = .returned v) ∧
      ((∃ ys, ys = upto (bw l) len ∧ J ys W') ∨ (∃ pre, (∃ k, k ≤ len ∧ pre = upto (bw l) k) ∧ Jx pre W')) := by
  refine callsIn_of_wp Try.func79 rfl h79 ?_ hro
  simp only [Try.ntmps79, List.size_toArray, List.length_cons, List.length_nil, Nat.reduceAdd, Nat.reduceSub, Array.replicate_succ, Array.replicate_zero, List.push_toArray, List.append_toArray, List.nil_append, List.cons_append]
  gi_wp2
  gi_loopw [3] (fun i wr => ∃ m : Nat, m ≤ len ∧ i = .int .i64 ((m : Int) - 1) ∧ J (upto (bw l) (len - m)) wr ∧ Below n₀ W wr) (fun i _ => (intOf i + 1).toNat)
  case atStart => exact ⟨len, Nat.le_refl _, rfl, by rw [Nat.sub_self]; exact h0, Below.refl _ _⟩
  case round =>
    obtain ⟨m, hm, rfl, hJs, hb⟩ := hrel
    have hBs' : wr.cell? ⟨Bs, 0, none⟩ = some (.slice A len cap) := (hb.cell (p := ⟨Bs, 0, none⟩) hBn).trans hBs
    by_cases hlt : 0 < m
    · obtain ⟨q, rfl⟩ : ∃ q, m = q + 1 := ⟨m - 1, by omega⟩
      rw [show ((q + 1 : Nat) : Int) - 1 = (q : Int) by omega]
      have hlen : (upto (bw l) (len - (q + 1))).length < len := by rw [upto_length]; omega
      have hnext : upto (bw l) (len - q) = upto (bw l) (len - (q + 1)) ++ [bw l (len - (q + 1))] := by rw [← upto_succ]; congr 1; omega
      have hx : bw l (len - (q + 1)) = (q, l.getD q (0, ⟨#[]⟩)) := by
        unfold bw
        rw [hl, show len - 1 - (len - (q + 1)) = q by omega, List.getD_eq_getElem?_getD]
      obtain ⟨ad, rfl, hadb, c0, c1⟩ := cellsW_at hl (hR.below hb) (i := q) (by omega) rfl
      rw [hx] at hnext
      generalize l.getD q (0, ⟨#[]⟩) = p at *
      obtain ⟨s, t⟩ := p
      simp only [] at c0 c1
      obtain ⟨fn, tmps, assign, body, hy, hR'⟩ := hY _ (q, s, t) wr hJs hlen
      dsimp only at hy
      have HN := Lib.hid hnext; clear hnext hx hR
      gi_wp2
      refine hR'.mono ?_
      rintro e W3 (⟨rfl, hJ3, hk3⟩ | ⟨rfl, hJx3⟩)
      · gi_wp2
        go_roundw
        case rel => exact ⟨q, by omega, (by first | rfl | exact vint (by omega)), by rw [HN.out]; exact hJ3, hb.trans hk3⟩
        case measure => simp [intOf]
      · gi_wp2
        refine bodyPost_ret (results_none rfl _ _ _) rfl ?_
        exact ⟨⟨_, rfl⟩, .inr ⟨_, ⟨len - q, by omega, HN.out.symm⟩, hJx3⟩⟩
    · obtain rfl : m = 0 := by omega
      clear hR hY
      rw [show ((0 : Nat) : Int) - 1 = -1 from rfl]
      gi_wp2
      go_end0
      exact ⟨⟨_, rfl⟩, .inl ⟨_, rfl, hJs⟩⟩
set_option maxHeartbeats 1000000 in
theorem back_in (F : Fence) (n : Nat) (h66 : F.fn 66) (hro : F.round = none) (a : Option Addr) (len cap : Nat) (w : World) :
    CallsIn F n Try.prog 66 #[.slice a len cap] w fun e w' => e = .returned (.func (.func 79) #[] #[.pointer (some ⟨w.heap.size, 0, none⟩)]) ∧ w' = w.alloc (.cells #[.slice a len cap] 75) := by
  refine callsIn_of_wp Try.func66 rfl h66 ?_ hro
  simp only [Try.ntmps66, List.size_toArray, List.length_cons, List.length_nil, Nat.reduceAdd, Nat.reduceSub, Array.replicate_succ, Array.replicate_zero, List.push_toArray, List.append_toArray, List.nil_append, List.cons_append]
  gi_wp2
  go_ret
  exact ⟨rfl, rfl⟩
theorem back_stops (F : Fence) (n : Nat) (h79 : F.fn 79) (hro : F.round = none) (hn : 1 ≤ n) (Bs n₀ : Nat) (A : Option Addr) (len cap : Nat) (l : List Put) (hl : l.length = len) (hbig : len ≤ 100000) (w : World) (hBs : Bs < n₀) (hn₀ : n₀ ≤ w.heap.size)
    (hc : w.cell? ⟨Bs, 0, none⟩ = some (.slice A len cap)) (hR : Reads w n₀ 2 A len (cellsW l)) :
    SeqStopsK F n Try.prog 79 #[.pointer (some ⟨Bs, 0, none⟩)] encP (Below n₀) (fun ys => ys.map Prod.snd = l.reverse) (fun pre => (pre.map Prod.snd) <+: l.reverse) len w := fun lp J Jx W hW _ _ hY h0 => by
  have hW' := hW.mono hn₀
  refine (back1_in F n h79 hro hn lp Bs n₀ A len cap l hl hbig J Jx hY W ((hW'.cell (p := ⟨Bs, 0, none⟩) hBs).trans hc) hBs (hR.below hW') h0).mono ?_
  rintro e W' ⟨he, ⟨ys, rfl, hj⟩ | ⟨pre, ⟨k, hk, rfl⟩, hj⟩⟩
  · exact ⟨he, .inl ⟨_, by show List.map Prod.snd _ = _; rw [bw_take l (by omega), List.take_of_length_le (by simp; omega)], hj⟩⟩
  · exact ⟨he, .inr ⟨_, by show List.map Prod.snd _ <+: _; rw [bw_take l (by omega)]; exact List.take_prefix _ _, hj⟩⟩
theorem blk_own {W W' : World} {g : Nat} {t : TypeId} {cs : Array Value} {row : Option Nat} (h : Blk W g t cs) (hg : W.grownBy W' row) (hr : ∀ r, row = some r → ∃ o : Obj, W.heap[r]? = some o ∧ o.isCells = false) : Blk W' g t cs :=
  (hg.block g h.lt (fun e => by
    obtain ⟨o, h1, h2⟩ := hr g e.symm
    have h3 : W.heap[g]? = some (.cells cs t (0, 0)) := h
    rw [h3] at h1
    obtain rfl := Option.some.inj h1
    cases h2)).trans h
/-- the last write of a cache for a sector -/
def fLast (l : List Put) (s : Int) : Option ByteArray := (l.reverse.find? fun p => ((p.1 : Nat) : Int) == s).map (·.2)

def LI (W0 : World) (s : Int) (pre : List (Nat × Put)) (W : World) : Prop := (∀ y ∈ pre, ((y.2.1 : Nat) : Int) ≠ s) ∧ Below W0.heap.size W0 W
def LX (w : World) (s : Int) (c : Code) (pre : List (Nat × Put)) (W : World) : Prop :=
  (c = .ret ∧ ∃ p y, pre = p ++ [y] ∧ (∀ z ∈ p, ((z.2.1 : Nat) : Int) ≠ s) ∧ ((y.2.1 : Nat) : Int) = s ∧ Blk W (w.heap.size + 1) 9 #[.string y.2.2] ∧ Blk W (w.heap.size + 1 + 1) 4 #[.bool true]) ∧ Below w.heap.size w W
theorem LI.own (W0 : World) (s : Int) : OwnFrom W0.heap.size (LI W0 s) := OwnFrom.and (ownFrom_pure _ _) (ownFrom_below (Nat.le_refl _) (Nat.le_refl _))
theorem LX.own (w : World) (s : Int) (B : Nat) (hB : w.heap.size ≤ B) (c : Code) : OwnFrom B (LX w s c) :=
  OwnFrom.and (fun pre X Y row hs hg hr => by
      obtain ⟨e, p, y, h1, h2, h3, h4, h5⟩ := hs
      exact ⟨e, p, y, h1, h2, h3, blk_own h4 hg (fun r e => (hr r e).2), blk_own h5 hg (fun r e => (hr r e).2)⟩) (ownFrom_below (Nat.le_refl _) hB)
theorem LI.snoc {W0 W : World} {s : Int} {pre : List (Nat × Put)} {x : Nat × Put} (h : LI W0 s pre W) (hx : ((x.2.1 : Nat) : Int) ≠ s) : LI W0 s (pre ++ [x]) W :=
  ⟨fun y hy => (List.mem_append.1 hy).elim (h.1 y) (fun e => by simp at e; subst e; exact hx), h.2⟩
theorem fLast_none {l : List Put} {s : Int} {ys : List (Nat × Put)} (h : ys.map Prod.snd = l.reverse) (hne : ∀ y ∈ ys, ((y.2.1 : Nat) : Int) ≠ s) : fLast l s = none := by
  unfold fLast
  rw [Option.map_eq_none_iff, List.find?_eq_none]
  intro p hp
  rw [← h] at hp
  obtain ⟨y, hy, rfl⟩ := List.mem_map.1 hp
  simpa using hne y hy
theorem fLast_some {l : List Put} {s : Int} {p : List (Nat × Put)} {y : Nat × Put} (h : ((p ++ [y]).map Prod.snd) <+: l.reverse) (hne : ∀ z ∈ p, ((z.2.1 : Nat) : Int) ≠ s) (hy : ((y.2.1 : Nat) : Int) = s) : fLast l s = some y.2.2 := by
  obtain ⟨t, ht⟩ := h
  unfold fLast
  rw [← ht, List.map_append, List.append_assoc, List.find?_append]
  have h1 : (p.map Prod.snd).find? (fun q : Put => ((q.1 : Nat) : Int) == s) = none := by
    rw [List.find?_eq_none]
    intro q hq
    obtain ⟨z, hz, rfl⟩ := List.mem_map.1 hq
    simpa using hne z hz
  rw [h1]
  have h2 : (((y.2.1 : Nat) : Int) == s) = true := by rw [beq_iff_eq]; exact hy
  simp [h2]
set_option maxRecDepth 100000 in
set_option maxHeartbeats 2000000 in
theorem last_in (F : Fence) (n : Nat) (h46 : F.fn 46) (h66 : F.fn 66) (h79 : F.fn 79) (hro : F.round = none) (hn : 3 ≤ n) (g : Nat) (k s : Int) (w : World) (cb : Nat) (A : Option Addr) (len cap : Nat) (l : List Put) (hl : l.length = len) (hbig : len ≤ 100000)
    (c2 : w.cell? ⟨g, 2, none⟩ = some (.map (some cb))) (hlk : ∀ w', Fr (fun _ => False) w w' → (Instr.lookup 67 (.map (some cb)) (.int .i64 k) false).run Try.prog w' = .ok (.slice A len cap) w') (hR : Reads w w.heap.size 2 A len (cellsW l)) :
    CallsIn F n Try.prog 46 #[.pointer (some ⟨g, 0, none⟩), .int .i64 k, .int .i64 s] w fun e W' => e = .returned (.tuple #[.string ((fLast l s).getD ⟨#[]⟩), .bool (fLast l s).isSome]) ∧ Below w.heap.size w W' := by
  have h1 : 1 ≤ n := by omega
  have hgl : g < w.heap.size := World.block_lt_of_cell? _ _ c2
  have hB3 : Below w.heap.size w (((w.alloc (.cells #[.int .i64 s] 3)).alloc (.cells #[.string ⟨#[]⟩] 9)).alloc (.cells #[.bool false] 4)) := (((Below.refl _ w).alloc (Nat.le_refl _) _).alloc (by simp) _).alloc (by simp; omega) _
  have hlk3 := hlk _ (Fr.of_below hB3 _)
  have c2' : (((w.alloc (.cells #[.int .i64 s] 3)).alloc (.cells #[.string ⟨#[]⟩] 9)).alloc (.cells #[.bool false] 4)).cell? ⟨g, 2, none⟩ = some (.map (some cb)) := (hB3.cell (p := ⟨g, 2, none⟩) hgl).trans c2
  refine callsIn_of_wp_marks Try.func46 rfl h46 ?_ hro
  simp only [Try.ntmps46, List.size_toArray, List.length_cons, List.length_nil, Nat.reduceAdd, Nat.reduceSub, Array.replicate_succ, Array.replicate_zero, List.push_toArray, List.append_toArray, List.nil_append, List.cons_append]
  gi_wp2_with (gi_at_call 66; refine (back_in F (n - 1) h66 hro _ _ _ _).mono ?_; rintro e w' ⟨rfl, rfl⟩)
  refine wpIn_scope ?_
  gi_wp2_with (gi_at_call 66; refine (back_in F (n - 1) h66 hro _ _ _ _).mono ?_; rintro e w' ⟨rfl, rfl⟩)
  refine wpIn_label ?_
  gi_wp2_with (gi_at_call 66; refine (back_in F (n - 1) h66 hro _ _ _ _).mono ?_; rintro e w' ⟨rfl, rfl⟩)
  have z0 : Blk ((((w.alloc (.cells #[.int .i64 s] 3)).alloc (.cells #[.string ⟨#[]⟩] 9)).alloc (.cells #[.bool false] 4)).alloc (.cells #[.slice A len cap] 75)) w.heap.size 3 #[.int .i64 s] := (((Blk.new w 3 #[.int .i64 s]).alloc _).alloc _).alloc _
  have z1 : Blk ((((w.alloc (.cells #[.int .i64 s] 3)).alloc (.cells #[.string ⟨#[]⟩] 9)).alloc (.cells #[.bool false] 4)).alloc (.cells #[.slice A len cap] 75)) (w.heap.size + 1) 9 #[.string ⟨#[]⟩] := by
    have h := ((Blk.new (w.alloc (.cells #[.int .i64 s] 3)) 9 #[.string ⟨#[]⟩]).alloc (.cells #[.bool false] 4)).alloc (.cells #[.slice A len cap] 75)
    rw [sz_alloc] at h; exact h
  have z2 : Blk ((((w.alloc (.cells #[.int .i64 s] 3)).alloc (.cells #[.string ⟨#[]⟩] 9)).alloc (.cells #[.bool false] 4)).alloc (.cells #[.slice A len cap] 75)) (w.heap.size + 1 + 1) 4 #[.bool false] := by
    have h := (Blk.new ((w.alloc (.cells #[.int .i64 s] 3)).alloc (.cells #[.string ⟨#[]⟩] 9)) 4 #[.bool false]).alloc (.cells #[.slice A len cap] 75)
    rw [sz_alloc, sz_alloc] at h; exact h
  have z3 : Blk ((((w.alloc (.cells #[.int .i64 s] 3)).alloc (.cells #[.string ⟨#[]⟩] 9)).alloc (.cells #[.bool false] 4)).alloc (.cells #[.slice A len cap] 75)) (w.heap.size + 1 + 1 + 1) 75 #[.slice A len cap] := by
    have h := Blk.new (((w.alloc (.cells #[.int .i64 s] 3)).alloc (.cells #[.string ⟨#[]⟩] 9)).alloc (.cells #[.bool false] 4)) 75 #[.slice A len cap]
    rw [sz_alloc, sz_alloc, sz_alloc] at h; exact h
  have hB4 := hB3.alloc (by simp; omega) (.cells #[.slice A len cap] 75)
  have hsz : ((((w.alloc (.cells #[.int .i64 s] 3)).alloc (.cells #[.string ⟨#[]⟩] 9)).alloc (.cells #[.bool false] 4)).alloc (.cells #[.slice A len cap] 75)).heap.size = w.heap.size + 4 := by simp
  clear hlk3 c2' hB3 hlk
  generalize (((w.alloc (.cells #[.int .i64 s] 3)).alloc (.cells #[.string ⟨#[]⟩] 9)).alloc (.cells #[.bool false] 4)).alloc (.cells #[.slice A len cap] 75) = W0 at *
  have hlt0 : ∀ {W : World} {j : Nat} {t : TypeId} {cs : Array Value}, Below W0.heap.size W0 W → Blk W0 j t cs → Blk W j t cs := fun hb h => (hb.block _ h.lt).trans h
  refine wpIn_rangeFunc_ownH hro h1 (gf := 79) (lb := #[.pointer (some ⟨w.heap.size + 1 + 1 + 1, 0, none⟩)]) rfl h79 (enters_of Try.func79 (by kernel_rfl) rfl)
    (back_stops F (n - 1) h79 hro (by omega) (w.heap.size + 1 + 1 + 1) W0.heap.size A len cap l hl hbig W0 (by omega) (Nat.le_refl _) (z3.cell 0) ((hR.below hB4).more (by omega))) belowK_t (belowK_b (Nat.le_refl _)) (Below.refl _ _) (fun _ => rfl)
    (LI W0 s) (LX w s) (LI.own W0 s) (LX.own w s _ (by omega)) ⟨fun _ h => (by cases h), Below.refl _ _⟩
    (fun x a' W => ∃ Bx, W0.heap.size ≤ Bx ∧ Blk W Bx 77 #[.int .i64 (x.2.1 : Nat), .string x.2.2] ∧ a' = { tmps := #[.pointer (some ⟨g, 0, none⟩), .int .i64 k, .int .i64 s, undef, undef, .pointer (some ⟨w.heap.size, 0, none⟩), .pointer (some ⟨w.heap.size + 1, 0, none⟩), .pointer (some ⟨w.heap.size + 1 + 1, 0, none⟩), undef, .pointer (some ⟨Bx, 0, none⟩), .pointer (some ⟨g, 0, none⟩), .pointer (some ⟨g, 0, none⟩), .pointer (some ⟨g, 2, none⟩), .map (some cb), .int .i64 k, .slice A len cap, .func (.func 79) #[] #[.pointer (some ⟨w.heap.size + 1 + 1 + 1, 0, none⟩)], .int .i64 (x.1 : Nat), .agg #[.int .i64 (x.2.1 : Nat), .string x.2.2], undef, undef, undef, undef, undef, undef], defers := [] })
    (fun x a' _ X Y row hs hg hr => by obtain ⟨Bx, h1, h2, h3⟩ := hs; exact ⟨Bx, h1, blk_own h2 hg (fun r e => (hr r e).2), h3⟩)
    ?assign ?body ?done ?stop
  case assign =>
    rintro lp pre x W K ⟨hne, hB⟩ hK
    dsimp only [encP]
    gi_wp2
    exact hK _ _ ((KeepsOthers.alloc _ _).from _) ((Below.refl _ W).alloc hB.size _) ⟨hne, hB.alloc hB.size _⟩ ⟨W.heap.size, hB.size, Blk.new W 77 _, rfl⟩
  case body =>
    rintro lp pre x a' W hl' ⟨r, hr⟩ hI ⟨Bx, hBx, bX, rfl⟩ hlt
    have hB := hI.2
    have HI := Lib.hid hI; clear hI
    obtain ⟨ix, sx, tx⟩ := x
    have q0 : W.cell? ⟨Bx, 0, none⟩ = some (.int .i64 sx) := bX.cell 0
    have q1 : W.cell? ⟨Bx, 1, none⟩ = some (.string tx) := bX.cell 1
    have q2 : W.cell? ⟨w.heap.size, 0, none⟩ = some (.int .i64 s) := (hlt0 hB z0).cell 0
    have b1 := hlt0 hB z1
    have b2 := hlt0 hB z2
    have q3 : W.cell? ⟨w.heap.size + 1, 0, none⟩ = some (.string ⟨#[]⟩) := b1.cell 0
    have q4 : W.cell? ⟨w.heap.size + 1 + 1, 0, none⟩ = some (.bool false) := b2.cell 0
    have f3 : W.frozen? ⟨w.heap.size + 1, 0, none⟩ = false := b1.frozen 0
    have f4 : W.frozen? ⟨w.heap.size + 1 + 1, 0, none⟩ = false := b2.frozen 0
    have hBw : Below w.heap.size w W := hB4.trans (hB.mono (by omega))
    by_cases hx : (sx : Int) = s
    · have hx' : ((sx : Int) != s) = false := by rw [bne_eq_false_iff_eq]; exact hx
      have HX := Lib.hid hx; clear hx
      gi_wp2
      refine ⟨((KeepsOthers.setCell _ _ _).trans (KeepsOthers.setCell _ _ _)).from _, ⟨rfl, pre, (ix, sx, tx), rfl, HI.out.1, HX.out, ?_, ?_⟩, (hBw.setCell (p := ⟨w.heap.size + 1, 0, none⟩) (by simp) _).setCell (p := ⟨w.heap.size + 1 + 1, 0, none⟩) (by simp; omega) _⟩
      · exact (b1.set_ 0 _).far (p := ⟨w.heap.size + 1 + 1, 0, none⟩) (by simp) _
      · exact (b2.far (p := ⟨w.heap.size + 1, 0, none⟩) (by simp) _).set_ 0 _
    · have hx' : ((sx : Int) != s) = true := by rw [bne_iff_ne]; exact hx
      have HX := Lib.hid hx; clear hx
      gi_wp2
      exact ⟨KeepsFrom.refl _ _, Below.refl _ _, LI.snoc HI.out (by exact HX.out)⟩
  case done =>
    rintro D ys W hD hS ⟨hne, hB⟩ hK
    have b1 := hlt0 hB z1
    have b2 := hlt0 hB z2
    have q3 : W.cell? ⟨w.heap.size + 1, 0, none⟩ = some (.string ⟨#[]⟩) := b1.cell 0
    have q4 : W.cell? ⟨w.heap.size + 1 + 1, 0, none⟩ = some (.bool false) := b2.cell 0
    have f3 : W.frozen? ⟨w.heap.size + 1, 0, none⟩ = false := b1.frozen 0
    have f4 : W.frozen? ⟨w.heap.size + 1 + 1, 0, none⟩ = false := b2.frozen 0
    have HN := Lib.hid hne
    have hBw : Below w.heap.size w W := hB4.trans (hB.mono (by omega))
    gi_wp2
    rw [Exit.noGoto_ret]
    have c1 := (b1.set_ 0 (.string ⟨#[]⟩)).far (p := ⟨w.heap.size + 1 + 1, 0, none⟩) (by simp) (.bool false)
    have c2 := (b2.far (p := ⟨w.heap.size + 1, 0, none⟩) (by simp) (.string ⟨#[]⟩)).set_ 0 (.bool false)
    have hK' := ((KeepsOthers.setCell W ⟨w.heap.size + 1, 0, none⟩ (.string ⟨#[]⟩)).trans (KeepsOthers.setCell _ ⟨w.heap.size + 1 + 1, 0, none⟩ (.bool false))).same D _ hK rfl
    have hBe := (hBw.setCell (p := ⟨w.heap.size + 1, 0, none⟩) (by simp) (.string ⟨#[]⟩)).setCell (p := ⟨w.heap.size + 1 + 1, 0, none⟩) (by simp; omega) (.bool false)
    generalize (W.setCell ⟨w.heap.size + 1, 0, none⟩ (.string ⟨#[]⟩)).setCell ⟨w.heap.size + 1 + 1, 0, none⟩ (.bool false) = W2 at *
    refine ⟨by simp, .inl ⟨_, _, rfl, run_takeDeferred hK', ?_⟩⟩
    have d1 := (blk_own c1 (grownBy_putObj' _ D (.deferred none)) (fun r e => by cases e; exact ⟨_, hK', rfl⟩)).cell 0
    have d2 := (blk_own c2 (grownBy_putObj' _ D (.deferred none)) (fun r e => by cases e; exact ⟨_, hK', rfl⟩)).cell 0
    have e1 : (W2.putObj D (.deferred none)).cell? ⟨w.heap.size + 1, 0, none⟩ = some (.string ⟨#[]⟩) := d1
    have e2 : (W2.putObj D (.deferred none)).cell? ⟨w.heap.size + 1 + 1, 0, none⟩ = some (.bool false) := d2
    refine ⟨.tuple #[.string ⟨#[]⟩, .bool false], ?_, ?_, hBe.trans (belowK_b (w := w) (Nat.le_refl _) _ D _ _ (by omega) hK' rfl rfl)⟩
    · simp [results, Try.f46, go_sem, e1, e2]
    · rw [fLast_none hS HN.out]; rfl
  case stop =>
    rintro D c pre W hD hpre ⟨⟨rfl, p, y, rfl, hp, hy, b1, b2⟩, hB⟩ hK
    have HP := Lib.hid hpre; have HN := Lib.hid hp; have HY := Lib.hid hy; clear hpre hp hy
    gi_wp2
    rw [Exit.noGoto_ret]
    refine ⟨by simp, .inl ⟨_, _, rfl, run_takeDeferred hK, ?_⟩⟩
    have d1 := (blk_own b1 (grownBy_putObj' _ D (.deferred none)) (fun r e => by cases e; exact ⟨_, hK, rfl⟩)).cell 0
    have d2 := (blk_own b2 (grownBy_putObj' _ D (.deferred none)) (fun r e => by cases e; exact ⟨_, hK, rfl⟩)).cell 0
    have e1 : (W.putObj D (.deferred none)).cell? ⟨w.heap.size + 1, 0, none⟩ = some (.string y.2.2) := d1
    have e2 : (W.putObj D (.deferred none)).cell? ⟨w.heap.size + 1 + 1, 0, none⟩ = some (.bool true) := d2
    refine ⟨.tuple #[.string y.2.2, .bool true], ?_, ?_, hB.trans (belowK_b (w := w) (Nat.le_refl _) _ D _ _ (by omega) hK rfl rfl)⟩
    · simp [results, Try.f46, go_sem, e1, e2]
    · rw [fLast_some HP.out HN.out HY.out]; rfl
end Go.Proofs.Ytekgoliakgknjaa
