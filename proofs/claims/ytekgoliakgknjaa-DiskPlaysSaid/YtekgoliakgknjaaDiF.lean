import Derived.Test.YtekgoliakgknjaaDiE
namespace Go.Proofs.Ytekgoliakgknjaa
open Go.RowKit
set_option linter.unusedVariables false
attribute [local go_sem] b_max2 b_min2 b_max b_min

def FX (w : World) (g : Nat) (F : Nat → Prop) (d : DS) (vl vp : Value) (kb cb : Nat) (cv : Int → Option Value) : Prop :=
    Blk w g 69 #[vl, .map (some kb), .map (some cb), vp] ∧ F g ∧ F kb ∧ F cb ∧ g ≠ kb ∧ g ≠ cb ∧ kb ≠ cb ∧
    w.ownsRow 0 9 1 vl d.lies.length (d.lies.map Value.string) ∧ ORow w 3 vp d.pend.length (d.pend.map (Value.int .i64)) ∧
    FM w kb (fun k => (d.keys k).map Value.bool) ∧ FM w cb cv ∧
    (∀ k, w.ownsRow 0 77 2 ((cv k).getD (.slice none 0 0)) (d.caches k).length (cellsW (d.caches k))) ∧
    (∀ k, vl.ownBlock = some k → F k ∧ k ≠ g ∧ k ≠ kb ∧ k ≠ cb) ∧ (∀ k, vp.ownBlock = some k → F k ∧ k ≠ g ∧ k ≠ kb ∧ k ≠ cb) ∧ (∀ k, vl.ownBlock = some k → vp.ownBlock ≠ some k) ∧
    (∀ x k, ((cv x).getD (.slice none 0 0)).ownBlock = some k → F k ∧ k ≠ g ∧ k ≠ kb ∧ k ≠ cb ∧ vl.ownBlock ≠ some k ∧ vp.ownBlock ≠ some k) ∧
    (∀ x y k, x ≠ y → ((cv x).getD (.slice none 0 0)).ownBlock = some k → ((cv y).getD (.slice none 0 0)).ownBlock ≠ some k) ∧ (∀ k, cv k ≠ none → d.caches k ≠ [])
theorem own_set {w : World} {base e b n c s : Nat} {xs : List Value} (h : w.ownsRow base e 1 (.slice (some ⟨b, 0, none⟩) n c) n xs) (hs : s < n) (u : Value) :
    (w.setCell ⟨b, s, none⟩ u).ownsRow base e 1 (.slice (some ⟨b, 0, none⟩) n c) n (xs.set s u) := by
  obtain ⟨h0, ⟨h1, _⟩ | ⟨b', cap, cur, e1, h2, h3, h4, h5, h6, h7⟩⟩ := h
  · exact absurd h1 (by simp)
  · simp at e1
    obtain ⟨rfl, rfl⟩ := e1
    refine ⟨by simpa using h0, .inr ⟨b, c, cur.setIfInBounds s u, rfl, h2, Blk.set_ (t := e) h3 s u, h4, h5, by simpa using h6, ?_⟩⟩
    rw [Array.toList_setIfInBounds, ← h7, List.take_set]
theorem own_frozen {w : World} {base e b n c s : Nat} {xs : List Value} (h : w.ownsRow base e 1 (.slice (some ⟨b, 0, none⟩) n c) n xs) : w.frozen? ⟨b, s, none⟩ = false := by
  obtain ⟨h0, ⟨h1, _⟩ | ⟨b', cap, cur, e1, h2, h3, h4, h5, h6, h7⟩⟩ := h
  · exact absurd h1 (by simp)
  · simp at e1
    obtain ⟨rfl, rfl⟩ := e1
    exact Blk.frozen (t := e) h3 s
theorem own_form {w : World} {base e n : Nat} {v : Value} {xs : List Value} (h : w.ownsRow base e 1 v n xs) (hn : 0 < n) : ∃ b c, v = .slice (some ⟨b, 0, none⟩) n c := by
  obtain ⟨h0, ⟨h1, h2⟩ | ⟨b', cap, cur, e1, h2, h3, h4, h5, h6, h7⟩⟩ := h
  · omega
  · exact ⟨_, _, e1⟩
def DS.setLies (d : DS) (L : List ByteArray) : DS := { d with lies := L }
section
variable {w w' : World} {g : Nat} {F : Nat → Prop} {d : DS} {vl vp : Value} {kb cb : Nat} {cv : Int → Option Value}
theorem FX.keep (h : FX w g F d vl vp kb cb cv) {G : Nat → Prop} (hf : Fr G w w') (hG : ∀ k, G k → ¬ F k) : FX w' g F d vl vp kb cb cv := by
  obtain ⟨h1, h2, h3, h4, h5, h6, h7, h8, h9, h10, h11, h12, h13, h14, h15, h16, h17⟩ := h
  exact ⟨hf.blk h1 (fun e => hG _ e h2), h2, h3, h4, h5, h6, h7, hf.own h8 (fun k hk e => hG k e (h13 k hk).1), h9.keep hf (fun k hk e => hG k e (h14 k hk).1),
    h10.keep hf (fun e => hG _ e h3), h11.keep hf (fun e => hG _ e h4), fun x => hf.own (h12 x) (fun k hk e => hG k e (h16 x k hk).1), h13, h14, h15, h16, h17⟩
theorem FX.low (h : FX w g F d vl vp kb cb cv) (hb : Below w.heap.size w w') : FX w' g F d vl vp kb cb cv := h.keep (G := fun _ => False) (Fr.of_below hb _) (fun _ h => h.elim)
theorem FX.setLie {b n c : Nat} (h : FX w g F d (.slice (some ⟨b, 0, none⟩) n c) vp kb cb cv) (hn : n = d.lies.length) {s : Nat} (hs : s < d.lies.length) (t : ByteArray) :
    FX (w.setCell ⟨b, s, none⟩ (.string t)) g F (d.setLies (d.lies.set s t)) (.slice (some ⟨b, 0, none⟩) n c) vp kb cb cv ∧ Fr F w (w.setCell ⟨b, s, none⟩ (.string t)) := by
  subst hn
  obtain ⟨h1, h2, h3, h4, h5, h6, h7, h8, h9, h10, h11, h12, h13, h14, h15, h16, h17⟩ := h
  have hf : Fr (fun j => j = b) w (w.setCell ⟨b, s, none⟩ (.string t)) := Fr.setCell w b s _ rfl
  obtain ⟨a1, a2, a3, a4⟩ := h13 b rfl
  refine ⟨⟨hf.blk h1 (fun e => a2 e.symm), h2, h3, h4, h5, h6, h7, ?_, h9.keep hf (fun k hk e => h15 b rfl (e ▸ hk)), h10.keep hf (fun e => a3 e.symm), h11.keep hf (fun e => a4 e.symm), fun x => hf.own (h12 x) (fun k hk e => (h16 x k hk).2.2.2.2.1 (by rw [e]; rfl)), h13, h14, h15, h16, h17⟩, hf.mono fun j hj _ => by subst hj; exact a1⟩
  have h := own_set h8 hs (.string t)
  simp only [DS.setLies, List.length_set, List.map_set]
  exact h
theorem FX.drop (h : FX w g F d vl vp kb cb cv) (k : Int) (ty : TypeId) : ∃ w2, (Builtin.delete_ #[67, 3] ty #[.map (some cb), .int .i64 k]).run Try.prog w = .ok (.tuple #[]) w2 ∧
    FX w2 g F (d.setCache k []) vl vp kb cb (fun x => if x = k then none else cv x) ∧ Fr F w w2 ∧ w2.heap.size = w.heap.size := by
  obtain ⟨h1, h2, h3, h4, h5, h6, h7, h8, h9, h10, h11, h12, h13, h14, h15, h16, h17, h18⟩ := h
  obtain ⟨w2, r1, r2, r3, r4⟩ := h11.drop Try.underlying67 Try.underlying3 k ty
  refine ⟨w2, r1, ⟨r3.blk h1 h6, h2, h3, h4, h5, h6, h7, r3.own h8 (fun j hj e => (h13 j hj).2.2.2 e), h9.keep r3 (fun j hj e => (h14 j hj).2.2.2 e), h10.keep r3 h7, r2, ?_, h13, h14, h15, ?_, ?_, ?_⟩, r3.mono fun j hj _ => by subst hj; exact h4, r4⟩
  · intro x
    by_cases hx : x = k
    · simp only [DS.setCache, if_pos hx]; exact World.ownsRow_nil _ _ _ _
    · simp only [DS.setCache, if_neg hx]
      exact r3.own (h12 x) (fun j hj e => (h16 x j hj).2.2.2.1 e)
  · intro x j hj
    dsimp only at hj
    by_cases hx : x = k
    · rw [if_pos hx] at hj; cases hj
    · rw [if_neg hx] at hj; exact h16 x j hj
  · intro x y j hxy hj hj2
    dsimp only at hj hj2
    by_cases hx : x = k
    · rw [if_pos hx] at hj; cases hj
    · rw [if_neg hx] at hj
      by_cases hy : y = k
      · rw [if_pos hy] at hj2; cases hj2
      · rw [if_neg hy] at hj2; exact h17 x y j hxy hj hj2
  · intro x hx
    dsimp only at hx
    by_cases hxk : x = k
    · rw [if_pos hxk] at hx; exact absurd rfl hx
    · rw [if_neg hxk] at hx
      simp only [DS.setCache, if_neg hxk]; exact h18 x hx
/-- what lies once the first i of a cache's writes have been looked at -/
def laid (st : Nat → Bool) (l : List Put) : Nat → List ByteArray → List ByteArray
  | 0, L => L
  | i + 1, L => if st i then (laid st l i L).set (l.getD i (0, ⟨#[]⟩)).1 (l.getD i (0, ⟨#[]⟩)).2 else laid st l i L
theorem laid_len (st : Nat → Bool) (l : List Put) (i : Nat) (L : List ByteArray) : (laid st l i L).length = L.length := by
  induction i with
  | zero => rfl
  | succ i ih => rw [laid]; split <;> simp [ih]
theorem cellsW_at {w : World} {B n : Nat} {A : Option Addr} {l : List Put} (hn : l.length = n) (h : Reads w B 2 A n (cellsW l)) {i : Nat} (hi : i < n) {p : Put} (hp : l.getD i (0, ⟨#[]⟩) = p) :
    ∃ ad, A = some ad ∧ ad.block < B ∧ w.cell? (ad.add (i * 2)) = some (.int .i64 (p.1 : Nat)) ∧ w.cell? ⟨(ad.add (i * 2)).block, (ad.add (i * 2)).off + 1, none⟩ = some (.string p.2) := by
  have hlt : i < l.length := by omega
  have hf := fun j hj => flat_get putc 2 (fun _ => rfl) l i j hlt hj
  obtain ⟨ad, e, hadb, hcs⟩ := h.2 (by omega)
  have e1 : l[i] = p := by rw [← hp, List.getD_eq_getElem?_getD, List.getElem?_eq_getElem hlt]; rfl
  rw [e1] at hf
  refine ⟨ad, e, hadb, hcs _ _ (hf 0 (by omega)), ?_⟩
  rw [← add_field _ _ 1 (by omega)]; exact hcs _ _ (hf 1 (by omega))

set_option maxRecDepth 100000 in
set_option maxHeartbeats 1000000 in
theorem settle48_any (h : IsD w g F d) (k : Int) (st : Nat → Bool) (hok : ∀ p ∈ d.caches k, p.1 < d.lies.length) (hl : (d.caches k).length ≤ 100000)
    (H : ∀ wr, Fr F w wr → ∀ i : Nat, i < (d.caches k).length → Calls Try.prog 48 #[.int .i64 i] wr fun e w' => e = .returned (.bool (st i)) ∧ wr = w') :
    Calls Try.prog 47 #[.pointer (some ⟨g, 0, none⟩), .int .i64 k, .func (.func 48) #[] #[]] w fun e w' => e = .returned (.int .i64 ((d.caches k).length : Nat)) ∧
      IsD w' g F ((d.setLies (laid st (d.caches k) (d.caches k).length d.lies)).setCache k []) ∧ Fr F w w' := by
  obtain ⟨vl, vp, kb, cb, cv, hx⟩ := h.form
  replace hx : FX w g F d vl vp kb cb cv := hx
  have hfb := h.fb
  have hcap := h.cap
  have c2 : w.cell? ⟨g, 2, none⟩ = some (.map (some cb)) := hx.1.cell 2
  have hlk := hx.2.2.2.2.2.2.2.2.2.2.1.look Try.underlying67 Try.underlying3 (Try.zeroValue75 _) k
  have ho := hx.2.2.2.2.2.2.2.2.2.2.2.1 k
  obtain ⟨A, c, ev, _, _⟩ := Reads.of_own ho
  rw [ev] at hlk
  have EV := Lib.hid ev; clear ho ev h
  generalize hll : d.caches k = l at *
  have HL := Lib.hid hll; clear hll
  go_enter Try.func47, Try.ntmps47
  go_wp2_with fail
  generalize hN : l.length = N at *
  go_loopw [18, 8, 9] (fun p _ _ wr => ∃ i : Nat, p = .int .i64 i ∧ i ≤ N ∧ Hid (FX wr g F (d.setLies (laid st l i d.lies)) vl vp kb cb cv) ∧ Fr F w wr) (fun p _ _ _ => N - (intOf p).toNat)
  case atStart => exact ⟨0, rfl, by omega, Lib.hid hx, Fr.refl _ _⟩
  case round =>
    clear hlk c2
    obtain ⟨i, rfl, hi, hxr, hf⟩ := hrel
    by_cases hlt : i < N
    · have hxo := hxr.out
      obtain ⟨h1, h2, h3, h4, h5, h6, h7, h8, h9, h10, h11, h12, h13, h14, h15, h16, h17⟩ := hxo
      have hor := h12 k
      rw [EV.out, show (d.setLies (laid st l i d.lies)).caches k = l from HL.out, hN] at hor
      obtain ⟨A', c', he, _, hR⟩ := Reads.of_own hor
      obtain ⟨rfl, rfl⟩ : A = A' ∧ c = c' := by simpa using he
      clear he
      have hmem : l.getD i (0, ⟨#[]⟩) ∈ l := by
        rw [List.getD_eq_getElem?_getD, List.getElem?_eq_getElem (by omega)]
        exact List.getElem_mem _
      have hsl := hok _ hmem
      have hstep : laid st l (i + 1) d.lies = if st i then (laid st l i d.lies).set (l.getD i (0, ⟨#[]⟩)).1 (l.getD i (0, ⟨#[]⟩)).2 else laid st l i d.lies := rfl
      generalize hp : l.getD i (0, ⟨#[]⟩) = p at *
      obtain ⟨ad, rfl, hadb, p0, p1⟩ := cellsW_at hN hR hlt hp
      have HST := Lib.hid hstep
      clear hstep hor hR hmem hp h8 h9 h10 h11 h12 h13 h14 h15 h16 h17 h1
      obtain ⟨s, t⟩ := p
      simp only [] at p0 p1 hsl
      go_upto_region 5 with (fail)
      have hxa := hxr.out.low ((Below.refl _ wr).alloc (Nat.le_refl _) (.cells #[.int .i64 s, .string t] 77))
      have hfa : Fr F w (wr.alloc (.cells #[.int .i64 s, .string t] 77)) := hf.trans (Fr.alloc _ _ _)
      have hB : Blk (wr.alloc (.cells #[.int .i64 s, .string t] 77)) wr.heap.size 77 #[.int .i64 s, .string t] := Blk.new _ _ _
      have hzF : ¬ F wr.heap.size := fun e => by have := hfb _ e; have := hf.size; omega
      have hH := H _ hfa i hlt
      clear p0 p1 hxr hf hadb
      generalize wr.heap.size = z at *
      generalize wr.alloc (.cells #[.int .i64 s, .string t] 77) = wa at *
      have HH := Lib.hid hH; clear hH
      have q0 : wa.cell? ⟨z, 0, none⟩ = some (.int .i64 s) := hB.cell 0
      have q1 : wa.cell? ⟨z, 1, none⟩ = some (.string t) := hB.cell 1
      have r0 : wa.cell? ⟨g, 0, none⟩ = some vl := hxa.1.cell 0
      obtain ⟨b, cl, rfl⟩ := own_form hx.2.2.2.2.2.2.2.1 (by omega)
      have hlen : (d.setLies (laid st l i d.lies)).lies.length = d.lies.length := laid_len _ _ _ _
      have h8 := hxa.2.2.2.2.2.2.2.1
      rw [hlen] at h8
      have hfz : wa.frozen? ⟨b, s, none⟩ = false := own_frozen h8
      obtain ⟨x1, x2⟩ := hxa.setLie hlen.symm (s := s) (by rw [hlen]; exact hsl) t
      have hcs : ∃ u, wa.cell? ⟨b, s, none⟩ = some u := by
        obtain ⟨A8, c8, e8, _, hR8⟩ := Reads.of_own h8
        simp at e8
        obtain ⟨rfl, rfl⟩ := e8
        obtain ⟨ad8, e9, _, hc8⟩ := hR8.2 (by omega)
        obtain rfl := Option.some.inj e9
        have hg8 := hc8 s _ (by rw [List.getElem?_map, List.getElem?_eq_getElem (show s < (d.setLies (laid st l i d.lies)).lies.length by rw [hlen]; exact hsl)]; rfl)
        rw [add_zero'] at hg8
        exact ⟨_, hg8⟩
      clear h8 hlen hx
      obtain ⟨u, hcs⟩ := hcs
      have hsl' : (s : Int) < d.lies.length := by omega
      have X1 := Lib.hid x1; have X2 := Lib.hid x2; have XA := Lib.hid hxa; clear x1 x2 hxa
      rcases Bool.eq_false_or_eq_true (st i) with hs | hs
      · rw [hs] at HH
        go_wp2_with (go_at_call 48; refine HH.out.mono ?_; rintro e w' ⟨rfl, rfl⟩)
        have hgb : g ≠ b := fun e => (XA.out.2.2.2.2.2.2.2.2.2.2.2.2.1 b rfl).2.1 e.symm
        have hzb : z ≠ b := fun e => hzF (by rw [e]; exact (XA.out.2.2.2.2.2.2.2.2.2.2.2.2.1 b rfl).1)
        have hfs : Fr (fun j => j = b) wa (wa.setCell ⟨b, s, none⟩ (.string t)) := Fr.setCell wa b s _ rfl
        have k0 : (wa.setCell ⟨b, s, none⟩ (.string t)).drew.cell? ⟨g, 0, none⟩ = some (.slice (some ⟨b, 0, none⟩) d.lies.length cl) := (hfs.blk XA.out.1 hgb).cell 0
        have k1 : (wa.setCell ⟨b, s, none⟩ (.string t)).drew.cell? ⟨z, 0, none⟩ = some (.int .i64 s) := (hfs.blk hB hzb).cell 0
        have k2 : (wa.setCell ⟨b, s, none⟩ (.string t)).drew.cell? ⟨z, 1, none⟩ = some (.string t) := (hfs.blk hB hzb).cell 1
        clear hfs
        go_region_held3 (fun w' => w'.cell? ⟨g, 0, none⟩ = some (.slice (some ⟨b, 0, none⟩) d.lies.length cl) ∧ w'.cell? ⟨z, 0, none⟩ = some (.int .i64 s) ∧ w'.cell? ⟨z, 1, none⟩ = some (.string t)) (first | exact ⟨k0, k1, k2⟩ | go_keep) (fail)
        all_goals
          go_wp2_with fail
          go_roundw
          case rel => exact ⟨i + 1, vint (by omega), by omega, Lib.hid (by rw [HST.out, if_pos hs]; exact X1.out.low (bdrewN (Below.refl _ _) 1)), hfa.trans (X2.out.trans (Fr.drewN _ _ 1))⟩
          case measure => simp [intOf]; omega
      · rw [hs] at HH
        go_wp2_with (go_at_call 48; refine HH.out.mono ?_; rintro e w' ⟨rfl, rfl⟩)
        go_roundw
        case rel => exact ⟨i + 1, vint (by omega), by omega, Lib.hid (by rw [HST.out, hs]; exact XA.out), hfa⟩
        case measure => simp [intOf]; omega
    · obtain rfl : i = N := by omega
      have hc2 : wr.cell? ⟨g, 2, none⟩ = some (.map (some cb)) := hxr.out.1.cell 2
      obtain ⟨w2, r1, r2, r3, r4⟩ := hxr.out.drop k 0
      clear hlt hi hok hx
      go_wp2_with fail
      go_ret
      rw [hN]
      exact ⟨rfl, ⟨⟨vl, vp, kb, cb, _, r2⟩, fun j hj => by have := hfb j hj; have := hf.size; omega, by simp [DS.setCache, DS.setLies, laid_len]; exact hcap⟩, hf.trans r3⟩

set_option maxRecDepth 100000 in
set_option maxHeartbeats 1000000 in
theorem settle71_any (h : IsD w g F d) (k : Int) (pb : Addr) (st : Nat → Bool) (hok : ∀ p ∈ d.caches k, p.1 < d.lies.length) (hl : (d.caches k).length ≤ 100000)
    (H : ∀ wr, Fr F w wr → ∀ i : Nat, i < (d.caches k).length → Calls Try.prog 71 #[.int .i64 i, .pointer (some pb)] wr fun e w' => e = .returned (.bool (st i)) ∧ wr = w') :
    Calls Try.prog 47 #[.pointer (some ⟨g, 0, none⟩), .int .i64 k, .func (.func 71) #[] #[.pointer (some pb)]] w fun e w' => e = .returned (.int .i64 ((d.caches k).length : Nat)) ∧
      IsD w' g F ((d.setLies (laid st (d.caches k) (d.caches k).length d.lies)).setCache k []) ∧ Fr F w w' := by
  obtain ⟨vl, vp, kb, cb, cv, hx⟩ := h.form
  replace hx : FX w g F d vl vp kb cb cv := hx
  have hfb := h.fb
  have hcap := h.cap
  have c2 : w.cell? ⟨g, 2, none⟩ = some (.map (some cb)) := hx.1.cell 2
  have hlk := hx.2.2.2.2.2.2.2.2.2.2.1.look Try.underlying67 Try.underlying3 (Try.zeroValue75 _) k
  have ho := hx.2.2.2.2.2.2.2.2.2.2.2.1 k
  obtain ⟨A, c, ev, _, _⟩ := Reads.of_own ho
  rw [ev] at hlk
  have EV := Lib.hid ev; clear ho ev h
  generalize hll : d.caches k = l at *
  have HL := Lib.hid hll; clear hll
  go_enter Try.func47, Try.ntmps47
  go_wp2_with fail
  generalize hN : l.length = N at *
  go_loopw [18, 8, 9] (fun p _ _ wr => ∃ i : Nat, p = .int .i64 i ∧ i ≤ N ∧ Hid (FX wr g F (d.setLies (laid st l i d.lies)) vl vp kb cb cv) ∧ Fr F w wr) (fun p _ _ _ => N - (intOf p).toNat)
  case atStart => exact ⟨0, rfl, by omega, Lib.hid hx, Fr.refl _ _⟩
  case round =>
    clear hlk c2
    obtain ⟨i, rfl, hi, hxr, hf⟩ := hrel
    by_cases hlt : i < N
    · have hxo := hxr.out
      obtain ⟨h1, h2, h3, h4, h5, h6, h7, h8, h9, h10, h11, h12, h13, h14, h15, h16, h17⟩ := hxo
      have hor := h12 k
      rw [EV.out, show (d.setLies (laid st l i d.lies)).caches k = l from HL.out, hN] at hor
      obtain ⟨A', c', he, _, hR⟩ := Reads.of_own hor
      obtain ⟨rfl, rfl⟩ : A = A' ∧ c = c' := by simpa using he
      clear he
      have hmem : l.getD i (0, ⟨#[]⟩) ∈ l := by
        rw [List.getD_eq_getElem?_getD, List.getElem?_eq_getElem (by omega)]
        exact List.getElem_mem _
      have hsl := hok _ hmem
      have hstep : laid st l (i + 1) d.lies = if st i then (laid st l i d.lies).set (l.getD i (0, ⟨#[]⟩)).1 (l.getD i (0, ⟨#[]⟩)).2 else laid st l i d.lies := rfl
      generalize hp : l.getD i (0, ⟨#[]⟩) = p at *
      obtain ⟨ad, rfl, hadb, p0, p1⟩ := cellsW_at hN hR hlt hp
      have HST := Lib.hid hstep
      clear hstep hor hR hmem hp h8 h9 h10 h11 h12 h13 h14 h15 h16 h17 h1
      obtain ⟨s, t⟩ := p
      simp only [] at p0 p1 hsl
      go_upto_region 5 with (fail)
      have hxa := hxr.out.low ((Below.refl _ wr).alloc (Nat.le_refl _) (.cells #[.int .i64 s, .string t] 77))
      have hfa : Fr F w (wr.alloc (.cells #[.int .i64 s, .string t] 77)) := hf.trans (Fr.alloc _ _ _)
      have hB : Blk (wr.alloc (.cells #[.int .i64 s, .string t] 77)) wr.heap.size 77 #[.int .i64 s, .string t] := Blk.new _ _ _
      have hzF : ¬ F wr.heap.size := fun e => by have := hfb _ e; have := hf.size; omega
      have hH := H _ hfa i hlt
      clear p0 p1 hxr hf hadb
      generalize wr.heap.size = z at *
      generalize wr.alloc (.cells #[.int .i64 s, .string t] 77) = wa at *
      have HH := Lib.hid hH; clear hH
      have q0 : wa.cell? ⟨z, 0, none⟩ = some (.int .i64 s) := hB.cell 0
      have q1 : wa.cell? ⟨z, 1, none⟩ = some (.string t) := hB.cell 1
      have r0 : wa.cell? ⟨g, 0, none⟩ = some vl := hxa.1.cell 0
      obtain ⟨b, cl, rfl⟩ := own_form hx.2.2.2.2.2.2.2.1 (by omega)
      have hlen : (d.setLies (laid st l i d.lies)).lies.length = d.lies.length := laid_len _ _ _ _
      have h8 := hxa.2.2.2.2.2.2.2.1
      rw [hlen] at h8
      have hfz : wa.frozen? ⟨b, s, none⟩ = false := own_frozen h8
      obtain ⟨x1, x2⟩ := hxa.setLie hlen.symm (s := s) (by rw [hlen]; exact hsl) t
      have hcs : ∃ u, wa.cell? ⟨b, s, none⟩ = some u := by
        obtain ⟨A8, c8, e8, _, hR8⟩ := Reads.of_own h8
        simp at e8
        obtain ⟨rfl, rfl⟩ := e8
        obtain ⟨ad8, e9, _, hc8⟩ := hR8.2 (by omega)
        obtain rfl := Option.some.inj e9
        have hg8 := hc8 s _ (by rw [List.getElem?_map, List.getElem?_eq_getElem (show s < (d.setLies (laid st l i d.lies)).lies.length by rw [hlen]; exact hsl)]; rfl)
        rw [add_zero'] at hg8
        exact ⟨_, hg8⟩
      clear h8 hlen hx
      obtain ⟨u, hcs⟩ := hcs
      have hsl' : (s : Int) < d.lies.length := by omega
      have X1 := Lib.hid x1; have X2 := Lib.hid x2; have XA := Lib.hid hxa; clear x1 x2 hxa
      rcases Bool.eq_false_or_eq_true (st i) with hs | hs
      · rw [hs] at HH
        go_wp2_with (go_at_call 71; refine HH.out.mono ?_; rintro e w' ⟨rfl, rfl⟩)
        have hgb : g ≠ b := fun e => (XA.out.2.2.2.2.2.2.2.2.2.2.2.2.1 b rfl).2.1 e.symm
        have hzb : z ≠ b := fun e => hzF (by rw [e]; exact (XA.out.2.2.2.2.2.2.2.2.2.2.2.2.1 b rfl).1)
        have hfs : Fr (fun j => j = b) wa (wa.setCell ⟨b, s, none⟩ (.string t)) := Fr.setCell wa b s _ rfl
        have k0 : (wa.setCell ⟨b, s, none⟩ (.string t)).drew.cell? ⟨g, 0, none⟩ = some (.slice (some ⟨b, 0, none⟩) d.lies.length cl) := (hfs.blk XA.out.1 hgb).cell 0
        have k1 : (wa.setCell ⟨b, s, none⟩ (.string t)).drew.cell? ⟨z, 0, none⟩ = some (.int .i64 s) := (hfs.blk hB hzb).cell 0
        have k2 : (wa.setCell ⟨b, s, none⟩ (.string t)).drew.cell? ⟨z, 1, none⟩ = some (.string t) := (hfs.blk hB hzb).cell 1
        clear hfs
        go_region_held3 (fun w' => w'.cell? ⟨g, 0, none⟩ = some (.slice (some ⟨b, 0, none⟩) d.lies.length cl) ∧ w'.cell? ⟨z, 0, none⟩ = some (.int .i64 s) ∧ w'.cell? ⟨z, 1, none⟩ = some (.string t)) (first | exact ⟨k0, k1, k2⟩ | go_keep) (fail)
        all_goals
          go_wp2_with fail
          go_roundw
          case rel => exact ⟨i + 1, vint (by omega), by omega, Lib.hid (by rw [HST.out, if_pos hs]; exact X1.out.low (bdrewN (Below.refl _ _) 1)), hfa.trans (X2.out.trans (Fr.drewN _ _ 1))⟩
          case measure => simp [intOf]; omega
      · rw [hs] at HH
        go_wp2_with (go_at_call 71; refine HH.out.mono ?_; rintro e w' ⟨rfl, rfl⟩)
        go_roundw
        case rel => exact ⟨i + 1, vint (by omega), by omega, Lib.hid (by rw [HST.out, hs]; exact XA.out), hfa⟩
        case measure => simp [intOf]; omega
    · obtain rfl : i = N := by omega
      have hc2 : wr.cell? ⟨g, 2, none⟩ = some (.map (some cb)) := hxr.out.1.cell 2
      obtain ⟨w2, r1, r2, r3, r4⟩ := hxr.out.drop k 0
      clear hlt hi hok hx
      go_wp2_with fail
      go_ret
      rw [hN]
      exact ⟨rfl, ⟨⟨vl, vp, kb, cb, _, r2⟩, fun j hj => by have := hfb j hj; have := hf.size; omega, by simp [DS.setCache, DS.setLies, laid_len]; exact hcap⟩, hf.trans r3⟩
end
end Go.Proofs.Ytekgoliakgknjaa
