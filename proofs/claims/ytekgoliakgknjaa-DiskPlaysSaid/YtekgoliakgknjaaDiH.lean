import Derived.Test.YtekgoliakgknjaaDiG
namespace Go.Proofs.Ytekgoliakgknjaa
open Go.RowKit
set_option linter.unusedVariables false
attribute [local go_sem] b_max2 b_min2 b_max b_min

/-- the writes of a key's cache that st lets through lie in their sectors; the cache is gone -/
def fSettle (d : DS) (k : Int) (st : Nat → Bool) : DS := (d.setLies (laid st (d.caches k) (d.caches k).length d.lies)).setCache k []
def DS.setPend (d : DS) (l : List Int) : DS := { d with pend := l }
def DS.setKey (d : DS) (k : Int) (b : Bool) : DS := { d with keys := fun j => if j = k then some b else d.keys j }
/-- every write of a cache is of a sector that is there -/
def DS.ok (d : DS) : Prop := ∀ k, ∀ p ∈ d.caches k, p.1 < d.lies.length
section
variable {w w' w1 : World} {g : Nat} {F : Nat → Prop} {d : DS} {vl vp vp' : Value} {kb cb : Nat} {cv : Int → Option Value}
theorem Aft.of_same (h : IsD w' g F d) (hf : Fr F w w') : Aft w w' g F d := ⟨F, h, hf, fun _ h => .inl h⟩
theorem Aft.trans {w'' : World} {F' : Nat → Prop} {d' : DS} (hf : Fr F w w') (hF : ∀ k, F' k → F k ∨ w.heap.size ≤ k) (h : Aft w' w'' g F' d') : Aft w w'' g F d' := by
  obtain ⟨F2, h1, h2, h3⟩ := h
  refine ⟨F2, h1, ⟨h2.os.trans hf.os, h2.tape.trans hf.tape, h2.output.trans hf.output, Nat.le_trans hf.size h2.size, fun k hk hk2 => ?_⟩, fun k hk => ?_⟩
  · exact (h2.block k (Nat.lt_of_lt_of_le hk hf.size) (fun e => (hF k e).elim hk2 (fun h => by omega))).trans (hf.block k hk hk2)
  · rcases h3 k hk with e | e
    · exact hF k e
    · exact .inr (Nat.le_trans hf.size e)
theorem Fr.cell (h : Fr F w w') {p : Addr} (hp : p.block < w.heap.size) (hF : ¬ F p.block) : w'.cell? p = w.cell? p := by
  unfold World.cell?
  rw [h.block p.block hp hF]
/-- a row of another's own, past a call -/
theorem Reads.fr {A : Option Addr} {n B sz : Nat} {xs : List Value} (h : Reads w B sz A n xs) (hf : Fr F w w') (hA : 0 < n → ∀ ad, A = some ad → ¬ F ad.block ∧ ad.block < w.heap.size) : Reads w' B sz A n xs :=
  ⟨h.1, fun hn => by
    obtain ⟨ad, e, h1, h2⟩ := h.2 hn
    obtain ⟨a1, a2⟩ := hA hn ad e
    exact ⟨ad, e, h1, fun j u hj => by rw [hf.cell (by rw [block_of_add]; exact a2) (by rw [block_of_add]; exact a1)]; exact h2 j u hj⟩⟩
def fFlush (d : DS) (k : Int) : DS × Int := (if fMay d k 0 false = 0 then fSettle d k (fun _ => true) else d, fMay d k 0 false)
set_option maxRecDepth 100000 in
set_option maxHeartbeats 400000 in
theorem flush_any (h : IsD w g F d) (hok : d.ok) (k : Int) (hl : (d.caches k).length ≤ 100000) :
    Calls Try.prog 17 #[.pointer (some ⟨g, 0, none⟩), .int .i64 k] w fun e w' => e = .returned (.int .i64 (fFlush d k).2) ∧ IsD w' g F (fFlush d k).1 ∧ Fr F w w' := by
  have hm := may_any h k 0 none 0 0 [] rfl Reads.none_ (by omega)
  rw [show ([] : List ByteArray).any oddB = false from rfl] at hm
  have hset := settle48_any h k (fun _ => true) (hok k) hl (fun wr _ i _ => by
    go_enter Try.func48, Try.ntmps48
    go_wp2_with fail
    go_ret
    exact ⟨rfl, rfl⟩)
  have hr : fFlush d k = (if fMay d k 0 false = 0 then fSettle d k (fun _ => true) else d, fMay d k 0 false) := rfl
  rw [hr]
  generalize fMay d k 0 false = m at *
  clear hr
  by_cases h0 : m = 0
  · rw [if_pos h0]
    have e0 : (m == 0) = true := by simp [h0]
    clear h0
    go_enter Try.func17, Try.ntmps17
    go_wp2_with (first | (go_at_call 45; refine hm.mono ?_; rintro e w' ⟨rfl, rfl⟩) | (go_at_call 47; refine hset.mono ?_; rintro e w' ⟨rfl, h1, h2⟩))
    go_ret
    exact ⟨rfl, h1, h2⟩
  · rw [if_neg h0]
    have e0 : (m == 0) = false := by simp [h0]
    clear h0
    go_enter Try.func17, Try.ntmps17
    go_wp2_with (first | (go_at_call 45; refine hm.mono ?_; rintro e w' ⟨rfl, rfl⟩))
    go_ret
    exact ⟨rfl, h, Fr.refl _ _⟩
/-- another row of those of whom a fence was asked -/
theorem IsD.pendSet (h : IsD w g F d) (l' : List Int) (vp' : Value) : ∃ vp, w.cell? ⟨g, 3, none⟩ = some vp ∧ ORow w 3 vp d.pend.length (d.pend.map (Value.int .i64)) ∧ vp.ownBlock ≠ some g ∧
    ∀ w1, Fr (fun j => vp.ownBlock = some j) w w1 → ORow w1 3 vp' l'.length (l'.map (Value.int .i64)) → (vp'.ownBlock = vp.ownBlock ∨ vp'.ownBlock = none ∨ ∃ j, vp'.ownBlock = some j ∧ w.heap.size ≤ j) →
      w1.cell? ⟨g, 3, none⟩ = some vp ∧ w1.frozen? ⟨g, 3, none⟩ = false ∧ Aft w (w1.setCell ⟨g, 3, none⟩ vp') g F (d.setPend l') := by
  obtain ⟨vl, vp, kb, cb, cv, h1, h2, h3, h4, h5, h6, h7, h8, h9, h10, h11, h12, h13, h14, h15, h16, h17⟩ := h.form
  have hvg : vp.ownBlock ≠ some g := fun e => (h14 g e).2.1 rfl
  refine ⟨vp, h1.cell 3, h9, hvg, fun w1 hf ho hv => ?_⟩
  have hsz := hf.size
  have hb1 : Blk w1 g 69 #[vl, .map (some kb), .map (some cb), vp] := hf.blk h1 hvg
  have hS : Fr (fun j => j = g) w1 (w1.setCell ⟨g, 3, none⟩ vp') := Fr.setCell w1 g 3 _ rfl
  have hv2 : ∀ j, vp'.ownBlock = some j → (F j ∨ (w.heap.size ≤ j ∧ j < w1.heap.size)) ∧ j ≠ g ∧ j ≠ kb ∧ j ≠ cb ∧ vl.ownBlock ≠ some j ∧ ∀ x, ((cv x).getD (.slice none 0 0)).ownBlock ≠ some j := by
    intro j hj
    rcases hv with e | e | ⟨i, e, hi⟩
    · rw [e] at hj
      obtain ⟨a1, a2, a3, a4⟩ := h14 j hj
      exact ⟨.inl a1, a2, a3, a4, fun e => h15 j e hj, fun x e => (h16 x j e).2.2.2.2.2 hj⟩
    · rw [e] at hj; cases hj
    · rw [e] at hj
      obtain rfl := Option.some.inj hj
      have hlt := ho.lt i e
      have hno : ∀ j, F j → j ≠ i := fun j hj e => by have := h.fb j hj; omega
      exact ⟨.inr ⟨hi, hlt⟩, fun e => hno _ h2 e.symm, fun e => hno _ h3 e.symm, fun e => hno _ h4 e.symm, fun e => hno _ (h13 i e).1 rfl, fun x e => hno _ (h16 x i e).1 rfl⟩
  have hfF : Fr F w w1 := hf.mono (fun j hj _ => (h14 j hj).1)
  refine ⟨hb1.cell 3, hb1.frozen 3, fun j => F j ∨ (w.heap.size ≤ j ∧ j < w1.heap.size), ⟨⟨vl, vp', kb, cb, cv, hb1.set_ 3 vp', .inl h2, .inl h3, .inl h4, h5, h6, h7, ?_, ?_, ?_, ?_, ?_, ?_, ?_, ?_, ?_, h17⟩, ?_, h.cap⟩, hfF.trans (hS.mono fun j hj _ => by subst hj; exact h2), ?_⟩
  · exact hS.own (hf.own h8 (fun j hj e => h15 j hj e)) (fun j hj e => (h13 j hj).2.1 e)
  · exact ho.keep hS (fun j hj e => (hv2 j hj).2.1 e)
  · exact (h10.keep hf (fun e => (h14 kb e).2.2.1 rfl)).keep hS (fun e => h5 e.symm)
  · exact (h11.keep hf (fun e => (h14 cb e).2.2.2 rfl)).keep hS (fun e => h6 e.symm)
  · exact fun x => hS.own (hf.own (h12 x) (fun j hj e => (h16 x j hj).2.2.2.2.2 e)) (fun j hj e => (h16 x j hj).2.1 e)
  · exact fun j hj => ⟨.inl (h13 j hj).1, (h13 j hj).2⟩
  · exact fun j hj => ⟨(hv2 j hj).1, (hv2 j hj).2.1, (hv2 j hj).2.2.1, (hv2 j hj).2.2.2.1⟩
  · exact fun j hj e => (hv2 j e).2.2.2.2.1 hj
  · exact fun x j hj => ⟨.inl (h16 x j hj).1, (h16 x j hj).2.1, (h16 x j hj).2.2.1, (h16 x j hj).2.2.2.1, (h16 x j hj).2.2.2.2.1, fun e => (hv2 j e).2.2.2.2.2 x hj⟩
  · intro j hj
    have e : (w1.setCell ⟨g, 3, none⟩ vp').heap.size = w1.heap.size := by simp
    rw [e]
    rcases hj with hj | hj
    · have := h.fb j hj; omega
    · exact hj.2
  · intro j hj
    rcases hj with hj | hj
    · exact .inl hj
    · exact .inr hj.1
theorem ORow.tail {v : Value} {n : Nat} {x : Value} {xs : List Value} (h : ORow w 3 v (n + 1) (x :: xs)) : ∃ b o cap, v = .slice (some ⟨b, o, none⟩) (n + 1) cap ∧ n + 1 ≤ cap ∧ cap ≤ maxLen ∧ w.cell? ⟨b, o, none⟩ = some x ∧ xs.length = n ∧
    (cap = 1 → ORow w 3 (.slice (some ⟨b, o, none⟩) n (cap - 1)) n xs) ∧ (cap ≠ 1 → ORow w 3 (.slice (some ⟨b, o + 1, none⟩) n (cap - 1)) n xs) := by
  obtain ⟨h0, ⟨h1, h2⟩ | ⟨b, o, cap, cur, rfl, h2, h3, h4, h5, h6⟩⟩ := h
  · omega
  · have hlen : xs.length = n := by simpa using h0
    have hd : cur.toList.drop o = x :: (cur.toList.drop (o + 1)) ∧ (cur.toList.drop (o + 1)).take n = xs := by
      have hlt : o < cur.toList.length := by simp; omega
      rw [List.drop_eq_getElem_cons hlt] at h6 ⊢
      rw [List.take_succ_cons] at h6
      injection h6 with a1 a2
      exact ⟨by rw [a1], a2⟩
    refine ⟨b, o, cap, rfl, h3, h4, ?_, hlen, fun hc => ?_, fun hc => ?_⟩
    · rw [cell_of_row w b o cur 3 (0, 0) h2, ← Array.getElem?_toList]
      have := congrArg (fun l => l[0]?) hd.1
      simpa [List.getElem?_drop] using this
    · obtain rfl : n = 0 := by omega
      obtain rfl : xs = [] := List.eq_nil_of_length_eq_zero hlen
      exact ⟨rfl, .inr ⟨b, o, cap - 1, cur, rfl, h2, by omega, by omega, by omega, by simp⟩⟩
    · exact ⟨hlen, .inr ⟨b, o + 1, cap - 1, cur, rfl, h2, by omega, by omega, by omega, hd.2⟩⟩
end
end Go.Proofs.Ytekgoliakgknjaa
