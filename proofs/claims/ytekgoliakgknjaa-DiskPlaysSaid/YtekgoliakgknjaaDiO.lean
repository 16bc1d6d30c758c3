import Derived.Test.YtekgoliakgknjaaDiN
namespace Go.Proofs.Ytekgoliakgknjaa
open Go.RowKit
set_option linter.unusedVariables false
attribute [local go_sem] b_max2 b_min2 b_max b_min

theorem i64_and3 (n : Int) : bits .and .i64 n 3 = ((n % 4).toNat : Int) := by
  have h127 : (BitVec.ofInt 64 3).toNat = 2 ^ 2 - 1 := by decide
  have key : (BitVec.ofInt 64 n &&& BitVec.ofInt 64 3).toNat = (n % ((2 ^ 64 : Nat) : Int)).toNat % 2 ^ 2 := by
    rw [BitVec.toNat_and, BitVec.toNat_ofInt, h127, Nat.and_two_pow_sub_one_eq_mod]
  show IntKind.i64.wrap ((BitVec.ofInt 64 n &&& BitVec.ofInt 64 3).toNat : Nat) = _
  rw [key, IntKind.wrap_i64]
  omega
/-! ### rows of calls -/
structure OpR where
  K : Nat → Nat → Int
  Y : Nat → Nat
  T : Nat → Bool
  P : Nat → Value
def opv (o : OpR) (i : Nat) : List Value := [.int .i64 (o.K i 0), .int .i64 (o.K i 1), .int .i64 (o.K i 2), .int .i64 (o.K i 3), .int .u8 (o.Y i), .bool (o.T i), o.P i]
def opsC (o : OpR) (len : Nat) : List Value := (List.range len).flatMap (opv o)
/-- the calls as they lie in memory -/
structure OpsAt (w : World) (A : Option Addr) (len : Nat) (o : OpR) : Prop where
  rd : Reads w w.heap.size 7 A len (opsC o len)
  kb : ∀ i j, -9223372036854775808 ≤ o.K i j ∧ o.K i j ≤ 9223372036854775807
  yb : ∀ i, o.Y i < 256
  pk : ∀ i, i < len → ∃ (B : Option Addr) (n c : Nat) (zs : List Int), o.P i = .slice B n c ∧ zs.length = n ∧ n ≤ c ∧ (∀ z ∈ zs, -9223372036854775808 ≤ z ∧ z ≤ 9223372036854775807) ∧ Reads w w.heap.size 1 B n (zs.map (Value.int .i64))
theorem ops_at {B w : World} {A : Option Addr} {len : Nat} {o : OpR} (h : OpsAt B A len o) (hb : Below B.heap.size B w) {i : Nat} (hi : i < len) :
    ∃ ad, A = some ad ∧ w.cell? (ad.add (i * 7)) = some (.int .i64 (o.K i 0)) ∧ w.cell? ⟨(ad.add (i * 7)).block, (ad.add (i * 7)).off + 1, none⟩ = some (.int .i64 (o.K i 1)) ∧ w.cell? ⟨(ad.add (i * 7)).block, (ad.add (i * 7)).off + 2, none⟩ = some (.int .i64 (o.K i 2)) ∧
      w.cell? ⟨(ad.add (i * 7)).block, (ad.add (i * 7)).off + 3, none⟩ = some (.int .i64 (o.K i 3)) ∧ w.cell? ⟨(ad.add (i * 7)).block, (ad.add (i * 7)).off + 4, none⟩ = some (.int .u8 (o.Y i)) ∧ w.cell? ⟨(ad.add (i * 7)).block, (ad.add (i * 7)).off + 5, none⟩ = some (.bool (o.T i)) ∧
      w.cell? ⟨(ad.add (i * 7)).block, (ad.add (i * 7)).off + 6, none⟩ = some (o.P i) := by
  have hf := fun j hj => flat_get (opv o) 7 (fun _ => rfl) (List.range len) i j (by simpa using hi) hj
  simp only [List.getElem_range] at hf
  obtain ⟨ad, e, hadb, hcs⟩ := h.rd.2 (by omega)
  have hc : ∀ j u, j < 7 → (opv o i)[j]? = some u → w.cell? (ad.add (i * 7 + j)) = some u := by
    intro j u hj hu
    rw [hb.cell (by rw [block_of_add]; exact hadb)]
    exact hcs _ _ ((hf j hj).trans hu)
  refine ⟨ad, e, hc 0 _ (by omega) rfl, ?_, ?_, ?_, ?_, ?_, ?_⟩
  · rw [← add_field _ _ 1 (by omega)]; exact hc 1 _ (by omega) rfl
  · rw [← add_field _ _ 2 (by omega)]; exact hc 2 _ (by omega) rfl
  · rw [← add_field _ _ 3 (by omega)]; exact hc 3 _ (by omega) rfl
  · rw [← add_field _ _ 4 (by omega)]; exact hc 4 _ (by omega) rfl
  · rw [← add_field _ _ 5 (by omega)]; exact hc 5 _ (by omega) rfl
  · rw [← add_field _ _ 6 (by omega)]; exact hc 6 _ (by omega) rfl
section
open Go.ChangeShapes Go.WideShapes Go.Deep
variable {H : Type} {enc : TypeId × Value → H} {held : Bool}
theorem open_ints_c {w : World} {t e : TypeId} {fuel : Nat} {A : Option Addr} {len cap : Nat} {x : DataW H × List MemPlace} (ht : Try.prog.underlying t = some (.slice e)) (he : Try.prog.underlying e = some (.int .i64)) (hc : Try.prog.cellsOf e = 1)
    (h : DataW.trod enc Try.prog w 0 (fun _ => true) held fuel t [.slice A len cap] = some x) :
    ∃ zs : List Int, (zs.length = len ∧ len ≤ cap) ∧ (∀ z ∈ zs, -9223372036854775808 ≤ z ∧ z ≤ 9223372036854775807) ∧ Reads w w.heap.size 1 A len (zs.map (Value.int .i64)) := by
  obtain ⟨zs, z1, z2, z3⟩ := open_ints_reads ht he hc h
  refine ⟨zs, ⟨z1, ?_⟩, z2, z3⟩
  rcases open_ints ht he hc h with ⟨hcs, _⟩ | ⟨a, l, c, zs, hcs, _, hl, _⟩
  · simp only [List.cons.injEq, Value.slice.injEq, and_true] at hcs
    obtain ⟨_, rfl, rfl⟩ := hcs
    exact Nat.le_refl _
  · simp only [List.cons.injEq, Value.slice.injEq, and_true] at hcs
    obtain ⟨_, rfl, rfl⟩ := hcs
    exact hl
set_option maxRecDepth 100000 in
theorem open_dop_rows {w : World} {t e : TypeId} {fs : Array Field} {fuel : Nat} {A : Option Addr} {len cap : Nat} {x : DataW H × List MemPlace} (ht : Try.prog.underlying t = some (.slice e)) (he : Try.prog.underlying e = some (.struct fs))
    (hone : oneCellFields Try.prog fs = true) (hC : Try.prog.cellsOf e = fs.size) (h5 : fs.size = 7) (hi4 : ∀ (j : Nat) (f : Field), j < 4 → fs[j]? = some f → Try.prog.underlying f.type = some (.int .i64))
    (h4 : ∀ (f : Field), fs[4]? = some f → Try.prog.underlying f.type = some (.int .u8)) (hb5 : ∀ (f : Field), fs[5]? = some f → Try.prog.underlying f.type = some .bool) (hs6 : ∀ (f : Field), fs[6]? = some f → f.type = 31)
    (h : DataW.trod enc Try.prog w 0 (fun _ => true) held fuel t [.slice A len cap] = some x) :
    ∃ o, OpsAt w A len o := by
  obtain ⟨V, hr, hV⟩ := open_rows ht he hone hC (by omega) h
  rw [h5] at hr
  have hval : ∀ i j, i < len → j < 4 → ∃ n : Int, V i j = .int .i64 n ∧ -9223372036854775808 ≤ n ∧ n ≤ 9223372036854775807 := by
    intro i j hi hj
    obtain ⟨n, y, ht⟩ := hV i hi j (fs[j]'(by omega)) (by simp [show j < fs.size by omega])
    obtain ⟨z, e1, _, hw⟩ := DataW.trod_int (hi4 j (fs[j]'(by omega)) hj (by simp [show j < fs.size by omega])) ht
    exact ⟨z, by simpa using e1, wf64 hw⟩
  have hbyte : ∀ i, i < len → ∃ n : Nat, V i 4 = .int .u8 n ∧ n < 256 := by
    intro i hi
    obtain ⟨n, y, ht⟩ := hV i hi 4 (fs[4]'(by omega)) (by simp [show 4 < fs.size by omega])
    obtain ⟨z, e1, _, hw⟩ := DataW.trod_int (h4 (fs[4]'(by omega)) (by simp [show 4 < fs.size by omega])) ht
    have h1 : (decide ((0 : Int) ≤ z) && decide (z ≤ (255 : Int))) = true := hw
    have h2 : 0 ≤ z ∧ z ≤ 255 := by simpa using h1
    refine ⟨z.toNat, ?_, by omega⟩
    rw [show ((z.toNat : Nat) : Int) = z by omega]
    simpa using e1
  have hbool : ∀ i, i < len → ∃ b : Bool, V i 5 = .bool b := by
    intro i hi
    obtain ⟨n, y, ht⟩ := hV i hi 5 (fs[5]'(by omega)) (by simp [show 5 < fs.size by omega])
    obtain ⟨b, e1, _⟩ := DataW.trod_bool (hb5 (fs[5]'(by omega)) (by simp [show 5 < fs.size by omega])) ht
    exact ⟨b, by simpa using e1⟩
  have hpk : ∀ i, i < len → ∃ (B : Option Addr) (n c : Nat) (zs : List Int), V i 6 = .slice B n c ∧ zs.length = n ∧ n ≤ c ∧ (∀ z ∈ zs, -9223372036854775808 ≤ z ∧ z ≤ 9223372036854775807) ∧ Reads w w.heap.size 1 B n (zs.map (Value.int .i64)) := by
    intro i hi
    obtain ⟨n, y, ht⟩ := hV i hi 6 (fs[6]'(by omega)) (by simp [show 6 < fs.size by omega])
    rw [hs6 (fs[6]'(by omega)) (by simp [show 6 < fs.size by omega])] at ht
    rcases open_ints Try.underlying31 Try.underlying3 (by kernel_rfl) ht with ⟨hcs, _⟩ | ⟨a, l, c, zs, hcs, _, hlc, _⟩
    · simp only [List.cons.injEq, and_true] at hcs
      exact ⟨none, 0, 0, [], hcs, rfl, Nat.le_refl _, fun _ h => (by cases h), rfl, fun h => by omega⟩
    · simp only [List.cons.injEq, and_true] at hcs
      rw [hcs] at ht ⊢
      obtain ⟨zs, z1, z2, z3⟩ := open_ints_reads Try.underlying31 Try.underlying3 (by kernel_rfl) ht
      exact ⟨some a, l, c, zs, rfl, z1, hlc, z2, z3⟩
  refine ⟨⟨fun i j => if i < len ∧ j < 4 then intOf (V i j) else 0, fun i => if i < len then (intOf (V i 4)).toNat else 0, fun i => match V i 5 with | .bool b => b | _ => false, fun i => V i 6⟩, ?_, ?_, ?_, hpk⟩
  · have e : opsC ⟨fun i j => if i < len ∧ j < 4 then intOf (V i j) else 0, fun i => if i < len then (intOf (V i 4)).toNat else 0, fun i => match V i 5 with | .bool b => b | _ => false, fun i => V i 6⟩ len = (List.range len).flatMap fun i => (List.range 7).map (V i) := by
      unfold opsC
      rw [List.flatMap_def, List.flatMap_def]
      congr 1
      apply List.map_congr_left
      intro i hi
      have hi : i < len := by simpa using hi
      obtain ⟨n0, e0, _⟩ := hval i 0 hi (by omega)
      obtain ⟨n1, e1, _⟩ := hval i 1 hi (by omega)
      obtain ⟨n2, e2, _⟩ := hval i 2 hi (by omega)
      obtain ⟨n3, e3, _⟩ := hval i 3 hi (by omega)
      obtain ⟨y, e4, _⟩ := hbyte i hi
      obtain ⟨b, e5⟩ := hbool i hi
      simp [opv, List.range_succ, e0, e1, e2, e3, e4, e5, intOf, hi]
    rw [e]; exact hr
  · intro i j
    simp only []
    split
    · rename_i hij
      obtain ⟨n, e, hn⟩ := hval i j hij.1 hij.2
      rw [e]; exact hn
    · omega
  · intro i
    simp only []
    split
    · rename_i hi
      obtain ⟨y, e4, hy⟩ := hbyte i hi
      rw [e4]; simp [intOf]; exact hy
    · omega
end
/-! ### one key's cache over four sectors -/
def all_ (_ : Nat) : Bool := true
def LA (C : List Put) (L : List ByteArray) : List ByteArray := laid all_ C C.length L
theorem laid_append (st : Nat → Bool) (C D : List Put) (L : List ByteArray) : ∀ i, i ≤ C.length → laid st (C ++ D) i L = laid st C i L := by
  intro i
  induction i with
  | zero => intro _; rfl
  | succ i ih =>
    intro hi
    have e : (C ++ D).getD i (0, ⟨#[]⟩) = C.getD i (0, ⟨#[]⟩) := by
      rw [List.getD_eq_getElem?_getD, List.getD_eq_getElem?_getD, List.getElem?_append_left (by omega)]
    rw [laid, laid, ih (by omega), e]
theorem LA_snoc (C : List Put) (p : Put) (L : List ByteArray) : LA (C ++ [p]) L = (LA C L).set p.1 p.2 := by
  unfold LA
  rw [List.length_append, List.length_singleton, laid, laid_append _ _ _ _ _ (Nat.le_refl _)]
  have e : (C ++ [p]).getD C.length (0, ⟨#[]⟩) = p := by simp [List.getD_eq_getElem?_getD]
  rw [e]; rfl
theorem LA_nil (L : List ByteArray) : LA [] L = L := rfl
theorem LA_len (C : List Put) (L : List ByteArray) : (LA C L).length = L.length := laid_len _ _ _ _
theorem fLast_snoc (C : List Put) (p : Put) (s : Int) : fLast (C ++ [p]) s = if (p.1 : Int) = s then some p.2 else fLast C s := by
  unfold fLast
  rw [List.reverse_append, List.reverse_singleton, List.singleton_append, List.find?_cons]
  by_cases h : (p.1 : Int) = s
  · rw [if_pos h, beq_iff_eq.2 h]; rfl
  · rw [if_neg h, beq_eq_false_iff_ne.2 h]
theorem snoc_ind {α : Type} {motive : List α → Prop} (nil : motive []) (snoc : ∀ l a, motive l → motive (l ++ [a])) (l : List α) : motive l := by
  rw [← List.reverse_reverse l]
  induction l.reverse with
  | nil => exact nil
  | cons a t ih => rw [List.reverse_cons]; exact snoc _ _ ih
theorem LA_last (C : List Put) (L : List ByteArray) (s : Nat) (hs : s < L.length) : (LA C L).getD s ⟨#[]⟩ = (fLast C s).getD (L.getD s ⟨#[]⟩) := by
  induction C using snoc_ind with
  | nil => rfl
  | snoc C p ih =>
    rw [LA_snoc, fLast_snoc]
    by_cases h : (p.1 : Int) = (s : Int)
    · have h' : p.1 = s := by omega
      rw [if_pos h, h', List.getD_eq_getElem?_getD, List.getElem?_set_self (by rw [LA_len]; exact hs)]; rfl
    · have h' : p.1 ≠ s := by omega
      rw [if_neg h, List.getD_eq_getElem?_getD, List.getElem?_set_ne h', ← List.getD_eq_getElem?_getD, ih]
end Go.Proofs.Ytekgoliakgknjaa
