import Derived.Test.YtglglbbjacgbdaaDoorFr
import Derived.Lib.AppendStr
import Derived.Lib.LazyBuf
import Derived.Laws.IdiomStrings
namespace Go.Proofs.YtglglbbjacgbdaaDoor
open Go.RowKit
set_option linter.unusedVariables false
set_option linter.unusedSimpArgs false

/-! ### a row of bytes of one's own, be its end marked or not -/
structure Buf (B0 : Nat) (w : World) (g len cap : Nat) (l : List UInt8) : Prop where
  hl : l.length = len
  hc : len ≤ cap
  hm : cap ≤ maxLen
  hb : B0 ≤ g
  lt : g < w.heap.size
  cells : ∀ j (hj : j < l.length), w.cell? ⟨g, j, none⟩ = some (.int .u8 (l[j].toNat : Int))
  there : ∀ j, j < cap → (w.cell? ⟨g, j, none⟩).isSome = true ∧ w.frozen? ⟨g, j, none⟩ = false
abbrev bufV (g len cap : Nat) : Value := .slice (some ⟨g, 0, none⟩) len cap
section
variable {P : Program} {w w' : World} {B0 g len cap : Nat} {l : List UInt8}
theorem Buf.low (h : Buf B0 w g len cap l) (hb : Below w.heap.size w w') : Buf B0 w' g len cap l := by
  have hh := hb.block g h.lt
  have hc : ∀ j, w'.cell? ⟨g, j, none⟩ = w.cell? ⟨g, j, none⟩ := fun j => by simp [World.cell?, hh]
  have hf : ∀ j, w'.frozen? ⟨g, j, none⟩ = w.frozen? ⟨g, j, none⟩ := fun j => by simp [World.frozen?, hh]
  exact ⟨h.hl, h.hc, h.hm, h.hb, Nat.lt_of_lt_of_le h.lt hb.size, fun j hj => (hc j).trans (h.cells j hj), fun j hj => by rw [hc, hf]; exact h.there j hj⟩
theorem cells_size (w : World) (g : Nat) : ∀ (vs : List Value) (o : Nat), (w.setCells g o vs).heap.size = w.heap.size := by
  intro vs
  induction vs generalizing w with
  | nil => intro o; rfl
  | cons v r ih => intro o; unfold World.setCells; rw [ih]; simp
theorem u8Cells_get (s : ByteArray) (j : Nat) (hj : j < (s.data.toList.map fun x => Value.int .u8 (x.toNat : Int)).length) : (s.data.toList.map fun x => Value.int .u8 (x.toNat : Int))[j] = .int .u8 ((s.data.toList[j]'(by simpa using hj)).toNat : Int) := by
  rw [List.getElem_map]
/-- '[]byte(s)' -/
theorem run_conv_buf {src dst e : TypeId} (s : ByteArray) (hs : P.underlying src = some .string) (hd : P.underlying dst = some (.slice e)) (he : P.underlying e = some (.int .u8)) (hsz : s.size ≤ maxLen) (hB : B0 ≤ w.heap.size) :
    ∃ cap w', (convert src dst (.string s)).run P w = .ok (bufV w.heap.size s.size cap) w' ∧ Buf B0 w' w.heap.size s.size cap s.data.toList ∧ Below w.heap.size w w' := by
  refine ⟨_, _, run_bytes_of_string w src dst e s hs hd he, ?_, ?_⟩
  · have hge := grownCap_ge w s.size 0 e
    have hle := grownCap_le_maxLen w s.size 0 e hsz
    generalize grownCap w s.size 0 e = cap at *
    have hss : s.data.size = s.size := rfl
    have hrs : (bytesRow s cap).size = cap := by simp [bytesRow, hss]; omega
    have hh : ∀ fz, (w.drew.alloc (.cells (bytesRow s cap) e fz)).heap[w.heap.size]? = some (.cells (bytesRow s cap) e fz) := fun fz => by
      show (w.heap.push _)[w.heap.size]? = _
      simp
    refine ⟨by simp [hss], hge, hle, hB, by simp, fun j hj => ?_, fun j hj => ?_⟩
    · have hj2 : j < s.data.size := by simpa using hj
      simp only [World.cell?, hh, Option.bind_some]
      have := bytesRow_at s cap j hj2
      simpa using this
    · constructor
      · rw [cell_of_row _ _ _ _ _ _ (hh _)]
        have : j < (bytesRow s cap).size := by omega
        rw [Array.getElem?_eq_getElem this]; rfl
      · simp only [World.frozen?, hh, hrs]
        simp; omega
  · exact (bdrewN (Below.refl _ w) 1).alloc (Nat.le_refl _) _
/-- 'append(b, s...)' -/
theorem run_append_buf {t u ty e : TypeId} {i : TypeInfo} (ht : P.underlying t = some (.slice e)) (hu : P.underlying u = some .string) (hi : P.info? e = some i) (hz : i.zero = some (.int .u8 0)) (hsize : i.size = 1) (hby : i.bytes = 1)
    (h : Buf B0 w g len cap l) (s : ByteArray) (hb : len + s.size ≤ 1000000) (hB : B0 ≤ w.heap.size) :
    ∃ g' cap' w', (Builtin.append_ #[t, u] ty #[bufV g len cap, .string s]).run P w = .ok (bufV g' (len + s.size) cap') w' ∧ Buf B0 w' g' (len + s.size) cap' (l ++ s.data.toList) ∧ Below B0 w w' := by
  have hss : s.data.size = s.size := rfl
  have hsl : (Lib.strCells s).length = s.size := Lib.strCells_length s
  have hget : ∀ j (hj : j < (Lib.strCells s).length), (Lib.strCells s)[j] = .int .u8 ((s.data.toList[j]'(by rw [hsl] at hj; simpa [hss] using hj)).toNat : Int) := fun j hj => u8Cells_get s j hj
  have hlen : (l ++ s.data.toList).length = len + s.size := by simp [h.hl, hss]
  by_cases hroom : len + s.size ≤ cap
  · have hf := Lib.run_firstCells_string (P := P) w 1 s
    have hst := run_storeCells_cells (P := P) g len (Lib.strCells s) 0 w (fun j hj => by rw [hsl] at hj; exact (h.there (len + 0 + j) (by omega)).1) (fun j hj => by rw [hsl] at hj; exact (h.there (len + 0 + j) (by omega)).2) (Lib.strCells_oneCell s)
    refine ⟨g, cap, w.setCells g len (Lib.strCells s), ?_, ⟨hlen, hroom, h.hm, h.hb, by rw [cells_size]; exact h.lt, fun j hj => ?_, fun j hj => ?_⟩, below_setCells h.hb _ _ _ (Below.refl _ _)⟩
    · simp [bufV, Builtin.append_, run_underlying ht, run_underlying hu, sizeOf, typeInfo, hi, hsize, Builtin.lenOf, hroom, hf, Addr.add_lit, hst]
    · by_cases hj2 : j < len
      · rw [World.cell?_setCells_out g _ _ _ _ (fun _ _ => .inl (by dsimp only; exact hj2)), List.getElem_append_left (by rw [h.hl]; exact hj2)]
        exact h.cells j (by rw [h.hl]; exact hj2)
      · obtain ⟨k, rfl⟩ : ∃ k, j = len + k := ⟨j - len, by omega⟩
        have hk : k < (Lib.strCells s).length := by rw [hlen] at hj; omega
        rw [World.cell?_setCells_in g _ len w (fun j hj => by rw [hsl] at hj; exact (h.there (len + j) (by omega)).1) k hk, hget k hk]
        have hhl := h.hl
        have hx : (l ++ s.data.toList)[len + k]'hj = s.data.toList[k]'(by rw [hsl] at hk; simpa [hss] using hk) := by
          rw [List.getElem_append_right (by omega)]
          congr 1
          omega
        rw [hx]
    · constructor
      · by_cases hj2 : j < len ∨ len + s.size ≤ j
        · rw [World.cell?_setCells_out g _ _ _ _ (fun _ _ => by rw [hsl]; exact hj2)]
          exact (h.there j hj).1
        · obtain ⟨k, rfl⟩ : ∃ k, j = len + k := ⟨j - len, by omega⟩
          rw [World.cell?_setCells_in g _ len w (fun j hj => by rw [hsl] at hj; exact (h.there (len + j) (by omega)).1) k (by omega)]
          rfl
      · rw [World.frozen?_setCells]; exact (h.there j hj).2
  · have hfit : Builtin.nextslicecap (len + s.size) cap * i.bytes ≤ 281474976710656 := growslice_fits (by omega) (by rw [hby]; omega)
    have hr := Lib.run_append_grow_string (P := P) w t u ty e i _ ht hu hi hz ⟨g, 0, none⟩ len cap (l.map fun b => Value.int .u8 (b.toNat : Int)) (by rw [hsize]; simp [h.hl]) (fun j v hv => by
      have hj : j < l.length := by have := (List.getElem?_eq_some_iff.1 hv).1; simpa using this
      rw [add_zero', h.cells j hj]
      simp [hj] at hv
      rw [← hv]) s (by omega) (by omega) hfit
    have hge := grownCap_ge w (len + s.size) cap e
    have hle := grownCap_le_maxLen w (len + s.size) cap e (by unfold maxLen; omega)
    refine ⟨_, _, _, hr, ?_, (bdrewN (Below.refl _ w) 1).alloc hB _⟩
    generalize grownCap w (len + s.size) cap e = c at *
    have hh : ∀ cs : Array Value, (w.drew.alloc (.cells cs e)).heap[w.heap.size]? = some (.cells cs e (0, 0)) := fun cs => by
      show (w.heap.push _)[w.heap.size]? = _
      simp
    have hzs : (Builtin.zeroCells (Value.cells (.int .u8 0)) (c - (len + s.size))).size = c - (len + s.size) := by
      rw [size_zeroCells]; simp [Value.cells]
    refine ⟨hlen, hge, hle, hB, by simp, fun j hj => ?_, fun j hj => ?_⟩
    · rw [cell_of_row _ _ _ _ _ _ (hh _)]
      have e1 : (l.map fun b => Value.int .u8 (b.toNat : Int)).toArray ++ (Lib.strCells s).toArray = ((l ++ s.data.toList).map fun b => Value.int .u8 (b.toNat : Int)).toArray := by
        simp [Lib.strCells]
      rw [e1]
      rw [Array.getElem?_append_left (by simpa using hj), List.getElem?_toArray, List.getElem?_map, List.getElem?_eq_getElem hj]
      rfl
    · constructor
      · rw [cell_of_row _ _ _ _ _ _ (hh _)]
        have : j < ((l.map fun b => Value.int .u8 (b.toNat : Int)).toArray ++ (Lib.strCells s).toArray ++ Builtin.zeroCells (Value.cells (.int .u8 0)) (c - (len + s.size))).size := by
          simp only [Array.size_append, hzs, List.size_toArray, List.length_map, hsl, h.hl]; omega
        rw [Array.getElem?_eq_getElem this]; rfl
      · exact Lib.frozen_of_heap (hh _) _
/-- 'copy(b[o:], s)' -/
def splL (l : List UInt8) (o : Nat) (s : List UInt8) : List UInt8 := l.take o ++ s ++ l.drop (o + s.length)
theorem Buf.copied (h : Buf B0 w g len cap l) {o : Nat} (s : ByteArray) (ho : o + s.size ≤ len) :
    Buf B0 (w.setCells g o (s.data.toList.map fun x => Value.int .u8 (x.toNat : Int))) g len cap (splL l o s.data.toList) ∧ Below B0 w (w.setCells g o (s.data.toList.map fun x => Value.int .u8 (x.toNat : Int))) := by
  have hss : s.data.size = s.size := rfl
  have hsl : (s.data.toList.map fun x => Value.int .u8 (x.toNat : Int)).length = s.size := by simp [hss]
  have hhl := h.hl
  have hhc := h.hc
  have hlen : (splL l o s.data.toList).length = len := by simp [splL, hss]; omega
  refine ⟨⟨hlen, h.hc, h.hm, h.hb, by rw [cells_size]; exact h.lt, fun j hj => ?_, fun j hj => ?_⟩, below_setCells h.hb _ _ _ (Below.refl _ _)⟩
  · by_cases hj2 : j < o ∨ o + s.size ≤ j
    · rw [World.cell?_setCells_out g _ _ _ _ (fun _ _ => by rw [hsl]; exact hj2), h.cells j (by omega)]
      have hj' : j < (List.take o l ++ s.data.toList ++ List.drop (o + s.data.toList.length) l).length := hj
      have hx : l[j]'(by omega) = (splL l o s.data.toList)[j]'hj := by
        show _ = (List.take o l ++ s.data.toList ++ List.drop (o + s.data.toList.length) l)[j]'hj'
        rcases hj2 with hj2 | hj2
        · rw [List.getElem_append_left (by simp; omega), List.getElem_append_left (by simp; omega), List.getElem_take]
        · rw [List.getElem_append_right (by simp [hss]; omega), List.getElem_drop]
          congr 1
          simp [hss]; omega
      rw [hx]
    · obtain ⟨k, rfl⟩ : ∃ k, j = o + k := ⟨j - o, by omega⟩
      have hk : k < (s.data.toList.map fun x => Value.int .u8 (x.toNat : Int)).length := by omega
      rw [World.cell?_setCells_in g _ o w (fun j hj => by rw [hsl] at hj; exact (h.there (o + j) (by omega)).1) k hk, u8Cells_get s k hk]
      have hk2 : k < s.data.toList.length := by rw [hsl] at hk; simpa [hss] using hk
      have hj' : o + k < (List.take o l ++ s.data.toList ++ List.drop (o + s.data.toList.length) l).length := hj
      have hx : (splL l o s.data.toList)[o + k]'hj = s.data.toList[k]'hk2 := by
        show (List.take o l ++ s.data.toList ++ List.drop (o + s.data.toList.length) l)[o + k]'hj' = _
        rw [List.getElem_append_left (by simp; omega), List.getElem_append_right (by simp; omega)]
        congr 1
        simp; omega
      rw [hx]
  · constructor
    · by_cases hj2 : j < o ∨ o + s.size ≤ j
      · rw [World.cell?_setCells_out g _ _ _ _ (fun _ _ => by rw [hsl]; exact hj2)]
        exact (h.there j hj).1
      · obtain ⟨k, rfl⟩ : ∃ k, j = o + k := ⟨j - o, by omega⟩
        rw [World.cell?_setCells_in g _ o w (fun j hj => by rw [hsl] at hj; exact (h.there (o + j) (by omega)).1) k (by omega)]
        rfl
    · rw [World.frozen?_setCells]; exact (h.there j hj).2
/-- 'string(b)' -/
theorem run_back_buf {src dst e : TypeId} (hs : P.underlying src = some (.slice e)) (he : P.underlying e = some (.int .u8)) (hd : P.underlying dst = some .string) (h : Buf B0 w g len cap l) :
    (convert src dst (bufV g len cap)).run P w = .ok (.string ⟨l.toArray⟩) w := by
  have := run_convert_bytes_back (P := P) w src dst e ⟨g, 0, none⟩ cap l hs he hd (fun j hj => by rw [add_zero']; exact h.cells j hj)
  rw [h.hl] at this
  exact this
theorem conv_all {src dst e : TypeId} (B0 : Nat) (s : ByteArray) (hs : P.underlying src = some .string) (hd : P.underlying dst = some (.slice e)) (he : P.underlying e = some (.int .u8)) (hsz : s.size ≤ maxLen) :
    ∃ (cF : World → Nat) (wF : World → World), (∀ W, (convert src dst (.string s)).run P W = .ok (.slice (some ⟨W.heap.size, 0, none⟩) s.size (cF W)) (wF W)) ∧ Hid (∀ W, B0 ≤ W.heap.size → Buf B0 (wF W) W.heap.size s.size (cF W) s.data.toList ∧ Below W.heap.size W (wF W)) := by
  refine ⟨fun W => grownCap W s.size 0 e, fun W => _, fun W => run_bytes_of_string W src dst e s hs hd he, Lib.hid fun W hB => ?_⟩
  obtain ⟨cap, w', hr, h2, h3⟩ := run_conv_buf (P := P) (w := W) s hs hd he hsz hB
  rw [run_bytes_of_string W src dst e s hs hd he] at hr
  injection hr with e1 e2
  injection e1 with _ _ e3
  subst e3; subst e2
  exact ⟨h2, h3⟩
theorem step_conv_buf {ops : Array Oper} {o : Oper} {a : Act} {K : Act → World → Prop} {Q : Exit → Act → World → Prop} {E : Prop} (hgd : o.guard = none) (x : Operand) (src dst : TypeId) (ho : o.op = .convert src dst x)
    (e : TypeId) (s : ByteArray) (hx : a.eval x = .string s) (hs : P.underlying src = some .string) (hd : P.underlying dst = some (.slice e)) (he : P.underlying e = some (.int .u8)) (hsz : s.size ≤ maxLen) (hB : B0 ≤ w.heap.size)
    (h : ∀ cap w', Buf B0 w' w.heap.size s.size cap s.data.toList → Below w.heap.size w w' → K (a.put o.dst (bufV w.heap.size s.size cap)) w') : if Region.wanted o (yielded ops a.tmps) = true then Oper.wp P o a w K Q else E := by
  have hw : Region.wanted o (yielded ops a.tmps) = true := by simp [Region.wanted, hgd]
  rw [if_pos hw]
  obtain ⟨cap, w', hrun, h2, h3⟩ := run_conv_buf (P := P) (B0 := B0) (w := w) s hs hd he hsz hB
  unfold Oper.wp execOp
  simp only [ho, hx, Sem.run_bind, Sem.run_pure, hrun, Result.andThen_ok]
  exact h cap w' h2 h3
theorem step_append_buf {ops : Array Oper} {o : Oper} {a : Act} {K : Act → World → Prop} {Q : Exit → Act → World → Prop} {E : Prop} (hgd : o.guard = none) (d : Option Nat) (hdst : o.dst = d) (x y : Operand) (t u : TypeId)
    (ho : o.op = .call { callee := .builtin .append, args := #[x, y], argTypes := #[t, u] }) (e : TypeId) (i : TypeInfo) (s : ByteArray) (hx : a.eval x = bufV g len cap) (hy : a.eval y = .string s)
    (ht : P.underlying t = some (.slice e)) (hu : P.underlying u = some .string) (hi : P.info? e = some i) (hz : i.zero = some (.int .u8 0)) (hsize : i.size = 1) (hby : i.bytes = 1)
    (hBf : Buf B0 w g len cap l) (hb : len + s.size ≤ 1000000) (hB : B0 ≤ w.heap.size)
    (h : ∀ g' cap' w', Buf B0 w' g' (len + s.size) cap' (l ++ s.data.toList) → Below B0 w w' → K (a.put d (.slice (some ⟨g', 0, none⟩) (len + s.size) cap')) w') : if Region.wanted o (yielded ops a.tmps) = true then Oper.wp P o a w K Q else E := by
  subst hdst
  have hw : Region.wanted o (yielded ops a.tmps) = true := by simp [Region.wanted, hgd]
  rw [if_pos hw]
  obtain ⟨g', cap', w', hrun, h2, h3⟩ := run_append_buf (P := P) (ty := o.type) ht hu hi hz hsize hby hBf s hb hB
  unfold Oper.wp execOp
  simp only [ho, resolve, invoke, builtin, Sem.run_bind, Sem.run_pure, Result.andThen_ok, List.map_toArray, List.map_cons, List.map_nil, hx, hy, hrun]
  exact h g' cap' w' h2 h3
theorem step_copy_buf {ops : Array Oper} {o : Oper} {a : Act} {K : Act → World → Prop} {Q : Exit → Act → World → Prop} {E : Prop} (hgd : o.guard = none) (d : Option Nat) (hdst : o.dst = d) (x y : Operand) (t u : TypeId)
    (ho : o.op = .call { callee := .builtin .copy, args := #[x, y], argTypes := #[t, u] }) (e : TypeId) (s : ByteArray) (k dl dc : Nat) (oA : Option Addr) (hA : oA = some ⟨g, k, none⟩ ∨ (s.size = 0 ∧ oA = some ⟨g, 0, none⟩)) (hx : a.eval x = .slice oA dl dc) (hy : a.eval y = .string s)
    (ht : P.underlying t = some (.slice e)) (hz : ∀ w, (Go.sizeOf e).run P w = .ok 1 w) (hBf : Buf B0 w g len cap l) (hk : k + s.size ≤ len) (hdl : s.size ≤ dl)
    (h : ∀ w', Buf B0 w' g len cap (splL l k s.data.toList) → Below B0 w w' → K (a.put d (goInt s.size)) w') : if Region.wanted o (yielded ops a.tmps) = true then Oper.wp P o a w K Q else E := by
  subst hdst
  have hc := hBf.hc
  rcases hA with rfl | ⟨h0, rfl⟩
  · obtain ⟨h1, h2⟩ := hBf.copied s hk
    exact step_copy_string hgd x y t u ho e ht hz g k dl dc hx s hy hdl (fun j hj => (hBf.there (k + j) (by omega)).1) (fun j hj => (hBf.there (k + j) (by omega)).2) (h _ h1 h2)
  · obtain ⟨h1, h2⟩ := hBf.copied (o := 0) s (by omega)
    have hn : s.data.toList = [] := List.eq_nil_of_length_eq_zero (by have : s.data.size = s.size := rfl; simp [this, h0])
    have he : splL l 0 s.data.toList = splL l k s.data.toList := by rw [hn]; simp [splL]
    rw [he] at h1
    exact step_copy_string hgd x y t u ho e ht hz g 0 dl dc hx s hy hdl (fun j hj => (hBf.there (0 + j) (by omega)).1) (fun j hj => (hBf.there (0 + j) (by omega)).2) (h _ h1 h2)
end
end Go.Proofs.YtglglbbjacgbdaaDoor
