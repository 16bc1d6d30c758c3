import Derived.Test.YtikblgnpabonjaaBaK
namespace Go.Proofs.Ytikblgnpabonjaa
open Go.RowKit
set_option linter.unusedVariables false
attribute [local go_sem] b_max2 b_min2 b_max b_min

/-! ### a text of at most so many bytes -/
set_option maxRecDepth 100000 in
set_option maxHeartbeats 400000 in
theorem short_any (s : ByteArray) (n : Nat) (w : World) (hn : n ≤ 1000) : Calls Try.prog 12 #[.string s, .int .i64 n] w fun e w' => (∃ s' : ByteArray, e = .returned (.string s') ∧ s'.size ≤ n) ∧ w = w' := by
  by_cases hlt : n < s.size
  · go_enter Try.func12, Try.ntmps12
    go_wp2_with fail
    go_ret
    exact ⟨⟨_, rfl, by simp; omega⟩, rfl⟩
  · go_enter Try.func12, Try.ntmps12
    go_wp2_with fail
    go_ret
    exact ⟨⟨_, rfl, by omega⟩, rfl⟩

/-! ### a network and a row beside it -/
structure LR (B w : World) (g : Nat) (F : Nat → Prop) (Ls : List (List ByteArray)) (ty : TypeId) (sz : Nat) (v : Value) (n : Nat) (xs : List Value) : Prop where
  ls : LS B w g F Ls
  own : w.ownsRow B.heap.size ty sz v n xs
  dis : ∀ k, v.ownBlock = some k → ¬ F k
section
variable {B w w' : World} {g : Nat} {F : Nat → Prop} {Ls Ls' : List (List ByteArray)} {ty : TypeId} {sz n n' : Nat} {v v' : Value} {xs xs' : List Value}
theorem LR.nil (h : LS B w g F Ls) (ty : TypeId) (sz : Nat) : LR B w g F Ls ty sz (.slice none 0 0) 0 [] := ⟨h, World.ownsRow_nil _ _ _ _, fun k hk => by cases hk⟩
theorem LR.net (h : LR B w g F Ls ty sz v n xs) (h1 : LS B w' g (Fup F w w') Ls') (hf : Fr F w w') : LR B w' g (Fup F w w') Ls' ty sz v n xs :=
  ⟨h1, hf.own h.own h.dis, fun k hk hF => by
    rcases hF with hF | ⟨hF, _⟩
    · exact h.dis k hk hF
    · have := (World.ownsRow.lt h.own k hk).2; omega⟩
theorem LR.low (h : LR B w g F Ls ty sz v n xs) (hb : Below w.heap.size w w') : LR B w' g F Ls ty sz v n xs :=
  ⟨h.ls.low hb, (Fr.of_below hb fun _ => False).own h.own (fun _ _ h => h), h.dis⟩
theorem LR.alloc (h : LR B w g F Ls ty sz v n xs) (o : Obj) : LR B (w.alloc o) g F Ls ty sz v n xs := h.low ((Below.refl _ _).alloc (Nat.le_refl _) o)
theorem LR.push (h : LR B w g F Ls ty sz v n xs) (ho : w'.ownsRow B.heap.size ty sz v' n' xs') (hg : w.grownBy w' v.ownBlock) (hb : v'.ownBlock = v.ownBlock ∨ v'.ownBlock = some w.heap.size) :
    LR B w' g F Ls ty sz v' n' xs' :=
  ⟨⟨h.ls.net.keep (Fr.of_grown hg) (fun k hk => h.dis k hk), (Fr.of_grown hg).below h.ls.b (fun k hk => (World.ownsRow.lt h.own k hk).1), h.ls.l⟩, ho, fun k hk hF => by
    rcases hb with e | e
    · exact h.dis k (e ▸ hk) hF
    · rw [e] at hk; obtain rfl := Option.some.inj hk; have := h.ls.net.fb _ hF; omega⟩
end

/-! ### the calls handed in -/
def opv (K : Nat → Nat → Int) (S : Nat → ByteArray) (i : Nat) : List Value := [.int .i64 (K i 0), .int .i64 (K i 1), .int .i64 (K i 2), .int .i64 (K i 3), .string (S i)]
def opsC (K : Nat → Nat → Int) (S : Nat → ByteArray) (n : Nat) : List Value := (List.range n).flatMap (opv K S)
theorem ops_at {B w : World} {A : Option Addr} {len : Nat} {K : Nat → Nat → Int} {S : Nat → ByteArray} (h : Reads B B.heap.size 5 A len (opsC K S len)) (hb : Below B.heap.size B w) {i : Nat} (hi : i < len) :
    ∃ ad, A = some ad ∧ w.cell? (ad.add (i * 5)) = some (.int .i64 (K i 0)) ∧ w.cell? ⟨(ad.add (i * 5)).block, (ad.add (i * 5)).off + 1, none⟩ = some (.int .i64 (K i 1)) ∧ w.cell? ⟨(ad.add (i * 5)).block, (ad.add (i * 5)).off + 2, none⟩ = some (.int .i64 (K i 2)) ∧
      w.cell? ⟨(ad.add (i * 5)).block, (ad.add (i * 5)).off + 3, none⟩ = some (.int .i64 (K i 3)) ∧ w.cell? ⟨(ad.add (i * 5)).block, (ad.add (i * 5)).off + 4, none⟩ = some (.string (S i)) := by
  have hf := fun j hj => flat_get (opv K S) 5 (fun _ => rfl) (List.range len) i j (by simpa using hi) hj
  simp only [List.getElem_range] at hf
  obtain ⟨ad, e, hadb, hcs⟩ := h.2 (by omega)
  have hc : ∀ j u, j < 5 → (opv K S i)[j]? = some u → w.cell? (ad.add (i * 5 + j)) = some u := by
    intro j u hj hu
    rw [hb.cell (by rw [block_of_add]; exact hadb)]
    exact hcs _ _ ((hf j hj).trans hu)
  refine ⟨ad, e, hc 0 _ (by omega) rfl, ?_, ?_, ?_, ?_⟩
  · rw [← add_field _ _ 1 (by omega)]; exact hc 1 _ (by omega) rfl
  · rw [← add_field _ _ 2 (by omega)]; exact hc 2 _ (by omega) rfl
  · rw [← add_field _ _ 3 (by omega)]; exact hc 3 _ (by omega) rfl
  · rw [← add_field _ _ 4 (by omega)]; exact hc 4 _ (by omega) rfl
section
open Go.ChangeShapes Go.WideShapes Go.Deep
variable {H : Type} {enc : TypeId × Value → H} {held : Bool}
theorem open_op_rows {w : World} {t e : TypeId} {fs : Array Field} {fuel : Nat} {A : Option Addr} {len cap : Nat} {x : DataW H × List MemPlace} (ht : Try.prog.underlying t = some (.slice e)) (he : Try.prog.underlying e = some (.struct fs))
    (hone : oneCellFields Try.prog fs = true) (hC : Try.prog.cellsOf e = fs.size) (h5 : fs.size = 5) (hi4 : ∀ (j : Nat) (f : Field), j < 4 → fs[j]? = some f → Try.prog.underlying f.type = some (.int .i64))
    (hs4 : ∀ (f : Field), fs[4]? = some f → Try.prog.underlying f.type = some .string)
    (h : DataW.trod enc Try.prog w 0 (fun _ => true) held fuel t [.slice A len cap] = some x) :
    ∃ (K : Nat → Nat → Int) (S : Nat → ByteArray), (∀ i j, -9223372036854775808 ≤ K i j ∧ K i j ≤ 9223372036854775807) ∧ Reads w w.heap.size 5 A len (opsC K S len) := by
  obtain ⟨V, hr, hV⟩ := open_rows ht he hone hC (by omega) h
  rw [h5] at hr
  have hval : ∀ i j, i < len → j < 4 → ∃ n : Int, V i j = .int .i64 n ∧ -9223372036854775808 ≤ n ∧ n ≤ 9223372036854775807 := by
    intro i j hi hj
    obtain ⟨n, y, ht⟩ := hV i hi j (fs[j]'(by omega)) (by simp [show j < fs.size by omega])
    obtain ⟨z, e1, _, hw⟩ := DataW.trod_int (hi4 j (fs[j]'(by omega)) hj (by simp [show j < fs.size by omega])) ht
    exact ⟨z, by simpa using e1, wf64 hw⟩
  have hstr : ∀ i, i < len → ∃ s : ByteArray, V i 4 = .string s := by
    intro i hi
    obtain ⟨n, y, ht⟩ := hV i hi 4 (fs[4]'(by omega)) (by simp [show 4 < fs.size by omega])
    obtain ⟨s, e1, _, _⟩ := DataW.trod_string (hs4 (fs[4]'(by omega)) (by simp [show 4 < fs.size by omega])) ht
    exact ⟨s, by simpa using e1⟩
  refine ⟨fun i j => if i < len ∧ j < 4 then intOf (V i j) else 0, fun i => match V i 4 with | .string s => s | _ => ⟨#[]⟩, ?_, ?_⟩
  · intro i j
    simp only []
    split
    · rename_i hij
      obtain ⟨n, e, hn⟩ := hval i j hij.1 hij.2
      rw [e]; exact hn
    · omega
  · have e : opsC (fun i j => if i < len ∧ j < 4 then intOf (V i j) else 0) (fun i => match V i 4 with | .string s => s | _ => ⟨#[]⟩) len = (List.range len).flatMap fun i => (List.range 5).map (V i) := by
      unfold opsC
      rw [List.flatMap_def, List.flatMap_def]
      congr 1
      apply List.map_congr_left
      intro i hi
      have hi : i < len := by simpa using hi
      obtain ⟨n0, e0, _⟩ := hval i 0 hi (by omega)
      obtain ⟨n1, e1, _⟩ := hval i 1 hi (by omega)
      obtain ⟨n2, e2, _⟩ := hval i 2 hi (by omega)
      obtain ⟨n3, e3, _⟩ := hval i 3 hi (by omega)
      obtain ⟨s, e4⟩ := hstr i hi
      simp [opv, List.range_succ, e0, e1, e2, e3, e4, intOf, hi]
    rw [e]; exact hr
end
end Go.Proofs.Ytikblgnpabonjaa
