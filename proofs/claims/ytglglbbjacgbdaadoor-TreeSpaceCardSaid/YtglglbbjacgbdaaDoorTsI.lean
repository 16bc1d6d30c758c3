import Derived.Test.YtglglbbjacgbdaaDoorTsF
import Derived.Test.YtglglbbjacgbdaaDoorShC
namespace Go.Proofs.YtglglbbjacgbdaaDoor
open Go.RowKit
set_option linter.unusedVariables false
set_option linter.unusedSimpArgs false
attribute [local go_sem] b_max2 b_min2 b_max b_min

/-! ### tell: the lists of a thing; what is summed over them -/
def idsT (g : Nat) : Option Nat → List Id
  | some b => [(b, 0)]
  | none => [(g, 1), (g, 5), (g, 9), (g, 13)]
def recs (S : TS) (L : List Id) : List NR := L.map fun id => (S.nd id).getD ⟨0, 0, ⟨#[]⟩, []⟩
def namesR (r : NR) : List ByteArray := r.list.map (·.1)
def namesT (rs : List NR) : List ByteArray := rs.flatMap namesR
def sizeT (rs : List NR) : Int := (rs.map sizeN).sum
def klStep (acc : Int × Int) (r : NR) : Int × Int := if r.kind = 1 then (1, r.links) else acc
def klT (rs : List NR) : Int × Int := rs.foldl klStep (2, 1)
theorem recs_length (S : TS) (L : List Id) : (recs S L).length = L.length := by simp [recs]
theorem recs_at {S : TS} {L : List Id} {i : Nat} {r : NR} (hi : i < L.length) (h : S.nd (L.getD i (0, 0)) = some r) (hj : i < (recs S L).length) : (recs S L)[i]'hj = r := by
  have h1 : (recs S L)[i]? = some r := by
    unfold recs
    rw [List.getElem?_map, List.getElem?_eq_getElem hi]
    rw [List.getD_eq_getElem?_getD, List.getElem?_eq_getElem hi] at h
    change S.nd L[i] = some r at h
    rw [Option.map_some, h]; rfl
  rw [List.getElem?_eq_getElem hj] at h1
  exact Option.some.inj h1
theorem namesT_snoc (rs : List NR) (r : NR) : namesT (rs ++ [r]) = namesT rs ++ namesR r := by simp [namesT]
theorem sizeT_snoc (rs : List NR) (r : NR) : sizeT (rs ++ [r]) = sizeT rs + sizeN r := by simp [sizeT]
theorem klT_snoc (rs : List NR) (r : NR) : klT (rs ++ [r]) = klStep (klT rs) r := by simp [klT]
def ptrs (L : List Id) : List Value := L.map fun id => .pointer (some ⟨id.1, id.2, none⟩)
theorem ptr_info : (Tryd.prog.info? 54).map (fun i => (i.zero, i.size, i.bytes)) = some (some (.pointer none), 1, 8) := by kernel_rfl
def strs (l : List ByteArray) : List Value := l.map Value.string
theorem ptrs_at {w : World} {B : Nat} {A : Option Addr} {L : List Id} {n : Nat} (hr : Reads w B 1 A n (ptrs L)) (hn : L.length = n) {i : Nat} (hi : i < n) :
    ∃ ad, A = some ad ∧ ad.block < B ∧ w.cell? (ad.add i) = some (.pointer (some ⟨(L.getD i (0, 0)).1, (L.getD i (0, 0)).2, none⟩)) := by
  obtain ⟨ad, u, e, hb, hx, hc⟩ := hr.elem (k := i) (i := 0) hi (by omega)
  refine ⟨ad, e, hb, ?_⟩
  simp only [Nat.mul_one, Nat.add_zero] at hx hc
  rw [hc, ← hx, ptrs, List.getElem?_map, List.getElem?_eq_getElem (by omega), List.getD_eq_getElem?_getD, List.getElem?_eq_getElem (by omega)]
  rfl
theorem Reads.fr9 {w w' : World} {B size n B9 : Nat} {A : Option Addr} {xs : List Value} (h : Reads w B size A n xs) (hf : Fr (fun k => k = B9) w w') (hB : B ≤ B9) (hw : B ≤ w.heap.size) : Reads w' B size A n xs :=
  h.keep fun p hp => World.cell?_of_block (hf.block p.block (by omega) (by omega))
theorem sumInt_bd (l : List NR) (h : ∀ r ∈ l, OkN r) : 0 ≤ sizeT l ∧ sizeT l ≤ 212000 * l.length ∧ (namesT l).length ≤ 2000 * l.length := by
  induction l with
  | nil => simp [sizeT, namesT]
  | cons a l ih =>
    have h1 := ih (fun c hc => h c (by simp [hc]))
    have h2 := sizeN_bd (h a (by simp))
    have h3 := (h a (by simp)).len
    simp only [sizeT, namesT, List.map_cons, List.sum_cons, List.length_cons, List.flatMap_cons, List.length_append, namesR, List.length_map] at *
    omega
section
variable {w : World} {g : Nat} {S : TS} {vs : Id → Value}
/-- tell's own reply, while it is summed: names in a row v, made since base -/
structure TlJ (wx w' : World) (B9 : Nat) (nm : List ByteArray) (kk ll sz : Int) (A : Option Addr) (c : Nat) : Prop where
  fr : Fr (fun k => k = B9) wx w'
  k9 : Blk w' B9 29 #[.int .i64 0, .string ⟨#[]⟩, .slice A nm.length c, .int .i64 kk, .int .i64 ll, .int .i64 sz, .int .i64 0]
  row : w'.ownsRow wx.heap.size 9 1 (.slice A nm.length c) nm.length (strs nm)
section
variable {wx w' w'' : World} {B9 : Nat} {nm : List ByteArray} {kk ll sz : Int} {A : Option Addr} {c : Nat}
theorem TlJ.low (h : TlJ wx w' B9 nm kk ll sz A c) (hb : Below w'.heap.size w' w'') : TlJ wx w'' B9 nm kk ll sz A c :=
  ⟨h.fr.trans (Fr.of_below hb _), Fr.blk_low hb h.k9, Fr.own_low hb h.row⟩
theorem TlJ.row_ne (h : TlJ wx w' B9 nm kk ll sz A c) (h9 : B9 < wx.heap.size) : ∀ k, (Value.slice A nm.length c).ownBlock = some k → k ≠ B9 := fun k hk e => by have := (h.row.lt k hk).1; omega
theorem TlJ.set (h : TlJ wx w' B9 nm kk ll sz A c) (h9 : B9 < wx.heap.size) (i : Nat) (u : Value) (kk2 ll2 sz2 : Int) (he : (#[.int .i64 0, .string ⟨#[]⟩, .slice A nm.length c, .int .i64 kk, .int .i64 ll, .int .i64 sz, .int .i64 0] : Array Value).setIfInBounds i u = #[.int .i64 0, .string ⟨#[]⟩, .slice A nm.length c, .int .i64 kk2, .int .i64 ll2, .int .i64 sz2, .int .i64 0]) :
    TlJ wx (w'.setCell ⟨B9, i, none⟩ u) B9 nm kk2 ll2 sz2 A c :=
  ⟨h.fr.trans (Fr.setCell _ _ _ _ rfl), by have := h.k9.set_ i u; rwa [he] at this, (Fr.setCell (F := fun k => k = B9) w' B9 i u rfl).own h.row (fun k hk e => h.row_ne h9 k hk e)⟩
theorem TlJ.cells (h : TlJ wx w' B9 nm kk ll sz A c) : w'.cell? ⟨B9, 0, none⟩ = some (.int .i64 0) ∧ w'.cell? ⟨B9, 1, none⟩ = some (.string ⟨#[]⟩) ∧ w'.cell? ⟨B9, 2, none⟩ = some (.slice A nm.length c) ∧ w'.cell? ⟨B9, 3, none⟩ = some (.int .i64 kk) ∧
    w'.cell? ⟨B9, 4, none⟩ = some (.int .i64 ll) ∧ w'.cell? ⟨B9, 5, none⟩ = some (.int .i64 sz) ∧ w'.cell? ⟨B9, 6, none⟩ = some (.int .i64 0) ∧ ∀ j, w'.frozen? ⟨B9, j, none⟩ = false := by
  refine ⟨?_, ?_, ?_, ?_, ?_, ?_, ?_, fun j => h.k9.frozen j⟩ <;> (rw [h.k9.cell]; rfl)
/-- a name more -/
theorem TlJ.more (h : TlJ wx w' B9 nm kk ll sz A c) (h9 : B9 < wx.heap.size) (o1 o2 : Obj) (s : ByteArray) {v : Value} (hrow : w''.ownsRow wx.heap.size 9 1 v (nm.length + 1) (strs nm ++ [.string s])) (hg : ((w'.alloc o1).alloc o2).grownBy w'' (Value.slice A nm.length c).ownBlock) :
    ∃ A2 c2, v = .slice A2 (nm ++ [s]).length c2 ∧ w''.cell? ⟨B9, 2, none⟩ = some (.slice A nm.length c) ∧ w''.frozen? ⟨B9, 2, none⟩ = false ∧ TlJ wx (w''.setCell ⟨B9, 2, none⟩ (.slice A2 (nm ++ [s]).length c2)) B9 (nm ++ [s]) kk ll sz A2 c2 := by
  obtain ⟨A2, c2, rfl, hc2, _⟩ := Reads.of_own hrow
  have hl : (nm ++ [s]).length = nm.length + 1 := by simp
  rw [← hl] at hrow ⊢
  have hs : strs nm ++ [.string s] = strs (nm ++ [s]) := by simp [strs]
  rw [hs] at hrow
  have hne := h.row_ne h9
  have hf2 : Fr (fun k => k = B9 ∨ wx.heap.size ≤ k) w' w'' := ((Fr.alloc _ w' o1).trans (Fr.alloc _ _ o2)).trans ((Fr.of_grown hg).mono fun k hk _ => .inr (h.row.lt k hk).1)
  have hf3 : Fr (fun k => k = B9) wx w'' := ((h.fr.mono fun k hk _ => .inl hk).trans hf2).mono fun k hk hlt => by
    rcases hk with hk | hk
    · exact hk
    · omega
  have k9 : Blk w'' B9 29 _ := (((h.k9.alloc o1).alloc o2).grown hg (fun e => hne _ e.symm rfl))
  have k92 := k9.set_ 2 (.slice A2 (nm ++ [s]).length c2)
  refine ⟨A2, c2, rfl, by rw [k9.cell]; rfl, k9.frozen 2, ?_⟩
  exact ⟨hf3.trans (Fr.setCell _ _ _ _ rfl), k92, (Fr.setCell (F := fun k => k = B9) w'' B9 2 _ rfl).own hrow (fun k hk e => by have := (hrow.lt k hk).1; omega)⟩
end
theorem At.fr9 {wx w' : World} {ps : Array Value} {B9 : Nat} (H : IsT w g S vs) (h : At w wx g S vs ps) (hf : Fr (fun k => k = B9) wx w') (h9 : w.heap.size + 1 < B9) : At w w' g S vs ps :=
  have b := hf.below h.b (fun k e => by omega)
  ⟨b, hf.blk h.r (by omega), hf.blk h.p (by omega), H.low b⟩
theorem kids_reads {w' : World} {A : Option Addr} {n c : Nat} {xs : List Value} (h : w'.ownsRow 0 72 2 (.slice A n c) n xs) : Reads w' w'.heap.size 2 A n xs := by
  obtain ⟨A', c', e, _, hr⟩ := Reads.of_own h
  injection e with e1 e2 e3
  subst e1
  exact hr
theorem names_take (r : NR) (j : Nat) (hj : j < r.list.length) : (namesR r).take (j + 1) = (namesR r).take j ++ [(r.list.getD j (⟨#[]⟩, 0)).1] := by
  have hl : j < (namesR r).length := by unfold namesR; rw [List.length_map]; exact hj
  rw [List.take_succ_eq_append_getElem hl]
  congr 2
  rw [getD_get _ _ _ hj]
  exact List.getElem_map _
theorem store9 {w' : World} {B9 : Nat} {cs : Array Value} (h : Blk w' B9 29 cs) (i : Nat) (u : Value) (he : cs.setIfInBounds i u = cs) : w'.setCell ⟨B9, i, none⟩ u = w' := blk_same h he
set_option maxRecDepth 100000 in
set_option maxHeartbeats 4000000 in
theorem tell_err (h : IsT w g S vs) (ho : OkT S g) (hkd : KdT S) (c : CallV) (vf vt : Value) (l1 : List ByteArray) (hl1 : l1.length ≤ 100000) (hsz1 : ∀ s ∈ l1, s.size ≤ 1000000) (hv1 : NmV w vf l1) (hvt : ∃ A n c, vt = .slice A n c) (h1 : (walkT S g none l1).2 ≠ 0) :
    Calls Tryd.prog 15 #[.pointer (some ⟨g, 0, none⟩), planV c vf vt] w fun e w' => e = .returned (failV (walkT S g none l1).2) ∧ Below w.heap.size w w' := by
  obtain ⟨Af, nf, cf, rfl, hnf, hcf, hrf⟩ := _root_.id hv1
  obtain ⟨At_, nt, ct, rfl⟩ := hvt
  obtain ⟨w0, hw0, b0, p0, r0⟩ := open_w w (planA c Af nf cf At_ nt ct) rep0
  have T0 : Hid (At w w0 g S vs (planA c Af nf cf At_ nt ct)) := Lib.hid ⟨b0, r0, p0, h.low b0⟩
  have H := Lib.hid h
  unfold planV
  obtain ⟨A0, n0, k0, e0, hn0, hc0, hr0⟩ := hv1.low b0
  cases e0
  have hwk := walk_any T0.out.t ho Af nf cf l1 hn0 (by omega) hsz1 hr0
  have c6 : w0.cell? ⟨w.heap.size, 6, none⟩ = some (.slice Af nf cf) := by rw [p0.cell]; rfl
  unfold planA rep0 at hw0
  clear hr0 hrf b0 p0 r0 h hv1
  generalize (walkT S g none l1).2 = er at *
  obtain ⟨pt, hpt⟩ : ∃ pt, ptrC (walkT S g none l1).1 = .pointer pt := ⟨_, rfl⟩
  rw [hpt] at hwk
  have hf := fun W => fails_any er W
  unfold failV repV failR at hf
  clear hpt
  go_enter Tryd.func15, Tryd.ntmps15
  go_wp2_with fail
  refine hwk.mono ?_
  rintro e w1 ⟨rfl, b1⟩
  have T1 := Lib.hid (T0.out.go b1)
  obtain ⟨w2, hw2, b2, pb⟩ := open1 w1 #[.pointer pt] 65
  have T2 := Lib.hid (T1.out.go b2)
  have hlt1 : w.heap.size < w1.heap.size := T1.out.p.lt
  have hlt2 : w.heap.size + 1 < w1.heap.size := T1.out.r.lt
  clear hw0 c6 hwk b1 b2
  have c5 : w2.cell? ⟨w1.heap.size, 0, none⟩ = some (.pointer pt) := by rw [pb.cell]; rfl
  clear pb
  go_wp2_with fail
  refine (hf w2).mono ?_
  rintro e wz ⟨rfl, bz⟩
  clear hf
  have TZ := Lib.hid (T2.out.go bz)
  obtain ⟨W, hst, hfr, hW, q0, q1, q2, q3, q4, q5, q6⟩ := st7 TZ.out.r (failR er) none 0 0
  obtain ⟨d0, d1, d2, d3, d4, d5, d6, hfz⟩ := rep0_at TZ.out.r
  dsimp only [failR] at hst q0 q1 q2 q3 q4 q5 q6
  have HF := Lib.hid hfr
  clear hfr hW bz
  go_wp2_with fail
  refine bodyPost_ret (v := failV er) (by simp [results, Tryd.results15, go_sem, q0, q1, q2, q3, q4, q5, q6, failV, repV, failR]; try rfl) rfl ?_
  exact ⟨rfl, HF.out.below TZ.out.b (fun k e => by omega)⟩
set_option maxRecDepth 100000 in
set_option maxHeartbeats 4000000 in
theorem tell_node (h : IsT w g S vs) (ho : OkT S g) (hkd : KdT S) (c : CallV) (vf vt : Value) (l1 : List ByteArray) (hl1 : l1.length ≤ 100000) (hsz1 : ∀ s ∈ l1, s.size ≤ 1000000) (hv1 : NmV w vf l1) (hvt : ∃ A n c, vt = .slice A n c) (b : Nat) (rb : NR) (h1 : walkT S g none l1 = (some b, 0)) (hrd : S.nd (b, 0) = some rb) (hop : (c.op == 10) = true) :
    Calls Tryd.prog 15 #[.pointer (some ⟨g, 0, none⟩), planV c vf vt] w fun e w' => e = .returned (repV ⟨0, ⟨#[]⟩, (klT [rb]).1, (klT [rb]).2, sizeN rb, 0⟩ (.slice none 0 0)) ∧ Below w.heap.size w w' := by
  obtain ⟨Af, nf, cf, rfl, hnf, hcf, hrf⟩ := _root_.id hv1
  obtain ⟨At_, nt, ct, rfl⟩ := hvt
  obtain ⟨w0, hw0, b0, p0, r0⟩ := open_w w (planA c Af nf cf At_ nt ct) rep0
  have T0 : Hid (At w w0 g S vs (planA c Af nf cf At_ nt ct)) := Lib.hid ⟨b0, r0, p0, h.low b0⟩
  have H := Lib.hid h
  unfold planV
  obtain ⟨A0, n0, k0, e0, hn0, hc0, hr0⟩ := hv1.low b0
  cases e0
  have hwk := walk_any T0.out.t ho Af nf cf l1 hn0 (by omega) hsz1 hr0
  have c6 : w0.cell? ⟨w.heap.size, 6, none⟩ = some (.slice Af nf cf) := by rw [p0.cell]; rfl
  unfold planA rep0 at hw0
  clear hr0 hrf b0 p0 r0 h hv1
  rw [h1] at hwk
  have hptr : ptrC (some b) = .pointer (some ⟨b, 0, none⟩) := rfl
  dsimp only at hwk
  rw [hptr] at hwk
  clear h1
  go_enter Tryd.func15, Tryd.ntmps15
  go_wp2_with fail
  refine hwk.mono ?_
  rintro e w1 ⟨rfl, b1⟩
  have T1 := Lib.hid (T0.out.go b1)
  obtain ⟨w2, hw2, b2, pb⟩ := open1 w1 #[.pointer (some ⟨b, 0, none⟩)] 65
  have T2 := Lib.hid (T1.out.go b2)
  have hlt1 : w.heap.size < w1.heap.size := T1.out.p.lt
  have hlt2 : w.heap.size + 1 < w1.heap.size := T1.out.r.lt
  clear hw0 c6 hwk b1 b2
  have c5 : w2.cell? ⟨w1.heap.size, 0, none⟩ = some (.pointer (some ⟨b, 0, none⟩)) := by rw [pb.cell]; rfl
  obtain ⟨i0, hi, hz0, hz1, hz2⟩ : ∃ i0, Tryd.prog.info? 54 = some i0 ∧ i0.zero = some (.pointer none) ∧ i0.size = 1 ∧ i0.bytes = 8 := by
    have := ptr_info
    cases hh : Tryd.prog.info? 54 with
    | none => rw [hh] at this; cases this
    | some i => rw [hh] at this; simp at this; exact ⟨i, rfl, this.1, this.2.1, this.2.2⟩
  go_wp2_with (at_builtin; refine wpList_append_any _ rfl (.tmp 28) (.tmp 31) 70 rfl 0 54 i0 _ 1 8 Tryd.underlying70 hi hz0 hz1 hz2 rfl (by decide) (.slice none 0 0) 0 [] rfl (World.ownsRow_nil _ _ _ _) (w2.heap.size + 1) (some ⟨w2.heap.size, 0, none⟩) 1 1 (ptrs [(b, 0)]) rfl (Reads.new w2 #[.pointer (some ⟨b, 0, none⟩)] 54 1 rfl rfl) (by simp [ptrs, Value.oneCell']) (by simp only [maxLen]; omega) (by omega) (Nat.zero_le _) ?_)
  intro vL w3 hown hgrow hob
  have b3 : Below w2.heap.size w2 w3 := ((Below.refl _ w2).alloc (Nat.le_refl _) _).grown hgrow (by simp only [sz_alloc]; omega) (fun k hk => by simp [Value.ownBlock] at hk)
  have T3 := Lib.hid (T2.out.go b3)
  change w3.ownsRow 0 54 1 vL 1 (ptrs [(b, 0)]) at hown
  obtain ⟨AL, cL, rfl, hcL, hrL⟩ := Reads.of_own hown
  have hsz3 := b3.size
  have hsz2 : w1.heap.size < w2.heap.size := pb.lt
  clear hown hgrow hob hi hz0 hz1 hz2 b3 c5 pb
  have HL : Hid ([(b, 0)] = idsT g (some b)) := Lib.hid rfl
  obtain ⟨L, hLd⟩ : ∃ L : List Id, [(b, 0)] = L := ⟨_, rfl⟩
  have hLn : L.length = 1 := by rw [← hLd]; rfl
  have hLS : ∀ i, i < 1 → ∃ r, S.nd (L.getD i (0, 0)) = some r := fun i hi => by
    obtain rfl : i = 0 := by omega
    rw [← hLd]; exact ⟨rb, hrd⟩
  rw [hLd] at hrL
  have HHL := Lib.hid hLn; have HLS := Lib.hid hLS; have HLD := Lib.hid hLd
  have HRL := Lib.hid hrL
  clear hLn hLS hLd hrL HL
  have hrs : ∀ i, i < 1 → ∃ r, S.nd (L.getD i (0, 0)) = some r ∧ (recs S L).take (i + 1) = (recs S L).take i ++ [r] ∧ OkN r := fun i hi => by
    obtain ⟨r, hr⟩ := HLS.out i hi
    refine ⟨r, hr, ?_, ho.okn _ _ hr⟩
    have hlt : i < (recs S L).length := by rw [recs_length, HHL.out]; exact hi
    rw [List.take_succ_eq_append_getElem hlt, recs_at (by rw [HHL.out]; exact hi) hr hlt]
  have hok : ∀ i, i ≤ 1 → ∀ r ∈ (recs S L).take i, OkN r := fun i hi r hr => by
    obtain ⟨j, hj, rfl⟩ := List.mem_iff_getElem.1 (List.mem_of_mem_take hr)
    rw [recs_length, HHL.out] at hj
    obtain ⟨r', h1, _, h3⟩ := hrs j hj
    rw [recs_at (by rw [HHL.out]; exact hj) h1]; exact h3
  have HRS := Lib.hid hrs; have HOK := Lib.hid hok
  have hfull : (recs S L).take 1 = recs S L := by rw [List.take_of_length_le (by rw [recs_length, HHL.out]; exact Nat.le_refl _)]
  have HFU := Lib.hid hfull
  clear hrs hok hfull
  obtain ⟨w4, hw4, b4, k9⟩ := open1 w3 #[.int .i64 0, .string ⟨#[]⟩, .slice none 0 0, .int .i64 2, .int .i64 1, .int .i64 0, .int .i64 0] 29
  have y5 : w4.setCell ⟨w3.heap.size, 5, none⟩ (.int .i64 0) = w4 := blk_same k9 rfl
  have y6 : w4.setCell ⟨w3.heap.size, 6, none⟩ (.int .i64 0) = w4 := blk_same k9 rfl
  have z5 : w4.cell? ⟨w3.heap.size, 5, none⟩ = some (.int .i64 0) := by rw [k9.cell]; rfl
  have z6 : w4.cell? ⟨w3.heap.size, 6, none⟩ = some (.int .i64 0) := by rw [k9.cell]; rfl
  have zf : ∀ j, w4.frozen? ⟨w3.heap.size, j, none⟩ = false := fun j => k9.frozen j
  have hlt4 : w3.heap.size < w4.heap.size := k9.lt
  have T4 := Lib.hid (T3.out.go b4)
  have HB4 := Lib.hid b4
  have J0 : Hid (TlJ w4 w4 w3.heap.size (namesT ((recs S L).take 0)) (klT ((recs S L).take 0)).1 (klT ((recs S L).take 0)).2 (sizeT ((recs S L).take 0)) none 0) := Lib.hid ⟨Fr.refl _ _, k9, World.ownsRow_nil _ _ _ _⟩
  obtain ⟨i9, hi9, hs0, hs1, hs2⟩ : ∃ i9, Tryd.prog.info? 9 = some i9 ∧ i9.zero = some (.string ⟨#[]⟩) ∧ i9.size = 1 ∧ i9.bytes = 16 := by
    have := str_info
    cases hh : Tryd.prog.info? 9 with
    | none => rw [hh] at this; cases this
    | some i => rw [hh] at this; simp at this; exact ⟨i, rfl, this.1, this.2.1, this.2.2⟩
  have HI9 := Lib.hid (And.intro hi9 (And.intro hs0 (And.intro hs1 hs2)))
  clear k9 b4 hi9 hs0 hs1 hs2
  go_wp2_with fail
  go_loopw [48] (fun p wr => ∃ (i : Nat) (nm : List ByteArray) (kk ll sz : Int) (A : Option Addr) (cc : Nat), p = .int .i64 i ∧ i ≤ 1 ∧ Hid (nm = namesT ((recs S L).take i) ∧ (kk, ll) = klT ((recs S L).take i) ∧ sz = sizeT ((recs S L).take i)) ∧ Hid (TlJ w4 wr w3.heap.size nm kk ll sz A cc)) (fun p _ => 1 - (intOf p).toNat)
  case atStart => exact ⟨0, _, _, _, _, none, 0, rfl, by omega, Lib.hid ⟨rfl, rfl, rfl⟩, J0⟩
  case round =>
    clear hw2 hw4 y5 y6 z5 z6 zf
    obtain ⟨i, nm, kk, ll, sz, A, cc, rfl, hi, HE, HJ⟩ := hrel
    have TR := Lib.hid (At.fr9 H.out T4.out HJ.out.fr (by omega))
    by_cases hlt : i < 1
    · have hrw : Reads wr w3.heap.size 1 AL 1 (ptrs L) := (HRL.out.below HB4.out).fr9 HJ.out.fr (Nat.le_refl _) (by omega)
      obtain ⟨ad, rfl, _, q1⟩ := ptrs_at hrw HHL.out hlt
      obtain ⟨r, hrn, hnx, hokr⟩ := HRS.out i hlt
      generalize hidx : L.getD i (0, 0) = idx at *
      have hN := TR.out.t.node _ _ hrn
      have hcs := size_any (hN.low (bdrewN (Below.refl _ _) 1)) hokr
      have hszr := sizeN_bd hokr
      have hbd := sumInt_bd _ (HOK.out i hi)
      rw [← HE.out.1, ← HE.out.2.2] at hbd
      have hlen : ((recs S L).take i).length ≤ 4 := by rw [List.length_take]; omega
      have hsb : 0 ≤ sz ∧ sz ≤ 1000000 := by omega
      have hnb : nm.length ≤ 10000 := by omega
      have hnx1 : namesT ((recs S L).take (i + 1)) = nm ++ namesR r := by rw [hnx, namesT_snoc, HE.out.1]
      have hnx2 : klT ((recs S L).take (i + 1)) = klStep (kk, ll) r := by rw [hnx, klT_snoc, HE.out.2.1]
      have hnx3 : sizeT ((recs S L).take (i + 1)) = sz + sizeN r := by rw [hnx, sizeT_snoc, HE.out.2.2]
      have HNX := Lib.hid (And.intro hnx1 (And.intro hnx2 hnx3))
      have HOKR := Lib.hid hokr; have HRN := Lib.hid hrn
      obtain ⟨k0, k1, k2, k3, k4, k5, k6, kf⟩ := HJ.out.cells
      generalize hsn : sizeN r = sn at *
      have u2 : IntKind.i64.wrap (sz + sn) = sz + sn := IntWalk.i64_in _ (by omega)
      clear hnx1 hnx2 hnx3 hnx hbd hN hrw hokr hrn hidx k0 k1 k2 k3 k4 k6 HE
      go_wp2_with fail
      go_region_law (first
        | (go_simp; go_at_call 18; refine hcs.mono ?_; rintro e w5 ⟨rfl, b5⟩; have J5 := Lib.hid (HJ.out.low ((show Below wr.heap.size wr (wr.drewN 1) from bdrewN (Below.refl _ _) 1).trans b5)); have k55 := J5.out.cells.2.2.2.2.2.1; have f55 := J5.out.cells.2.2.2.2.2.2.2 5; clear b5))
      all_goals
        have J6 := Lib.hid (J5.out.set hlt4 5 (.int .i64 (sz + sn)) kk ll (sz + sn) rfl)
        clear hcs k55 f55 k5 kf q1
        generalize w5.setCell ⟨w3.heap.size, 5, none⟩ (.int .i64 (sz + sn)) = w6 at *
        have TR6 := Lib.hid (At.fr9 H.out T4.out J6.out.fr (by omega))
        have hN6 := TR6.out.t.node _ _ HRN.out
        obtain ⟨A3, c3', ev, hc3, hr3⟩ := Reads.of_own hN6.row
        have c3 := hN6.c3
        obtain ⟨m, hm⟩ : ∃ m, r.list.length = m := ⟨_, rfl⟩
        rw [hm] at ev
        rw [ev] at c3
        have hm2 : m ≤ 2000 := by rw [← hm]; exact HOKR.out.len
        have HM := Lib.hid hm; have HEV := Lib.hid ev
        have hsz6 := J6.out.fr.size
        clear hN6 hr3 hm ev hc3
        obtain ⟨i1, i2⟩ := idx
        dsimp only at *
        go_wp2_with fail
        go_loopw [63] (fun q wr2 => ∃ (j : Nat) (nm2 : List ByteArray) (A2 : Option Addr) (c2 : Nat), q = .int .i64 j ∧ j ≤ m ∧ Hid (nm2 = nm ++ (namesR r).take j) ∧ Hid (TlJ w4 wr2 w3.heap.size nm2 kk ll (sz + sn) A2 c2)) (fun q _ => m - (intOf q).toNat)
        case atStart => exact ⟨0, _, A, cc, rfl, by omega, Lib.hid (by simp), J6⟩
        case round =>
          clear c3
          obtain ⟨j, nm2, A2, c2, rfl, hj, HE2, HJ2⟩ := hrel
          have TR2 := Lib.hid (At.fr9 H.out T4.out HJ2.out.fr (by omega))
          have hN2 := TR2.out.t.node _ _ HRN.out
          have hln2 : nm2.length ≤ 20000 := by rw [HE2.out, List.length_append, List.length_take]; omega
          by_cases hlt2 : j < m
          · have hrow2 := hN2.row
            rw [HEV.out, HM.out] at hrow2
            obtain ⟨ad, rfl, _, q2, q3⟩ := kids_at (kids_reads hrow2) HM.out hlt2
            have hnt := names_take r j (by rw [HM.out]; exact hlt2)
            generalize r.list.getD j (⟨#[]⟩, 0) = x at *
            obtain ⟨xn, xb⟩ := x
            dsimp only at *
            obtain ⟨_, _, k92, _, _, _, _, _⟩ := HJ2.out.cells
            have HNT := Lib.hid hnt
            have hsz2' := HJ2.out.fr.size
            clear hnt hN2 hrow2
            have krow := HJ2.out.row
            have hb92 : w3.heap.size < wr.heap.size := by omega
            have k93 : (wr.alloc (.cells #[.string xn, .pointer (some ⟨xb, 0, none⟩)] 72)).cell? ⟨w3.heap.size, 2, none⟩ = some (.slice A2 nm2.length c2) := (World.cell?_alloc_lt wr _ ⟨w3.heap.size, 2, none⟩ hb92).trans k92
            go_wp2_with (at_builtin; refine wpList_append_any _ rfl (.tmp 68) (.tmp 71) 27 rfl w4.heap.size 9 i9 _ 1 16 Tryd.underlying27 HI9.out.1 HI9.out.2.1 HI9.out.2.2.1 HI9.out.2.2.2 rfl (by decide) (.slice A2 nm2.length c2) _ _ rfl ((HJ2.out.row.alloc _).alloc _) (wr.heap.size + 1 + 1) (some ⟨wr.heap.size + 1, 0, none⟩) 1 1 [.string xn] rfl (Reads.new (B := wr.heap.size + 1) _ #[.string xn] 9 1 rfl (sz_alloc _ _).symm) (by simp [Value.oneCell']) (by simp only [maxLen]; omega) (by omega) (by simp only [sz_alloc]; omega) ?_)
            intro v' w7 hown7 hgrow7 hob7
            obtain ⟨A7, c7, rfl, g1, g2, J7⟩ := HJ2.out.more hlt4 _ _ xn hown7 hgrow7
            have HJ7 := Lib.hid J7
            clear hown7 hgrow7 hob7 J7 k92 k93 krow q2 q3
            go_wp2_with fail
            go_roundw
            case rel => exact ⟨j + 1, nm2 ++ [xn], A7, c7, vint (by omega), by omega, Lib.hid (by rw [HNT.out, HE2.out, List.append_assoc]), Lib.hid (by have h := HJ7.out; rw [List.length_append, List.length_singleton] at h; exact h)⟩
            case measure => simp [intOf]; omega
          · have hnf : nm2 = nm ++ namesR r := by
              rw [HE2.out, List.take_of_length_le]
              unfold namesR; rw [List.length_map, HM.out]; omega
            have HNF := Lib.hid hnf
            have k0 := hN2.c0
            have k1 := hN2.c1
            obtain ⟨_, _, _, k93, k94, _, _, kf⟩ := HJ2.out.cells
            dsimp only at k0 k1
            have hi1 : i1 < w.heap.size := (H.out.node _ _ HRN.out).lt
            have hne : ¬ i1 = w3.heap.size := by omega
            have hne2 : ¬ w3.heap.size = i1 := by omega
            clear hnf hN2
            by_cases hk1 : r.kind = 1
            · have hkf : (r.kind == 1) = true := by simpa using hk1
              have J8 := Lib.hid ((HJ2.out.set hlt4 3 (.int .i64 r.kind) r.kind ll (sz + sn) rfl).set hlt4 4 (.int .i64 r.links) r.kind r.links (sz + sn) rfl)
              have J9 := Lib.hid ((HJ2.out.set hlt4 4 (.int .i64 r.links) kk r.links (sz + sn) rfl).set hlt4 3 (.int .i64 r.kind) r.kind r.links (sz + sn) rfl)
              have HK := Lib.hid hk1
              clear hk1
              generalize hrk : r.kind = rkd at *
              generalize hrl : r.links = rlk at *
              have HRK := Lib.hid (And.intro hrk hrl)
              clear hrk hrl
              go_wp2_with fail
              go_region_law (fail)
              all_goals (go_wp2_with fail)
              all_goals go_roundw
              all_goals first
                | (simp [intOf]; omega)
                | (have h3 := HNX.out
                   unfold klStep at h3
                   rw [if_pos (HRK.out.1.trans HK.out)] at h3
                   first
                   | exact ⟨i + 1, nm2, rkd, rlk, sz + sn, A2, c2, vint (by omega), by omega, Lib.hid ⟨by rw [h3.1]; exact HNF.out, by rw [h3.2.1, HRK.out.2, HK.out], h3.2.2.symm⟩, Lib.hid (J8.out.low (show Below _ _ _ from ⟨rfl, rfl, rfl, Nat.le_refl _, fun _ _ => rfl⟩))⟩
                   | exact ⟨i + 1, nm2, rkd, rlk, sz + sn, A2, c2, vint (by omega), by omega, Lib.hid ⟨by rw [h3.1]; exact HNF.out, by rw [h3.2.1, HRK.out.2, HK.out], h3.2.2.symm⟩, Lib.hid (J9.out.low (show Below _ _ _ from ⟨rfl, rfl, rfl, Nat.le_refl _, fun _ _ => rfl⟩))⟩)
            · have hkf : (r.kind == 1) = false := by simpa using hk1
              have HK := Lib.hid hk1
              clear hk1
              go_wp2_with fail
              go_roundw
              case rel =>
                have h3 := HNX.out
                unfold klStep at h3
                rw [if_neg HK.out] at h3
                exact ⟨i + 1, nm2, kk, ll, sz + sn, A2, c2, vint (by omega), by omega, Lib.hid ⟨by rw [h3.1]; exact HNF.out, h3.2.1.symm, h3.2.2.symm⟩, HJ2⟩
              case measure => simp [intOf]; omega
    · have hi1' : i = 1 := by omega
      have hfin : (kk, ll) = klT (recs S L) ∧ sz = sizeT (recs S L) := by
        have h := HE.out
        rw [hi1', HFU.out] at h
        exact h.2
      have HFI := Lib.hid hfin
      have b0 : wr.cell? ⟨w.heap.size, 0, none⟩ = some (.int .i64 c.op) := by rw [TR.out.p.cell]; rfl
      obtain ⟨k0, k1, k2, k3, k4, k5, k6, kf⟩ := HJ.out.cells
      clear hfin hi1'
      obtain ⟨w8, hw8⟩ : ∃ w8, wr.setCell ⟨w3.heap.size, 2, none⟩ (.slice none 0 0) = w8 := ⟨_, rfl⟩
      have K8 := HJ.out.k9.set_ 2 (.slice none 0 0)
      change Blk _ _ 29 #[.int .i64 0, .string ⟨#[]⟩, .slice none 0 0, .int .i64 kk, .int .i64 ll, .int .i64 sz, .int .i64 0] at K8
      have R8 := TR.out.r.far (p := ⟨w3.heap.size, 2, none⟩) (by show w.heap.size + 1 ≠ w3.heap.size; omega) (.slice none 0 0)
      have B8 : Below w.heap.size w (wr.setCell ⟨w3.heap.size, 2, none⟩ (.slice none 0 0)) := TR.out.b.setCell (p := ⟨w3.heap.size, 2, none⟩) (by show w.heap.size ≤ w3.heap.size; omega) _
      rw [hw8] at K8 R8 B8
      have e0 := K8.cell 0; have e1 := K8.cell 1; have e2 := K8.cell 2; have e3 := K8.cell 3; have e4 := K8.cell 4; have e5 := K8.cell 5; have e6 := K8.cell 6
      simp only [List.getElem?_toArray, List.getElem?_cons_zero, List.getElem?_cons_succ] at e0 e1 e2 e3 e4 e5 e6
      obtain ⟨W, hst, hfr, hW, q0, q1, q2, q3, q4, q5, q6⟩ := st7 R8 ⟨0, ⟨#[]⟩, kk, ll, sz, 0⟩ none 0 0
      obtain ⟨d0, d1, d2, d3, d4, d5, d6, hfz⟩ := rep0_at R8
      dsimp only at hst q0 q1 q2 q3 q4 q5 q6
      have HF := Lib.hid (hfr.below B8 (fun k e => by omega))
      clear hfr hW K8 R8 B8
      go_wp2_with fail
      refine bodyPost_ret (v := repV ⟨0, ⟨#[]⟩, kk, ll, sz, 0⟩ (.slice none 0 0)) (by simp [results, Tryd.results15, go_sem, q0, q1, q2, q3, q4, q5, q6, repV]; try rfl) rfl ?_
      have hrec : recs S L = [rb] := by rw [← HLD.out]; simp [recs, hrd]
      have h := HFI.out
      rw [hrec] at h
      refine ⟨?_, HF.out⟩
      rw [← h.1]
      have h2 : sz = sizeN rb := by rw [h.2]; simp [sizeT]
      rw [h2]
end
end Go.Proofs.YtglglbbjacgbdaaDoor
