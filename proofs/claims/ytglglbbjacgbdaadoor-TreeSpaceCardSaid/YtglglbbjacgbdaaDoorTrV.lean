import Derived.Test.YtglglbbjacgbdaaDoorTrU
namespace Go.Proofs.YtglglbbjacgbdaaDoor
open Go.RowKit
set_option linter.unusedVariables false
set_option linter.unusedSimpArgs false
attribute [local go_sem] b_max2 b_min2 b_max b_min

/-! ### below: is a list a folder's own, or that of one in it? -/
def belowT (S : TS) (lid : Id) : Nat → Nat → Bool
  | 0, b => decide (lid = (b, 0))
  | f + 1, b => decide (lid = (b, 0)) || (kidsOf S b).any fun c => belowT S lid f c.2
section
variable {w : World} {g : Nat} {S : TS} {vs : Id → Value}
set_option maxRecDepth 100000 in
set_option maxHeartbeats 2000000 in
theorem idx_any (B : Nat) (lid : Id) (p : Nat → Bool) (l : List Ch) (A : Option Addr) (n c : Nat) (hn : l.length = n) (hnl : n ≤ 2000) (h : IsT w g S vs) (hB : Blk w B 54 #[.pointer (some ⟨lid.1, lid.2, none⟩)]) (hr : Reads w w.heap.size 2 A n (cellsC l))
    (HC : ∀ x ∈ l, ∀ W, IsT W g S vs → Blk W B 54 #[.pointer (some ⟨lid.1, lid.2, none⟩)] → Calls Tryd.prog 45 #[.agg #[.string x.1, .pointer (some ⟨x.2, 0, none⟩)], .pointer (some ⟨B, 0, none⟩)] W fun e W' => e = .returned (.bool (p x.2)) ∧ Below W.heap.size W W') :
    Calls Tryd.prog 61 #[.slice A n c, .func (.func 45) #[] #[.pointer (some ⟨B, 0, none⟩)]] w fun e w' => (∃ m : Int, e = .returned (.int .i64 m) ∧ (0 ≤ m ↔ l.any (fun x => p x.2) = true)) ∧ Below w.heap.size w w' := by
  have H := Lib.hid h; have HBk := Lib.hid hB; have HR := Lib.hid hr; have HCC := Lib.hid HC; have HN := Lib.hid hn
  clear h hB hr HC
  go_enter Tryd.func61, Tryd.ntmps61
  go_wp2_with fail
  go_loopw [5, 8] (fun _ q wr => ∃ i : Nat, q = .int .i64 i ∧ i ≤ n ∧ Hid (∀ t, t < i → p (l.getD t (⟨#[]⟩, 0)).2 = false) ∧ Hid (Below w.heap.size w wr)) (fun _ q _ => (n - intOf q).toNat)
  case atStart => exact ⟨0, rfl, by omega, Lib.hid (fun t ht => by omega), Lib.hid (Below.refl _ _)⟩
  case round =>
    obtain ⟨i, rfl, hi, HP, HB⟩ := hrel
    by_cases hlt : i < n
    · have hrw := HR.out.below HB.out
      obtain ⟨ad, rfl, _, q1, q2⟩ := kids_at hrw HN.out hlt
      have hmem : l.getD i (⟨#[]⟩, 0) ∈ l := by have := HN.out; rw [getD_get _ _ _ (by omega)]; exact List.getElem_mem _
      have hcl := HCC.out _ hmem wr (H.out.low HB.out) (HBk.out.below HB.out HBk.out.lt)
      have hget : ∀ t, t = i → l.getD t (⟨#[]⟩, 0) = l.getD i (⟨#[]⟩, 0) := fun t e => by rw [e]
      have HG := Lib.hid hget
      clear hrw hget
      cases hpx : p (l.getD i (⟨#[]⟩, 0)).2 with
      | true =>
        have hany : l.any (fun x => p x.2) = true := List.any_eq_true.2 ⟨_, hmem, hpx⟩
        rw [hpx] at hcl
        generalize l.getD i (⟨#[]⟩, 0) = x at *
        go_wp2_with fail
        refine hcl.mono ?_
        rintro e w2 ⟨rfl, b2⟩
        go_wp2_with fail
        go_ret
        exact ⟨⟨i, rfl, by rw [hany]; simp⟩, HB.out.trans (b2.mono HB.out.size)⟩
      | false =>
        rw [hpx] at hcl
        have HPN : Hid (∀ t, t < i + 1 → p (l.getD t (⟨#[]⟩, 0)).2 = false) := Lib.hid (fun t ht => by
          rcases Nat.lt_or_ge t i with h1 | h1
          · exact HP.out t h1
          · rw [show t = i by omega]; exact hpx)
        generalize l.getD i (⟨#[]⟩, 0) = x at *
        go_wp2_with fail
        refine hcl.mono ?_
        rintro e w2 ⟨rfl, b2⟩
        have HBN := Lib.hid (HB.out.trans (b2.mono HB.out.size))
        clear b2 hcl q1 q2
        go_wp2_with fail
        refine ⟨⟨i + 1, rfl, by omega, HPN, HBN⟩, ?_⟩
        simp [intOf]; omega
    · obtain rfl : i = n := by omega
      go_wp2_with fail
      go_ret
      refine ⟨⟨-1, rfl, ?_⟩, HB.out⟩
      have hno : l.any (fun x => p x.2) = false := by
        rw [Bool.eq_false_iff]
        intro e
        obtain ⟨x, hx, hpx⟩ := List.any_eq_true.1 e
        obtain ⟨t, ht, rfl⟩ := List.mem_iff_getElem.1 hx
        have := HP.out t (by have := HN.out; omega)
        rw [getD_get _ _ _ ht] at this
        rw [this] at hpx
        cases hpx
      rw [hno]
      simp
set_option maxRecDepth 100000 in
set_option maxHeartbeats 2000000 in
theorem has_any (B : Nat) (lid : Id) (p : Nat → Bool) (l : List Ch) (A : Option Addr) (n c : Nat) (hn : l.length = n) (hnl : n ≤ 2000) (h : IsT w g S vs) (hB : Blk w B 54 #[.pointer (some ⟨lid.1, lid.2, none⟩)]) (hr : Reads w w.heap.size 2 A n (cellsC l))
    (HC : ∀ x ∈ l, ∀ W, IsT W g S vs → Blk W B 54 #[.pointer (some ⟨lid.1, lid.2, none⟩)] → Calls Tryd.prog 45 #[.agg #[.string x.1, .pointer (some ⟨x.2, 0, none⟩)], .pointer (some ⟨B, 0, none⟩)] W fun e W' => e = .returned (.bool (p x.2)) ∧ Below W.heap.size W W') :
    Calls Tryd.prog 44 #[.slice A n c, .func (.func 45) #[] #[.pointer (some ⟨B, 0, none⟩)]] w fun e w' => e = .returned (.bool (l.any fun x => p x.2)) ∧ Below w.heap.size w w' := by
  have hi := idx_any B lid p l A n c hn hnl h hB hr HC
  clear HC hr hB h hn
  generalize l.any (fun x => p x.2) = an at *
  go_enter Tryd.func44, Tryd.ntmps44
  go_wp2_with fail
  refine hi.mono ?_
  rintro e w1 ⟨⟨m, rfl, hm⟩, b1⟩
  clear hi
  go_wp2_with fail
  go_ret
  refine ⟨ret_bool ?_, b1⟩
  cases an <;> simp_all
theorem eq_addrIn {P : Program} (d : Nat) {kt : TypeId} (hk : PtrT P kt) (W : World) (a b : Addr) {ca cb : Array Value} {ta tb : TypeId} (ha : W.heap[a.block]? = some (.cells ca ta (0, 0))) (hb : W.heap[b.block]? = some (.cells cb tb (0, 0))) :
    (Op.equalIn (d + 1) kt (.pointer (some a)) (.pointer (some b))).run P W = .ok (decide (a = b)) W := by
  obtain ⟨tt, j, h1, h2, h3⟩ := hk.x
  by_cases e : a = b
  · subst e
    simp [Op.equalIn, run_underlying h1, sizeOf, typeInfo, h2, h3, run_sameAddr_same, Result.andThen]
  · have := run_sameAddr_other (P := P) W e ha hb
    simp [Op.equalIn, run_underlying h1, sizeOf, typeInfo, h2, h3, this, Result.andThen, e]
theorem eq_addr (W : World) (a b : Addr) {ca cb : Array Value} {ta tb : TypeId} (ha : W.heap[a.block]? = some (.cells ca ta (0, 0))) (hb : W.heap[b.block]? = some (.cells cb tb (0, 0))) :
    (Op.equal 54 (.pointer (some a)) (.pointer (some b))).run Tryd.prog W = .ok (decide (a = b)) W := eq_addrIn 9999 ptr_node W a b ha hb
theorem eq_bin {P : Program} {W : World} {kt : TypeId} {a b : Addr} {d : Bool} (h : (Op.equal kt (.pointer (some a)) (.pointer (some b))).run P W = .ok d W) : (binOp .eql kt (.pointer (some a)) (.pointer (some b))).run P W = .ok (.bool d) W := by
  simp only [binOp, Sem.run_bind, h, Result.andThen_ok, Sem.run_pure]
theorem belowK_any (B : Nat) (lid : Id) (q : Bool) (s : ByteArray) (b : Nat) (W : World) (h : IsT W g S vs) (hB : Blk W B 54 #[.pointer (some ⟨lid.1, lid.2, none⟩)])
    (hc : ∀ W', IsT W' g S vs → Calls Tryd.prog 29 #[.pointer (some ⟨lid.1, lid.2, none⟩), .pointer (some ⟨b, 0, none⟩)] W' fun e W'' => e = .returned (.bool q) ∧ Below W'.heap.size W' W'') :
    Calls Tryd.prog 45 #[.agg #[.string s, .pointer (some ⟨b, 0, none⟩)], .pointer (some ⟨B, 0, none⟩)] W fun e W' => e = .returned (.bool q) ∧ Below W.heap.size W W' := by
  obtain ⟨w0, hw0, b0, p0⟩ := open1 W #[.string s, .pointer (some ⟨b, 0, none⟩)] 72
  have c1 : w0.cell? ⟨W.heap.size, 1, none⟩ = some (.pointer (some ⟨b, 0, none⟩)) := by rw [p0.cell]; rfl
  have cB : w0.cell? ⟨B, 0, none⟩ = some (.pointer (some ⟨lid.1, lid.2, none⟩)) := by rw [(hB.below b0 hB.lt).cell]; rfl
  have H := Lib.hid (h.low b0); have HB0 := Lib.hid b0
  clear p0 b0 hB h
  go_enter Tryd.func45, Tryd.ntmps45
  go_wp2_with fail
  refine (hc w0 H.out).mono ?_
  rintro e w1 ⟨rfl, b1⟩
  clear hc
  go_wp2_with fail
  go_ret
  exact ⟨rfl, HB0.out.trans (b1.mono HB0.out.size)⟩
set_option maxRecDepth 100000 in
set_option maxHeartbeats 2000000 in
theorem below_step (ho : OkT S g) (lid : Id) (r0 : NR) (hl : S.nd lid = some r0) (p : Nat → Bool) (b : Nat) (r : NR) (W : World) (hr : S.nd (b, 0) = some r) (h : IsT W g S vs)
    (HC : ∀ x ∈ r.list, ∀ W', IsT W' g S vs → Calls Tryd.prog 29 #[.pointer (some ⟨lid.1, lid.2, none⟩), .pointer (some ⟨x.2, 0, none⟩)] W' fun e W'' => e = .returned (.bool (p x.2)) ∧ Below W'.heap.size W' W'') :
    Calls Tryd.prog 29 #[.pointer (some ⟨lid.1, lid.2, none⟩), .pointer (some ⟨b, 0, none⟩)] W fun e W' => e = .returned (.bool (decide (lid = (b, 0)) || r.list.any fun c => p c.2)) ∧ Below W.heap.size W W' := by
  obtain ⟨w0, hw0, b0, p0⟩ := open1 W #[.pointer (some ⟨lid.1, lid.2, none⟩)] 54
  have h0 := h.low b0
  have hN := h0.node _ _ hr
  have hok := (ho.okn _ _ hr).len
  have c3 := hN.c3
  obtain ⟨A, c, ev, hc, hrd⟩ := Reads.of_own hN.row
  rw [ev] at c3
  dsimp only at c3
  obtain ⟨ca, ta, ha⟩ := (h0.node _ _ hl).bl
  obtain ⟨cb, tb, hb⟩ := hN.bl
  have heq := eq_addr w0 ⟨lid.1, lid.2, none⟩ ⟨b, 0, none⟩ ha hb
  have hcall := has_any W.heap.size lid p r.list A r.list.length c rfl hok h0 p0 hrd (fun x hx W' hT hB => belowK_any _ lid _ x.1 x.2 W' hT hB (HC x hx))
  have cB : w0.cell? ⟨W.heap.size, 0, none⟩ = some (.pointer (some ⟨lid.1, lid.2, none⟩)) := by rw [p0.cell]; rfl
  have HB0 := Lib.hid b0
  generalize r.list.any (fun c => p c.2) = an at *
  generalize r.list.length = n at *
  by_cases e : lid = (b, 0)
  · have e1 : decide (lid = (b, 0)) = true := decide_eq_true e
    rw [e1, Bool.true_or]
    have hd : (decide ((⟨lid.1, lid.2, none⟩ : Addr) = ⟨b, 0, none⟩)) = true := by rw [e]; simp
    rw [hd] at heq
    have heq := eq_bin heq
    clear HC hcall hrd hN h0 h b0 p0 ha hb hok ev e e1 hd
    obtain ⟨i1, i2⟩ := lid
    dsimp only at *
    go_enter Tryd.func29, Tryd.ntmps29
    go_wp2_with fail
    go_ret
    exact ⟨rfl, HB0.out⟩
  · have e1 : decide (lid = (b, 0)) = false := decide_eq_false e
    rw [e1, Bool.false_or]
    have hd : (decide ((⟨lid.1, lid.2, none⟩ : Addr) = ⟨b, 0, none⟩)) = false := by
      refine decide_eq_false (fun x => e ?_)
      injection x with x1 x2
      exact Prod.ext x1 x2
    rw [hd] at heq
    have heq := eq_bin heq
    clear HC hrd hN h0 h b0 p0 ha hb hok ev e e1 hd
    obtain ⟨i1, i2⟩ := lid
    dsimp only at *
    go_enter Tryd.func29, Tryd.ntmps29
    go_wp2_with fail
    refine hcall.mono ?_
    rintro e w1 ⟨rfl, b1⟩
    clear hcall
    go_wp2_with fail
    go_ret
    exact ⟨rfl, HB0.out.trans (b1.mono HB0.out.size)⟩
theorem below_any (ho : OkT S g) (rk : Nat → Nat) (hrk : Ranked S rk) (lid : Id) (r0 : NR) (hl : S.nd lid = some r0) : ∀ (f b : Nat) (r : NR) (W : World), S.nd (b, 0) = some r → (∀ c ∈ r.list, rk c.2 < f) → IsT W g S vs →
    Calls Tryd.prog 29 #[.pointer (some ⟨lid.1, lid.2, none⟩), .pointer (some ⟨b, 0, none⟩)] W fun e W' => e = .returned (.bool (belowT S lid (f + 1) b)) ∧ Below W.heap.size W W' := by
  intro f
  induction f with
  | zero =>
    intro b r W hr hlow h
    have hk : kidsOf S b = r.list := by unfold kidsOf; rw [hr]; rfl
    rw [belowT, hk]
    exact below_step ho lid r0 hl (belowT S lid 0) b r W hr h (fun x hx => absurd (hlow x hx) (by omega))
  | succ f ih =>
    intro b r W hr hlow h
    have hk : kidsOf S b = r.list := by unfold kidsOf; rw [hr]; rfl
    rw [belowT, hk]
    exact below_step ho lid r0 hl (belowT S lid (f + 1)) b r W hr h (fun x hx W' hT => by
      obtain ⟨r', hr'⟩ := ho.kids _ _ hr x hx
      exact ih x.2 r' W' hr' (fun c hc => by have := hrk.down _ _ hr' c hc; have := hlow x hx; omega) hT)
end
end Go.Proofs.YtglglbbjacgbdaaDoor
