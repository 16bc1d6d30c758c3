import Derived.Test.YtepmgcgpioljiaaInP
namespace Go.Proofs.Ytepmgcgpioljiaa
open Go.RowKit
set_option linter.unusedVariables false

/-! ### what was written is read again -/
theorem numB_byte (n k : Nat) (r : ByteArray) : ∀ i, i < k → (numB n k ++ r).data.getD i 0 = UInt8.ofNat (n / 256 ^ (k - 1 - i) % 256) := by
  induction k with
  | zero => intro i hi; omega
  | succ k ih =>
    intro i hi
    rw [numB, ByteArray.append_assoc, ByteArray.data_append]
    match i with
    | 0 => rw [Array.getD_eq_getD_getElem?, Array.getElem?_append_left (by simp)]; simp
    | i + 1 =>
      rw [Array.getD_eq_getD_getElem?, Array.getElem?_append_right (by simp)]
      have := ih i (by omega)
      rw [Array.getD_eq_getD_getElem?] at this
      show ((numB n k ++ r).data[i]?).getD 0 = _
      rw [this, show k + 1 - 1 - (i + 1) = k - 1 - i by omega]
theorem valB_numB (n k : Nat) (r : ByteArray) : ∀ i, i ≤ k → valB (numB n k ++ r) i = n / 256 ^ (k - i) % 256 ^ i := by
  intro i
  induction i with
  | zero => intro _; simp [valB, Nat.mod_one]
  | succ i ih =>
    intro hi
    rw [valB, ih (by omega), numB_byte n k r i (by omega)]
    have e1 : (UInt8.ofNat (n / 256 ^ (k - 1 - i) % 256)).toNat = n / 256 ^ (k - 1 - i) % 256 := by
      rw [UInt8.toNat_ofNat']; omega
    rw [e1]
    have e2 : n / 256 ^ (k - i) = n / 256 ^ (k - 1 - i) / 256 := by rw [Nat.div_div_eq_div_mul, ← Nat.pow_succ]; congr 2; omega
    rw [e2, show k - (i + 1) = k - 1 - i by omega, Nat.pow_succ, Nat.mul_comm (256 ^ i) 256, Nat.mod_mul]
    omega
theorem cat_left (a b : ByteArray) (k : Nat) (hk : a.size = k) : (a ++ b).extract 0 k = a := by rw [ext_left a b (by omega), ext_all a (by omega)]
theorem cat_right (a b : ByteArray) (k : Nat) (hk : a.size = k) : (a ++ b).extract k (a ++ b).size = b := by
  apply ByteArray.ext
  subst hk
  rw [ByteArray.data_extract, ByteArray.data_append, Array.extract_append]
  have h1 : a.data.size = a.size := rfl
  have h2 : (a ++ b).size = a.size + b.size := ByteArray.size_append
  have h3 : a.data.extract a.size (a.size + b.size) = #[] := by apply Array.eq_empty_of_size_eq_zero; simp
  have h4 : b.data.size = b.size := rfl
  rw [h2, h1, h3, Nat.sub_self, Nat.add_sub_cancel_left, Array.extract_eq_self_of_le (by omega)]
  simp
theorem rdNum_numB (n k : Nat) (r : ByteArray) (h : n < 256 ^ k) : rdNum k (numB n k ++ r, false) = (n, (r, false)) := by
  unfold rdNum
  have hs : (numB n k ++ r).size = k + r.size := by rw [ByteArray.size_append, numB_size]
  rw [if_neg (by dsimp only; rw [hs]; simp), valB_numB n k r k (Nat.le_refl _), Nat.sub_self, Nat.pow_zero, Nat.div_one, Nat.mod_eq_of_lt h]
  have := cat_right (numB n k) r k (numB_size n k)
  rw [this]
theorem rdTo_cons (r0 : RD) (i : Nat) (h : rdLeft r0 ≠ 0) : rdTo r0 (i + 1) = (((rdNum 4 r0).1 : Int) :: (rdTo (rdNum 4 r0).2 i).1, (rdTo (rdNum 4 r0).2 i).2) := by
  induction i with
  | zero =>
    show (if rdLeft r0 = 0 then _ else _) = _
    rw [if_neg h]; rfl
  | succ i ih =>
    rw [rdTo, ih]
    dsimp only
    rw [rdTo]
    split
    · rfl
    · rfl
theorem rdTo_dataB (zs : List Int) (hz : ∀ z ∈ zs, 0 ≤ z ∧ z ≤ 65535) : ∀ N, zs.length ≤ N → rdTo (dataB zs, false) N = (zs, (⟨#[]⟩, false)) := by
  induction zs with
  | nil =>
    intro N _
    exact rdTo_stop (⟨#[]⟩, false) 0 rfl N (Nat.zero_le _)
  | cons z zs ih =>
    intro N hN
    obtain ⟨N, rfl⟩ : ∃ m, N = m + 1 := ⟨N - 1, by simp at hN; omega⟩
    have hl : rdLeft (dataB (z :: zs), false) ≠ 0 := by
      unfold rdLeft
      rw [if_neg (by simp)]
      show (numB z.toNat 4 ++ dataB zs).size ≠ 0
      rw [ByteArray.size_append, numB_size]; omega
    have h0 := hz z (by simp)
    rw [rdTo_cons _ _ hl]
    have hn : rdNum 4 (dataB (z :: zs), false) = (z.toNat, (dataB zs, false)) := rdNum_numB z.toNat 4 (dataB zs) (by omega)
    rw [hn]
    dsimp only
    rw [ih (fun y hy => hz y (by simp [hy])) N (by simp at hN; omega)]
    congr 2
    omega
theorem need_le (s : Int) (h : s ≤ 6144) : need s ≤ 12 := by unfold need; split <;> omega
theorem fRead_inoB (k l s : Int) (zs : List Int) (h : fCheck k l s zs = 0) : fRead (inoB k l s zs) = ((k, l, s, zs), 0) := by
  obtain ⟨h1, h2, h3, _, h5, h6, h7, h8, _⟩ := fCheck_ok h
  have hlen : zs.length ≤ 13 := by have := need_le s h6; omega
  have e : inoB k l s zs = markB ++ (numB k.toNat 2 ++ (numB l.toNat 2 ++ (numB s.toNat 4 ++ dataB zs))) := by
    unfold inoB
    rw [ByteArray.append_assoc, ByteArray.append_assoc, ByteArray.append_assoc]
  rw [e]
  have hm : markB.size = 4 := rfl
  generalize hr : numB k.toNat 2 ++ (numB l.toNat 2 ++ (numB s.toNat 4 ++ dataB zs)) = r
  have e1 : (markB ++ r).extract 0 4 = markB := cat_left _ _ _ hm
  have e2 : (markB ++ r).extract 4 (markB ++ r).size = r := cat_right _ _ _ hm
  unfold fRead
  rw [e1, e2, if_neg (by rw [ByteArray.size_append, hm]; simp)]
  rw [← hr]
  have a1 := rdNum_numB k.toNat 2 (numB l.toNat 2 ++ (numB s.toNat 4 ++ dataB zs)) (by omega)
  have a2 := rdNum_numB l.toNat 2 (numB s.toNat 4 ++ dataB zs) (by omega)
  have a3 := rdNum_numB s.toNat 4 (dataB zs) (by omega)
  have a4 := rdTo_dataB zs h8
  obtain ⟨N, hN⟩ : ∃ N, N = 13 := ⟨_, rfl⟩
  unfold rdIno
  rw [← hN] at hlen ⊢
  have a5 := a4 N hlen
  rw [a1]
  dsimp only
  rw [a2]
  dsimp only
  rw [a3]
  dsimp only
  rw [a5]
  dsimp only
  have ek : ((k.toNat : Nat) : Int) = k := by omega
  have el : ((l.toNat : Nat) : Int) = l := by omega
  have es : ((s.toNat : Nat) : Int) = s := by omega
  rw [ek, el, es, if_neg (by rintro (hh | hh); exact hh rfl; exact hh h)]
theorem inoB_inj {k l s k' l' s' : Int} {zs zs' : List Int} (h : fCheck k l s zs = 0) (h' : fCheck k' l' s' zs' = 0) : (inoB k l s zs = inoB k' l' s' zs') ↔ (k = k' ∧ l = l' ∧ s = s' ∧ zs = zs') := by
  constructor
  · intro e
    have a := fRead_inoB k l s zs h
    rw [e, fRead_inoB k' l' s' zs' h'] at a
    simp only [Prod.mk.injEq, and_true] at a
    exact ⟨a.1.symm, a.2.1.symm, a.2.2.1.symm, a.2.2.2.symm⟩
  · rintro ⟨rfl, rfl, rfl, rfl⟩; rfl
theorem inoB_size (k l s : Int) (zs : List Int) : (inoB k l s zs).size = 12 + 4 * zs.length := by
  unfold inoB
  rw [ByteArray.size_append, ByteArray.size_append, ByteArray.size_append, ByteArray.size_append, numB_size, numB_size, numB_size, dataB_size]; rfl
end Go.Proofs.Ytepmgcgpioljiaa
