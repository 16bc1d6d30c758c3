import Derived.Test.YtepmgcgpioljiaaInN
namespace Go.Proofs.Ytepmgcgpioljiaa
open Go.RowKit
set_option linter.unusedVariables false
attribute [local go_sem] b_max2 b_min2 b_max b_min

/-- the mark of an inode's bytes -/
def markB : ByteArray := ⟨#[76, 71, 73, 49]⟩
def dataB : List Int → ByteArray
  | [] => ⟨#[]⟩
  | z :: l => numB z.toNat 4 ++ dataB l
theorem dataB_snoc (l : List Int) (z : Int) : dataB (l ++ [z]) = dataB l ++ numB z.toNat 4 := by
  induction l with
  | nil =>
    show numB z.toNat 4 ++ (⟨#[]⟩ : ByteArray) = (⟨#[]⟩ : ByteArray) ++ numB z.toNat 4
    apply ByteArray.ext
    simp
  | cons a l ih => show numB a.toNat 4 ++ dataB (l ++ [z]) = (numB a.toNat 4 ++ dataB l) ++ numB z.toNat 4; rw [ih, ByteArray.append_assoc]
theorem dataB_size (l : List Int) : (dataB l).size = 4 * l.length := by
  induction l with
  | nil => rfl
  | cons a l ih => rw [dataB, ByteArray.size_append, ih, numB_size, List.length_cons]; omega
/-- an inode's bytes -/
def inoB (k l s : Int) (zs : List Int) : ByteArray := markB ++ numB k.toNat 2 ++ numB l.toNat 2 ++ numB s.toNat 4 ++ dataB zs
def hdB (K L S : Nat) : ByteArray := markB ++ numB K 2 ++ numB L 2 ++ numB S 4
theorem hdB_size (K L S : Nat) : (hdB K L S).size = 12 := by
  unfold hdB
  rw [ByteArray.size_append, ByteArray.size_append, ByteArray.size_append, numB_size, numB_size, numB_size]; rfl
theorem ba_app_nil (a : ByteArray) : a ++ (⟨#[]⟩ : ByteArray) = a := by apply ByteArray.ext; simp
theorem fCheck_ok {k l s : Int} {zs : List Int} (h : fCheck k l s zs = 0) : (k = 1 ∨ k = 2) ∧ 1 ≤ l ∧ l ≤ 1000 ∧ (k ≠ 2 ∨ l = 1) ∧ 0 ≤ s ∧ s ≤ 6144 ∧ (zs.length : Int) = need s ∧ (∀ z ∈ zs, 0 ≤ z ∧ z ≤ 65535) ∧ zs.Nodup := by
  unfold fCheck at h
  by_cases hc : (k = 1 ∨ k = 2) ∧ 1 ≤ l ∧ l ≤ 1000 ∧ (k ≠ 2 ∨ l = 1) ∧ 0 ≤ s ∧ s ≤ 6144 ∧ (zs.length : Int) = need s ∧ (∀ z ∈ zs, 0 ≤ z ∧ z ≤ 65535) ∧ zs.Nodup
  · exact hc
  · rw [if_neg hc] at h; omega
theorem fCheck_two (k l s : Int) (zs : List Int) : fCheck k l s zs = 0 ∨ fCheck k l s zs = 1 := by
  unfold fCheck; split
  · exact .inl rfl
  · exact .inr rfl
def fBytes (k l s : Int) (zs : List Int) : ByteArray × Int := if fCheck k l s zs = 0 then (inoB k l s zs, 0) else (⟨#[]⟩, 1)
theorem numH (w0 : World) (g : Nat) (X : Array Value) (n : Nat) (k : Int) (w : World) (hB : Blk w g 37 X) (hb : Below g w0 w) (hn : n < 65536) (h0 : 0 ≤ k) (hk : k ≤ 8) :
    Calls Try.prog 37 #[.int .u64 n, .int .i64 k] w fun e w' => ∃ s, e = .returned (.string s) ∧ Hid (s = numB n k.toNat) ∧ s.size = k.toNat ∧ Blk w' g 37 X ∧ Below g w0 w' := by
  obtain ⟨K, rfl⟩ := Int.eq_ofNat_of_zero_le h0
  refine (num_any n K w (by omega) (by omega)).mono ?_
  rintro e w' ⟨rfl, hbb⟩
  refine ⟨_, rfl, Lib.hid rfl, numB_size _ _, hB.below hbb hB.lt, hb.trans (hbb.mono (Nat.le_of_lt hB.lt))⟩
set_option maxRecDepth 100000 in
set_option maxHeartbeats 2000000 in
theorem rbytes_any (k l s : Int) (A : Option Addr) (n c : Nat) (zs : List Int) (w : World) (hs0 : -9223372036854775808 ≤ s) (hs1 : s ≤ 9223372036854775807) (hn : zs.length = n) (hl : n ≤ 1000) (hr : Reads w w.heap.size 1 A n (zs.map (Value.int .i64))) :
    Calls Try.prog 21 #[.agg #[.int .i64 k, .int .i64 l, .int .i64 s, .slice A n c]] w fun e w' => e = .returned (.tuple #[.string (fBytes k l s zs).1, .int .i64 (fBytes k l s zs).2]) ∧ Below w.heap.size w w' := by
  have hbe : Below w.heap.size w (w.alloc (.cells #[.int .i64 k, .int .i64 l, .int .i64 s, .slice A n c] 37)) := (Below.refl _ w).alloc (Nat.le_refl _) _
  have bk : Blk (w.alloc (.cells #[.int .i64 k, .int .i64 l, .int .i64 s, .slice A n c] 37)) w.heap.size 37 #[.int .i64 k, .int .i64 l, .int .i64 s, .slice A n c] := Blk.new _ _ _
  have hck := rcheck_any k l s A n c zs (w.alloc (.cells #[.int .i64 k, .int .i64 l, .int .i64 s, .slice A n c] 37)) hs0 hs1 hn (by omega) ((hr.alloc (Nat.le_refl _) _).more (by simp))
  rcases fCheck_two k l s zs with h0 | h1
  · have hf : fBytes k l s zs = (inoB k l s zs, 0) := if_pos h0
    rw [hf]
    rw [h0] at hck
    obtain ⟨hk, l1, l2, _, s1, s2, hnd, hz, _⟩ := fCheck_ok h0
    obtain ⟨K, rfl⟩ := Int.eq_ofNat_of_zero_le (show 0 ≤ k by omega)
    obtain ⟨L, rfl⟩ := Int.eq_ofNat_of_zero_le (show 0 ≤ l by omega)
    obtain ⟨S, rfl⟩ := Int.eq_ofNat_of_zero_le s1
    have hK : K ≤ 2 := by omega
    have hL : L ≤ 1000 := by omega
    have hS : S ≤ 6144 := by omega
    clear h0 hf hk hnd s1 s2 l1 l2 hs0 hs1
    generalize hres : inoB K L S zs = res
    have HR := Lib.hid hres; clear hres
    go_enter Try.func21, Try.ntmps21
    go_wp2_with fail
    refine hck.mono ?_
    rintro e w1 ⟨rfl, b1⟩
    have b2 : Below w.heap.size w w1 := hbe.trans (b1.mono (by simp))
    have bk1 := bk.below b1 bk.lt
    have bkd := bk1.drewN 1
    have b2d := bdrewN b2 1
    have d0 : w1.cell? ⟨w.heap.size, 0, none⟩ = some (.int .i64 K) := bk1.cell 0
    have d1 : w1.cell? ⟨w.heap.size, 1, none⟩ = some (.int .i64 L) := bk1.cell 1
    have d2 : w1.cell? ⟨w.heap.size, 2, none⟩ = some (.int .i64 S) := bk1.cell 2
    have u0 : IntKind.u64.wrap (K : Int) = (K : Int) := by rw [IntKind.wrap_u64]; omega
    have u1 : IntKind.u64.wrap (L : Int) = (L : Int) := by rw [IntKind.wrap_u64]; omega
    have u2 : IntKind.u64.wrap (S : Int) = (S : Int) := by rw [IntKind.wrap_u64]; omega
    have hK1 : K < 65536 := by omega
    have hL1 : L < 65536 := by omega
    have hS1 : S < 65536 := by omega
    generalize hg : w.heap.size = g at *
    replace hg := Lib.hid hg
    clear bk1 bk hck b1 hbe b2
    go_wp2_with fail
    go_region_held3 (fun w' => w'.cell? ⟨g, 0, none⟩ = some (.int .i64 K) ∧ w'.cell? ⟨g, 1, none⟩ = some (.int .i64 L) ∧ w'.cell? ⟨g, 2, none⟩ = some (.int .i64 S)) (go_keep)
      (first
        | (go_at_call 37; refine (numH w g _ _ _ _ (by assumption) (by assumption) (by assumption) (by decide) (by decide)).mono ?_; rintro e wa ⟨sa, rfl, ha, za, oa, ba⟩; have x0 : wa.cell? ⟨g, 0, none⟩ = some (.int .i64 K) := oa.cell 0; have x1 : wa.cell? ⟨g, 1, none⟩ = some (.int .i64 L) := oa.cell 1; have x2 : wa.cell? ⟨g, 2, none⟩ = some (.int .i64 S) := oa.cell 2))
    rename_i wa1 sa1 ha1 za1 oa1 ba1 x01 x11 x21 wa2 sa2 ha2 za2 oa2 ba2 x02 x12 x22 hHeld
    have hhd : (⟨#[76, 71, 73, 49]⟩ : ByteArray) ++ sa1 ++ sa2 ++ sa = hdB K L S := by rw [ha1.out, ha2.out, ha.out]; rfl
    have hhs : (hdB K L S).size = 12 := hdB_size K L S
    rw [hhd]
    generalize hdB K L S = hd at *
    have hRes : Hid (hd ++ dataB zs = res) := Lib.hid (by rw [← hhd, ha1.out, ha2.out, ha.out]; exact HR.out)
    clear hhd x01 x11 x21 x02 x12 x22 x0 x1 x2 ba2 ba1 oa2 oa1 za2 za1 ha ha1 ha2 wa1 wa2 d0 d1 d2 bkd b2d HR
    go_wp2_with fail
    go_loopw [4, 5] (fun a p wr => ∃ i : Nat, p = .int .i64 i ∧ i ≤ n ∧ a = .string (hd ++ dataB (zs.take i)) ∧ Blk wr g 37 #[.int .i64 K, .int .i64 L, .int .i64 S, .slice A n c] ∧ Below g w wr) (fun _ p _ => n - (intOf p).toNat)
    case atStart => exact ⟨0, rfl, by omega, by show _ = Value.string (hd ++ (⟨#[]⟩ : ByteArray)); rw [ba_app_nil], oa, ba⟩
    case round =>
      clear oa ba
      obtain ⟨i, rfl, hi, rfl, oa, ba⟩ := hrel
      have a3 : wr.cell? ⟨g, 3, none⟩ = some (.slice A n c) := oa.cell 3
      by_cases hlt : i < n
      · obtain ⟨ad1, rfl, _, q1⟩ := ints_at (hr.below ba) hn hlt
        have e1 : zs.take (i + 1) = zs.take i ++ [zs.getD i 0] := by rw [List.take_succ_eq_append_getElem (by omega), List.getD_eq_getElem?_getD, List.getElem?_eq_getElem (by omega)]; rfl
        have hmem : zs.getD i 0 ∈ zs := by rw [List.getD_eq_getElem?_getD, List.getElem?_eq_getElem (by omega)]; exact List.getElem_mem _
        have hcs : (hd ++ dataB (zs.take i)).size = 12 + 4 * i := by rw [ByteArray.size_append, hhs, dataB_size, List.length_take]; omega
        obtain ⟨z0, z1⟩ := hz _ hmem
        generalize zs.getD i 0 = x at *
        obtain ⟨x, rfl⟩ := Int.eq_ofNat_of_zero_le z0
        have hx : x < 65536 := by omega
        have hnx : hd ++ dataB (zs.take (i + 1)) = (hd ++ dataB (zs.take i)) ++ numB x 4 := by rw [e1, dataB_snoc, ByteArray.append_assoc]; rfl
        generalize hd ++ dataB (zs.take i) = cur at *
        have HN := Lib.hid hnx; clear e1 hmem hnx z0 z1
        have u0 : IntKind.u64.wrap (x : Int) = (x : Int) := by rw [IntKind.wrap_u64]; omega
        go_wp2_with fail
        refine (numH w g _ x 4 _ oa ba hx (by decide) (by decide)).mono ?_
        rintro e wa ⟨sa, rfl, ha, za, ob, bb⟩
        have hsum : cur.size + sa.size ≤ 9223372036854775807 := by rw [za, hcs]; show 12 + 4 * i + 4 ≤ _; omega
        go_wp2_with fail
        go_roundw
        case rel => exact ⟨i + 1, vint (by omega), by omega, by rw [HN.out, ha.out]; rfl, ob, bb⟩
        case measure => simp [intOf]; omega
      · obtain rfl : i = n := by omega
        have hrs : hd ++ dataB (zs.take i) = res := by rw [← hRes.out, List.take_of_length_le (by omega)]
        rw [hrs]
        go_wp2_with fail
        go_ret2
        exact ⟨rfl, by rw [hg.out]; exact ba⟩
  · have hf : fBytes k l s zs = (⟨#[]⟩, 1) := if_neg (by rw [h1]; omega)
    rw [hf]
    rw [h1] at hck
    clear hf h1 bk
    go_enter Try.func21, Try.ntmps21
    go_wp2_with fail
    refine hck.mono ?_
    rintro e w1 ⟨rfl, b1⟩
    have b2 : Below w.heap.size w w1 := hbe.trans (b1.mono (by simp))
    go_wp2_with fail
    go_ret2
    exact ⟨rfl, b2⟩
end Go.Proofs.Ytepmgcgpioljiaa
