import Derived.Test.YtekgoliakgknjaaDiP
import Derived.Deep.CutBlock
namespace Go.Proofs.Ytekgoliakgknjaa
open Go.RowKit
set_option linter.unusedVariables false
attribute [local go_sem] b_max2 b_min2 b_max b_min

set_option maxRecDepth 100000 in
set_option maxHeartbeats 2000000 in
theorem law_flushes (A : Option Addr) (len cap : Nat) (o : OpR) (x : Int) (w : World) (zo : OpsAt w A len o) (h0 : -9223372036854775808 ≤ x) (h1 : x ≤ 9223372036854775807) :
    Calls Try.prog 5 #[.slice A len cap, .int .i64 x] w fun e w' => e = .returned (.bool true) ∧ Below w.heap.size w w' := by
  go_enter Try.func5, Try.ntmps5
  go_wp2_with fail
  refine (awake_any _).mono ?_
  rintro e w1 ⟨rfl, hb1⟩
  go_wp2_with fail
  refine (new_dl w w1 hb1 4 (by omega) (by omega)).mono ?_
  rintro e w2 ⟨g, rfl, h2⟩
  clear hb1
  go_wp2_with fail
  refine (h2.reg 1 0 (d' := FL Z4 []) (by
    show (_, _) = _
    congr 1
    unfold FL DS.new
    congr 1
    funext j
    split <;> rfl)).mono ?_
  rintro e w3 ⟨rfl, h3⟩
  clear h2
  obtain ⟨w4, hm, hc, b4⟩ := zero_text w3 512 (by omega)
  have h4 := h3.low b4
  have hm' : (Instr.makeSlice 28 (.int .i64 512) (.int .i64 512)).run Try.prog w3 = .ok (.slice (some ⟨w3.heap.size, 0, none⟩) 512 512) w4 := hm
  clear h3 b4 hm
  generalize hZ : zeros 512 = z at *
  replace hZ := Lib.hid hZ
  go_upto_region 8 with (fail)
  have z8 : Blk ((w4.alloc (.cells #[.string z, .string z, .string z, .string z] 29)).alloc (.cells #[.string z, .string z, .string z, .string z] 29)) w4.heap.size 29 (strs [z, z, z, z]) := (Blk.new w4 29 #[.string z, .string z, .string z, .string z]).alloc _
  have z9 : Blk ((w4.alloc (.cells #[.string z, .string z, .string z, .string z] 29)).alloc (.cells #[.string z, .string z, .string z, .string z] 29)) (w4.heap.size + 1) 29 (strs [z, z, z, z]) := by
    have h := Blk.new (w4.alloc (.cells #[.string z, .string z, .string z, .string z] 29)) 29 #[.string z, .string z, .string z, .string z]
    rw [sz_alloc] at h; exact h
  have h5 : DZ w ((w4.alloc (.cells #[.string z, .string z, .string z, .string z] 29)).alloc (.cells #[.string z, .string z, .string z, .string z] 29)) g (FL Z4 []) (fun k => k = w4.heap.size ∨ k = w4.heap.size + 1) :=
    h4.dz (((Below.refl _ _).alloc (Nat.le_refl _) _).alloc (by simp) _) (fun k hk => by simp; omega)
  have hZ4 : Z4 = [z, z, z, z] := by rw [← hZ.out]; rfl
  rw [hZ4] at h5
  have hwz : w.heap.size ≤ w4.heap.size := h4.b.size
  clear h4 hm' hc hZ4
  generalize hzz : w4.heap.size = za at *
  generalize (w4.alloc (.cells #[.string z, .string z, .string z, .string z] 29)).alloc (.cells #[.string z, .string z, .string z, .string z] 29) = w5 at *
  clear hzz
  go_upto_block 0 with (fail)
  go_cut [10] (fun _ w' => ∃ (L : List ByteArray) (C : List Put), C.length ≤ 20 ∧ Hid (L.length = 4) ∧ DZ w w' g (FL L C) (fun k => k = za ∨ k = za + 1) ∧ Blk w' za 29 (strs L) ∧ Blk w' (za + 1) 29 (strs (LA C L)))
  case first =>
   go_wp2_with fail
   go_loopw [10, 11] (fun p _ wr => ∃ (i : Nat) (L : List ByteArray) (C : List Put), p = .int .i64 i ∧ i ≤ len ∧ i ≤ 20 ∧ C.length ≤ i ∧ Hid (L.length = 4) ∧ DZ w wr g (FL L C) (fun k => k = za ∨ k = za + 1) ∧ Blk wr za 29 (strs L) ∧ Blk wr (za + 1) 29 (strs (LA C L))) (fun p _ _ => 20 - (intOf p).toNat)
   case atStart => exact ⟨0, _, [], rfl, by omega, by omega, by simp, Lib.hid rfl, h5, z8, z9⟩
   case round =>
     clear h5 z8 z9
     obtain ⟨i, L, C, rfl, hil, hi20, hC, hL, hs, b8, b9⟩ := hrel
     by_cases hlt : i < len ∧ i < 20
     · obtain ⟨hlt, hlt2⟩ := hlt
       obtain ⟨ad, rfl, hc0, hc1, hc2, hc3, hc4, _, _⟩ := ops_at zo hs.b hlt
       have hd20 : decide ((i : Int) < 20) = true := by rw [decide_eq_true_eq]; omega
       have hy := zo.yb i
       have hf3 := i64_and3 (o.K i 2)
       have hf4 : (o.K i 2 % 4).toNat < 4 := by omega
       generalize (o.K i 2 % 4).toNat = s at *
       generalize o.K i 2 = K2 at *
       generalize o.Y i = y at *
       have hT : (LA C L).length = 4 := by rw [LA_len]; exact hL.out
       go_wp2_with fail
       refine (sector_any y _ hy).mono ?_
       rintro e w6 ⟨rfl, b6⟩
       obtain ⟨h6, k6⟩ := hs.low b6
       have c8 := k6 _ _ _ (.inl rfl) b8
       have c9 := k6 _ _ _ (.inr rfl) b9
       clear hs b8 b9 k6 hc0 hc1 hc2 hc3 hc4
       have q9 : w6.cell? ⟨za + 1, s, none⟩ = some (.string ((LA C L).getD s ⟨#[]⟩)) := (c9.cell s).trans (strs_get _ (by omega))
       have f9 : w6.frozen? ⟨za + 1, s, none⟩ = false := c9.frozen s
       have h7 := h6.set_ (z := za + 1) (.inr rfl) (by omega) s (.string (sec y))
       have d8 : Blk (w6.setCell ⟨za + 1, s, none⟩ (.string (sec y))) za 29 (strs L) := c8.far (p := ⟨za + 1, s, none⟩) (by simp) _
       have d9 : Blk (w6.setCell ⟨za + 1, s, none⟩ (.string (sec y))) (za + 1) 29 (strs (LA (C ++ [(s, sec y)]) L)) := by
         rw [LA_snoc, ← strs_set]; exact c9.set_ s _
       have hs4 : (s : Int) < 4 := by omega
       go_upto_region 13 with (fail)
       clear q9 f9 h6 c8 c9
       generalize w6.setCell ⟨za + 1, s, none⟩ (.string (sec y)) = w7 at *
       have q9 : w7.cell? ⟨za + 1, s, none⟩ = some (.string (sec y)) := by
         rw [d9.cell s, LA_snoc]
         refine (strs_get _ (by rw [List.length_set]; omega)).trans ?_
         rw [List.getD_eq_getElem?_getD, List.getElem?_set_self (by omega)]; rfl
       go_wp2_with fail
       refine (h7.write 1 s (sec y) 0 (by show C.length ≤ 1000; omega) (fl_write hL.out hf4 y)).mono ?_
       rintro e w8 ⟨rfl, h8, k8⟩
       have e8 := k8 _ _ _ (.inl rfl) d8
       have e9 := k8 _ _ _ (.inr rfl) d9
       clear d8 d9 q9 h7 k8
       by_cases hx : (i : Int) = x
       · have hx' : ((i : Int) == x) = true := by rw [beq_iff_eq]; exact hx
         clear hx
         go_wp2_with fail
         refine (h8.flush 1 0 (by show (C ++ [(s, sec y)]).length ≤ 100000; simp; omega) (fl_flush hL.out)).mono ?_
         rintro e w9 ⟨rfl, h9, k9⟩
         have f8 := k9 _ _ _ (.inl rfl) e8
         have f9 := k9 _ _ _ (.inr rfl) e9
         clear e8 e9 h8 k9
         go_wp2_with fail
         refine (h9.cached 1).mono ?_
         rintro e w10 ⟨rfl, rfl⟩
         rw [show (FL (LA (C ++ [(s, sec y)]) L) []).caches 1 = [] from rfl]
         have hT2 : (LA (C ++ [(s, sec y)]) L).length = 4 := by rw [LA_len]; exact hL.out
         have hL' := hL.out
         generalize LA (C ++ [(s, sec y)]) L = T at *
         obtain ⟨t0, t1, t2, t3, rfl⟩ : ∃ t0 t1 t2 t3, T = [t0, t1, t2, t3] := by
           match T, hT2 with
           | [a, b, c, d], _ => exact ⟨a, b, c, d, rfl⟩
         obtain ⟨l0, l1, l2, l3, rfl⟩ : ∃ t0 t1 t2 t3, L = [t0, t1, t2, t3] := by
           match L, hL' with
           | [a, b, c, d], _ => exact ⟨a, b, c, d, rfl⟩
         have r0 : w9.cell? ⟨za + 1, 0, none⟩ = some (.string t0) := f9.cell 0
         have r1 : w9.cell? ⟨za + 1, 1, none⟩ = some (.string t1) := f9.cell 1
         have r2 : w9.cell? ⟨za + 1, 2, none⟩ = some (.string t2) := f9.cell 2
         have r3 : w9.cell? ⟨za + 1, 3, none⟩ = some (.string t3) := f9.cell 3
         have s0 : w9.cell? ⟨za, 0, none⟩ = some (.string l0) := f8.cell 0
         have s1 : w9.cell? ⟨za, 1, none⟩ = some (.string l1) := f8.cell 1
         have s2 : w9.cell? ⟨za, 2, none⟩ = some (.string l2) := f8.cell 2
         have s3 : w9.cell? ⟨za, 3, none⟩ = some (.string l3) := f8.cell 3
         have g0 : w9.frozen? ⟨za, 0, none⟩ = false := f8.frozen 0
         have g1 : w9.frozen? ⟨za, 1, none⟩ = false := f8.frozen 1
         have g2 : w9.frozen? ⟨za, 2, none⟩ = false := f8.frozen 2
         have g3 : w9.frozen? ⟨za, 3, none⟩ = false := f8.frozen 3
         go_wp2_with fail
         have m9 := (((h9.set_ (z := za) (.inl rfl) hwz 0 (.string t0)).set_ (z := za) (.inl rfl) hwz 1 (.string t1)).set_ (z := za) (.inl rfl) hwz 2 (.string t2)).set_ (z := za) (.inl rfl) hwz 3 (.string t3)
         have m8 := (((f8.set_ 0 (.string t0)).set_ 1 (.string t1)).set_ 2 (.string t2)).set_ 3 (.string t3)
         have m7 := (((f9.far (p := ⟨za, 0, none⟩) (by simp) (.string t0)).far (p := ⟨za, 1, none⟩) (by simp) (.string t1)).far (p := ⟨za, 2, none⟩) (by simp) (.string t2)).far (p := ⟨za, 3, none⟩) (by simp) (.string t3)
         go_roundw
         case rel => exact ⟨i + 1, [t0, t1, t2, t3], [], vint (by omega), by omega, by omega, by simp, Lib.hid rfl, m9, m8, m7⟩
         case measure => simp [intOf]; omega
       · have hx' : ((i : Int) == x) = false := by rw [beq_eq_false_iff_ne]; exact hx
         clear hx
         go_wp2_with fail
         go_roundw
         case rel => exact ⟨i + 1, L, _, vint (by omega), by omega, by omega, by simp; omega, hL, h8, e8, e9⟩
         case measure => simp [intOf]; omega
     · have hend : ∃ (L : List ByteArray) (C : List Put), C.length ≤ 20 ∧ Hid (L.length = 4) ∧ DZ w wr g (FL L C) (fun k => k = za ∨ k = za + 1) ∧ Blk wr za 29 (strs L) ∧ Blk wr (za + 1) 29 (strs (LA C L)) := ⟨L, C, by omega, hL, hs, b8, b9⟩
       have hd : (decide (i < len) && decide ((i : Int) < 20)) = false := by simp; omega
       clear hs b8 b9 hL hC zo
       go_wp2_with fail
       all_goals go_meet
       all_goals exact hend
  case rest =>
  clear h5 z8 z9 zo
  obtain ⟨L2, C2, hC, hL, hs, b8, b9⟩ := hcut
  go_wp2_with fail
  go_loopw [12, 13, 14] (fun p _ _ wr => ∃ s : Nat, p = .int .i64 s ∧ s ≤ 4 ∧ DZ w wr g (FL L2 C2) (fun k => k = za ∨ k = za + 1) ∧ Blk wr za 29 (strs L2) ∧ Blk wr (za + 1) 29 (strs (LA C2 L2))) (fun p _ _ _ => 4 - (intOf p).toNat)
  case atStart => exact ⟨0, rfl, by omega, hs, b8, b9⟩
  case round =>
    clear hs b8 b9
    obtain ⟨s, rfl, hs4, hs, b8, b9⟩ := hrel
    have hT : (LA C2 L2).length = 4 := by rw [LA_len]; exact hL.out
    have hL4 := hL.out
    by_cases hlt3 : s < 4
    · go_wp2_with fail
      refine (hs.read 1 s _ 0 (by show C2.length ≤ 100000; omega) (fl_read hL.out hlt3)).mono ?_
      rintro e w6 ⟨rfl, h6, k6⟩
      have c8 := k6 _ _ _ (.inl rfl) b8
      have c9 := k6 _ _ _ (.inr rfl) b9
      clear b8 b9 hs k6
      have q8 : w6.cell? ⟨za, s, none⟩ = some (.string (L2.getD s ⟨#[]⟩)) := (c8.cell s).trans (strs_get _ (by omega))
      have q9 : w6.cell? ⟨za + 1, s, none⟩ = some (.string ((LA C2 L2).getD s ⟨#[]⟩)) := (c9.cell s).trans (strs_get _ (by omega))
      have cp : ∀ k, Calls Try.prog 16 #[.pointer (some ⟨g, 0, none⟩), .int .i64 s] (w6.drewN k) fun e w' => e = .returned (.string (L2.getD s ⟨#[]⟩)) ∧ ∃ m, w' = w6.drewN m :=
        fun k => ((h6.drewN k).peek s _ (fl_peek hL.out hlt3)).mono fun e w' ⟨e1, e2⟩ => ⟨e1, k, e2.symm⟩
      generalize L2.getD s ⟨#[]⟩ = x1 at *
      generalize (LA C2 L2).getD s ⟨#[]⟩ = x2 at *
      have l1 := beq_list x1
      have l2 := beq_list x2
      have CP := Lib.hid cp; clear cp
      go_wp2_with fail
      go_quiet ((first | (go_at_call 16; exact CP.out _)))
      go_wp2_with fail
      go_roundw
      case rel => exact ⟨s + 1, vint (by omega), by omega, h6.drewN _, c8.drewN _, c9.drewN _⟩
      case measure => simp [intOf]; omega
    · obtain rfl : s = 4 := by omega
      have hpk : ∀ s : Nat, s < 4 → fPeek (FL (LA C2 L2) []) s = (LA C2 L2).getD s ⟨#[]⟩ := fun s hs => fl_peek hT hs
      have hfl := fl_flush (C := C2) hL4
      generalize LA C2 L2 = T at *
      obtain ⟨t0, t1, t2, t3, rfl⟩ : ∃ t0 t1 t2 t3, T = [t0, t1, t2, t3] := by
        match T, hT with
        | [a, b, c, d], _ => exact ⟨a, b, c, d, rfl⟩
      have r0 : wr.cell? ⟨za + 1, 0, none⟩ = some (.string t0) := b9.cell 0
      have r3 : wr.cell? ⟨za + 1, 3, none⟩ = some (.string t3) := b9.cell 3
      have p0 : fPeek (FL [t0, t1, t2, t3] []) 0 = t0 := hpk 0 (by omega)
      have p3 : fPeek (FL [t0, t1, t2, t3] []) 3 = t3 := hpk 3 (by omega)
      have l1 := beq_list t0
      have l2 := beq_list t3
      have hsd := hs.drewN 1
      have b9d : Blk (wr.drewN 1) (za + 1) 29 (strs [t0, t1, t2, t3]) := b9
      clear hpk b8 hs b9
      go_wp2_with fail
      go_region_held3 (fun w' => w'.cell? ⟨za + 1, 0, none⟩ = some (.string t0) ∧ w'.cell? ⟨za + 1, 3, none⟩ = some (.string t3)) (go_keep)
        (first
          | (go_at_call 17; refine (hsd.flush 1 0 (by show C2.length ≤ 100000; omega) hfl).mono ?_; rintro e wf ⟨rfl, hf, kf⟩; have b9f := kf _ _ _ (.inr rfl) b9d; have v0 : wf.cell? ⟨za + 1, 0, none⟩ = some (.string t0) := b9f.cell 0; have v3 : wf.cell? ⟨za + 1, 3, none⟩ = some (.string t3) := b9f.cell 3)
          | (go_at_call 16; refine (hf.peek _ _ (by first | exact p0 | exact p3)).mono ?_; rintro e wg ⟨rfl, rfl⟩))
      all_goals
        go_wp2_with fail
        go_ret
        exact ⟨rfl, hf.b⟩
end Go.Proofs.Ytekgoliakgknjaa
