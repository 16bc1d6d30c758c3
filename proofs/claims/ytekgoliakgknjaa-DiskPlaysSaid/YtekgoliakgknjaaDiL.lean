import Derived.Test.YtekgoliakgknjaaDiK
namespace Go.Proofs.Ytekgoliakgknjaa
open Go.RowKit
set_option linter.unusedVariables false
attribute [local go_sem] b_max2 b_min2 b_max b_min
section
variable {w w' : World} {g : Nat} {F : Nat → Prop} {d : DS}
theorem last_any (h : IsD w g F d) (k s : Int) (hl : (d.caches k).length ≤ 100000) :
    Calls Try.prog 46 #[.pointer (some ⟨g, 0, none⟩), .int .i64 k, .int .i64 s] w fun e W' => e = .returned (.tuple #[.string ((fLast (d.caches k) s).getD ⟨#[]⟩), .bool (fLast (d.caches k) s).isSome]) ∧ Below w.heap.size w W' := by
  obtain ⟨cb, v, c2, hlk, ho, _, _⟩ := h.cache k
  obtain ⟨A, c, rfl, _, hR⟩ := Reads.of_own ho
  exact (callsIn_wide (n := 5)).1 (last_in Fence.wide 5 trivial trivial trivial rfl (by omega) g k s w cb A _ c (d.caches k) rfl hl c2 hlk hR)
/-- what a key sees in a sector -/
def fRead (d : DS) (k s : Int) : ByteArray × Int :=
  if fMay d k s false = 0 then ((fLast (d.caches k) s).getD (d.lies.getD s.toNat ⟨#[]⟩), 0) else (⟨#[]⟩, fMay d k s false)
set_option maxRecDepth 100000 in
set_option maxHeartbeats 400000 in
theorem read_any (h : IsD w g F d) (k s : Int) (hl : (d.caches k).length ≤ 100000) :
    Calls Try.prog 15 #[.pointer (some ⟨g, 0, none⟩), .int .i64 k, .int .i64 s] w fun e w' => e = .returned (.tuple #[.string (fRead d k s).1, .int .i64 (fRead d k s).2]) ∧ Below w.heap.size w w' := by
  have hm := may_any h k s none 0 0 [] rfl Reads.none_ (by omega)
  rw [show ([] : List ByteArray).any oddB = false from rfl] at hm
  have hlast := last_any h k s hl
  have hr : fRead d k s = if fMay d k s false = 0 then ((fLast (d.caches k) s).getD (d.lies.getD s.toNat ⟨#[]⟩), 0) else (⟨#[]⟩, fMay d k s false) := rfl
  rw [hr]
  by_cases h0 : fMay d k s false = 0
  · rw [if_pos h0]
    obtain ⟨s0, s1, _, _⟩ := may_zero h0
    rw [h0] at hm
    obtain ⟨n, rfl⟩ := Int.eq_ofNat_of_zero_le s0
    have hn : n < d.lies.length := by omega
    obtain ⟨vl, vp, kb, cb, cv, hB, _, _, _, _, _, _, h8, _⟩ := h.form
    obtain ⟨A, c, rfl, _, hR⟩ := Reads.of_own h8
    obtain ⟨ad, rfl, hadb, hcs⟩ := hR.2 (by omega)
    have hg := hcs n _ (by rw [List.getElem?_map, List.getElem?_eq_getElem hn]; rfl)
    have hgd : d.lies.getD (n : Int).toNat ⟨#[]⟩ = d.lies[n] := by rw [Int.toNat_natCast, List.getD_eq_getElem?_getD, List.getElem?_eq_getElem hn]; rfl
    rw [hgd]
    clear hgd hcs hR h8 s0 h0
    generalize d.lies[n] = x at *
    cases hf : fLast (d.caches k) n with
    | some y =>
      rw [hf] at hlast
      go_enter Try.func15, Try.ntmps15
      go_wp2_with (first | (go_at_call 45; refine hm.mono ?_; rintro e w' ⟨rfl, rfl⟩) | (go_at_call 46; refine hlast.mono ?_; rintro e w' ⟨rfl, hb⟩))
      go_ret2
      exact ⟨rfl, hb⟩
    | none =>
      rw [hf] at hlast
      have c0 : w.cell? ⟨g, 0, none⟩ = some (.slice (some ad) d.lies.length c) := hB.cell 0
      have hgl := hB.lt
      go_enter Try.func15, Try.ntmps15
      go_wp2_with (go_at_call 45; refine hm.mono ?_; rintro e w' ⟨rfl, rfl⟩)
      refine hlast.mono ?_
      rintro e w1 ⟨rfl, hb⟩
      have c0' : w1.cell? ⟨g, 0, none⟩ = some (.slice (some ad) d.lies.length c) := (hb.cell (p := ⟨g, 0, none⟩) hgl).trans c0
      have hg' : w1.cell? (ad.add n) = some (.string x) := (hb.cell (p := ad.add n) (by rw [block_of_add]; exact hadb)).trans hg
      go_wp2_with fail
      go_ret2
      exact ⟨rfl, hb⟩
  · rw [if_neg h0]
    have e0 : (fMay d k s false != 0) = true := by rw [bne_iff_ne]; exact h0
    generalize fMay d k s false = m at *
    clear h0
    go_enter Try.func15, Try.ntmps15
    go_wp2_with (first | (go_at_call 45; refine hm.mono ?_; rintro e w' ⟨rfl, rfl⟩) | (go_at_call 46; refine hlast.mono ?_; rintro e w' ⟨rfl, hb⟩))
    go_ret2
    exact ⟨rfl, Below.refl _ _⟩
/-- other bytes in a sector, if those lie there that should -/
def fSwap (d : DS) (k s : Int) (old now : ByteArray) : DS × Int :=
  if fMay d k s (oddB old || oddB now) ≠ 0 then (d, fMay d k s (oddB old || oddB now))
  else if (fLast (d.caches k) s).isSome then (d, 13) else if d.lies.getD s.toNat ⟨#[]⟩ = old then (d.setLies (d.lies.set s.toNat now), 0) else (d, 16)
set_option maxRecDepth 100000 in
set_option maxHeartbeats 1000000 in
theorem swap_any (h : IsD w g F d) (k s : Int) (old now : ByteArray) (hl : (d.caches k).length ≤ 100000) :
    Calls Try.prog 18 #[.pointer (some ⟨g, 0, none⟩), .int .i64 k, .int .i64 s, .string old, .string now] w fun e w' => e = .returned (.int .i64 (fSwap d k s old now).2) ∧ IsD w' g F (fSwap d k s old now).1 ∧ Fr F w w' := by
  have hA := h.alloc (.cells #[.string old, .string now] 9)
  have hm := may_any hA k s (some ⟨w.heap.size, 0, none⟩) 2 2 [old, now] rfl ((Reads.new w #[.string old, .string now] 9 2 rfl rfl).more (by simp)) (by omega)
  rw [show [old, now].any oddB = (oddB old || oddB now) by simp] at hm
  have hlow : Fr F w (w.alloc (.cells #[.string old, .string now] 9)) := Fr.alloc _ _ _
  have hres : fSwap d k s old now = if fMay d k s (oddB old || oddB now) ≠ 0 then (d, fMay d k s (oddB old || oddB now))
    else if (fLast (d.caches k) s).isSome then (d, 13) else if d.lies.getD s.toNat ⟨#[]⟩ = old then (d.setLies (d.lies.set s.toNat now), 0) else (d, 16) := rfl
  rw [hres]
  clear hres
  by_cases h0 : fMay d k s (oddB old || oddB now) = 0
  · rw [if_neg (by simp [h0])]
    obtain ⟨s0, s1, _, _⟩ := may_zero h0
    rw [h0] at hm
    obtain ⟨n, rfl⟩ := Int.eq_ofNat_of_zero_le s0
    have hn : n < d.lies.length := by omega
    have hlast := last_any hA k n hl
    generalize hww : w.alloc (.cells #[.string old, .string now] 9) = wa at *
    have HW := Lib.hid hww; clear hww
    clear s0 h0
    cases hf : fLast (d.caches k) n with
    | some y =>
      rw [hf] at hlast
      rw [if_pos (show (some y).isSome = true from rfl)]
      go_enter Try.func18, Try.ntmps18
      go_wp2_with (first | (go_at_call 45; rw [HW.out]; refine hm.mono ?_; rintro e w' ⟨rfl, rfl⟩) | (go_at_call 46; refine hlast.mono ?_; rintro e w' ⟨rfl, hb⟩))
      go_ret
      exact ⟨rfl, hA.low hb, hlow.trans (Fr.of_below hb _)⟩
    | none =>
      rw [hf] at hlast
      rw [if_neg (by simp)]
      have hgd : d.lies.getD (n : Int).toNat ⟨#[]⟩ = d.lies[n] := by rw [Int.toNat_natCast, List.getD_eq_getElem?_getD, List.getElem?_eq_getElem hn]; rfl
      rw [hgd]
      clear hgd
      by_cases hxo : d.lies[n] = old
      · rw [if_pos hxo]
        go_enter Try.func18, Try.ntmps18
        go_wp2_with (go_at_call 45; rw [HW.out]; refine hm.mono ?_; rintro e w' ⟨rfl, rfl⟩)
        refine hlast.mono ?_
        rintro e w1 ⟨rfl, hb⟩
        have h1 := hA.low hb
        have hfr : Fr F w w1 := hlow.trans (Fr.of_below hb _)
        obtain ⟨vl, vp, kb, cb, cv, hx⟩ := h1.form
        replace hx : FX w1 g F d vl vp kb cb cv := hx
        obtain ⟨b, cl, rfl⟩ := own_form hx.2.2.2.2.2.2.2.1 (by omega)
        have h8 := hx.2.2.2.2.2.2.2.1
        have c0 : w1.cell? ⟨g, 0, none⟩ = some (.slice (some ⟨b, 0, none⟩) d.lies.length cl) := hx.1.cell 0
        have hfz : w1.frozen? ⟨b, n, none⟩ = false := own_frozen h8
        obtain ⟨A8, c8, e8, _, hR8⟩ := Reads.of_own h8
        simp at e8
        obtain ⟨rfl, rfl⟩ := e8
        obtain ⟨ad8, e9, _, hc8⟩ := hR8.2 (by omega)
        obtain rfl := Option.some.inj e9
        have hg8 := hc8 n _ (by rw [List.getElem?_map, List.getElem?_eq_getElem hn]; rfl)
        rw [add_zero'] at hg8
        obtain ⟨x1, x2⟩ := hx.setLie rfl hn now
        have hfin : IsD (w1.setCell ⟨b, n, none⟩ (.string now)) g F (d.setLies (d.lies.set (n : Int).toNat now)) := ⟨⟨_, _, _, _, _, x1⟩, fun j hj => by simpa using h1.fb j hj, by simp [DS.setLies]; exact h1.cap⟩
        have HF := Lib.hid hfin; have HX := Lib.hid x2
        clear hfin x1 x2 hc8 hR8 h8 hx
        have hn' : (n : Int) < d.lies.length := by omega
        generalize d.lies[n] = x at *
        subst hxo
        have hbl := beq_list x
        go_wp2_with fail
        go_ret
        exact ⟨rfl, HF.out, hfr.trans HX.out⟩
      · rw [if_neg hxo]
        go_enter Try.func18, Try.ntmps18
        go_wp2_with (go_at_call 45; rw [HW.out]; refine hm.mono ?_; rintro e w' ⟨rfl, rfl⟩)
        refine hlast.mono ?_
        rintro e w1 ⟨rfl, hb⟩
        have h1 := hA.low hb
        have hfr : Fr F w w1 := hlow.trans (Fr.of_below hb _)
        obtain ⟨vl, vp, kb, cb, cv, hx⟩ := h1.form
        replace hx : FX w1 g F d vl vp kb cb cv := hx
        obtain ⟨b, cl, rfl⟩ := own_form hx.2.2.2.2.2.2.2.1 (by omega)
        have h8 := hx.2.2.2.2.2.2.2.1
        have c0 : w1.cell? ⟨g, 0, none⟩ = some (.slice (some ⟨b, 0, none⟩) d.lies.length cl) := hx.1.cell 0
        have hfz : w1.frozen? ⟨b, n, none⟩ = false := own_frozen h8
        obtain ⟨A8, c8, e8, _, hR8⟩ := Reads.of_own h8
        simp at e8
        obtain ⟨rfl, rfl⟩ := e8
        obtain ⟨ad8, e9, _, hc8⟩ := hR8.2 (by omega)
        obtain rfl := Option.some.inj e9
        have hg8 := hc8 n _ (by rw [List.getElem?_map, List.getElem?_eq_getElem hn]; rfl)
        rw [add_zero'] at hg8
        obtain ⟨x1, x2⟩ := hx.setLie rfl hn now
        have hfin : IsD (w1.setCell ⟨b, n, none⟩ (.string now)) g F (d.setLies (d.lies.set (n : Int).toNat now)) := ⟨⟨_, _, _, _, _, x1⟩, fun j hj => by simpa using h1.fb j hj, by simp [DS.setLies]; exact h1.cap⟩
        have HF := Lib.hid hfin; have HX := Lib.hid x2
        clear hfin x1 x2 hc8 hR8 h8 hx
        have hn' : (n : Int) < d.lies.length := by omega
        generalize d.lies[n] = x at *
        have hbl := bne_list hxo
        clear hxo
        go_wp2_with fail
        go_ret
        exact ⟨rfl, h1, hfr⟩
  · rw [if_pos h0]
    have e0 : (fMay d k s (oddB old || oddB now) != 0) = true := by rw [bne_iff_ne]; exact h0
    generalize fMay d k s (oddB old || oddB now) = m at *
    clear h0
    generalize hww : w.alloc (.cells #[.string old, .string now] 9) = wa at *
    have HW := Lib.hid hww; clear hww
    go_enter Try.func18, Try.ntmps18
    go_wp2_with (first | (go_at_call 45; rw [HW.out]; refine hm.mono ?_; rintro e w' ⟨rfl, rfl⟩))
    go_ret
    exact ⟨rfl, hA, hlow⟩
end
end Go.Proofs.Ytekgoliakgknjaa
