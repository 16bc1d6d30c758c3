import Derived.Test.YtekgoliakgknjaaDiL
namespace Go.Proofs.Ytekgoliakgknjaa
open Go.RowKit
set_option linter.unusedVariables false
attribute [local go_sem] b_max2 b_min2 b_max b_min
section
variable {B w w' : World} {g : Nat} {d d' : DS}
theorem DS.ok_swap {d : DS} (h : d.ok) (k s : Int) (old now : ByteArray) : (fSwap d k s old now).1.ok := by
  unfold fSwap
  split
  · exact h
  · split
    · exact h
    · split
      · intro j p hp
        show p.1 < (d.lies.set s.toNat now).length
        rw [List.length_set]
        exact h j p hp
      · exact h
theorem DL.swap (h : DL B w g d) (k s : Int) (old now : ByteArray) (r : Int) (hl : (d.caches k).length ≤ 100000) (hr : fSwap d k s old now = (d', r)) :
    Calls Try.prog 18 #[.pointer (some ⟨g, 0, none⟩), .int .i64 k, .int .i64 s, .string old, .string now] w fun e w' => e = .returned (.int .i64 r) ∧ DL B w' g d' := by
  obtain ⟨F, h1, h2, h3, h4⟩ := h
  have hok := DS.ok_swap h2 k s old now
  exact (swap_any h1 k s old now hl).mono fun e w' ⟨e1, e2, e3⟩ => by rw [hr] at e1 e2 hok; exact ⟨e1, (Aft.of_same e2 e3).dl hok h3 h4⟩
theorem DL.read (h : DL B w g d) (k s : Int) (t : ByteArray) (r : Int) (hl : (d.caches k).length ≤ 100000) (hr : fRead d k s = (t, r)) :
    Calls Try.prog 15 #[.pointer (some ⟨g, 0, none⟩), .int .i64 k, .int .i64 s] w fun e w' => e = .returned (.tuple #[.string t, .int .i64 r]) ∧ DL B w' g d ∧ Below w.heap.size w w' := by
  have h' := h
  obtain ⟨F, h1, h2, h3, h4⟩ := h
  exact (read_any h1 k s hl).mono fun e w' ⟨e1, e2⟩ => by rw [hr] at e1; exact ⟨e1, h'.low e2, e2⟩
theorem DL.cached (h : DL B w g d) (k : Int) : Calls Try.prog 19 #[.pointer (some ⟨g, 0, none⟩), .int .i64 k] w fun e w' => e = .returned (.int .i64 ((d.caches k).length : Nat)) ∧ w = w' := by
  obtain ⟨F, h1, _⟩ := h
  exact cached_any h1 k
theorem DL.registered (h : DL B w g d) (k : Int) (b : Bool) (hb : (d.keys k).getD false = b) : Calls Try.prog 23 #[.pointer (some ⟨g, 0, none⟩), .int .i64 k] w fun e w' => e = .returned (.bool b) ∧ w = w' := by
  obtain ⟨F, h1, _⟩ := h
  rw [← hb]; exact registered_any h1 k
end
/-! ### who swaps first -/
def upTo (k : Nat) : Int → Option Bool := fun j => if 1 ≤ j ∧ j < (k : Int) then some true else none
def swL (x : ByteArray) (k : Nat) : List ByteArray := [if k ≤ 1 then zeros 512 else x]
def swD (x : ByteArray) (k : Nat) : DS := ⟨swL x k, upTo k, C0, []⟩
def swE (x : ByteArray) (k : Nat) : DS := ⟨swL x k, upTo (k + 1), C0, []⟩
theorem sw_reg (x : ByteArray) (k : Nat) (h : 1 ≤ k) : fReg (swD x k) k = (swE x k, 0) := by
  unfold fReg swD swE
  rw [if_neg (by simp [swL]; omega)]
  rw [if_neg (by simp [upTo])]
  congr 2
  funext j
  unfold upTo
  by_cases hj : j = k
  · rw [if_pos hj, if_pos (by omega)]
  · rw [if_neg hj]
    dsimp only
    by_cases h2 : 1 ≤ j ∧ j < (k : Int)
    · rw [if_pos h2, if_pos (by omega)]
    · rw [if_neg h2, if_neg (by omega)]
theorem odd_z : oddB (zeros 512) = false := by unfold oddB; rw [zeros_size]; rfl
theorem sw_may (x : ByteArray) (k : Nat) (h : 1 ≤ k) (c : Nat) : fMay (swE x k) k 0 (oddB (zeros 512) || oddB (sec c)) = 0 := by
  rw [odd_z, oddB_sec]
  unfold fMay
  rw [if_neg (by simp [swE, swL])]
  rw [show (swE x k).keys k = some true from by unfold swE upTo; dsimp only; rw [if_pos (by omega)]]
  rfl
theorem sw_first (c : Nat) : fSwap (swE (sec c) 1) 1 0 (zeros 512) (sec c) = (swD (sec c) 2, 0) := by
  have := sw_may (sec c) 1 (by omega) c
  unfold fSwap
  rw [if_neg (by rw [show ((1 : Int)) = ((1 : Nat) : Int) from rfl, this]; simp)]
  rw [if_neg (by simp [swE, C0, fLast])]
  rw [if_pos (show (swE (sec c) 1).lies.getD (0 : Int).toNat ⟨#[]⟩ = zeros 512 from by simp [swE, swL])]
  unfold swE swD swL DS.setLies
  simp
theorem sw_next (x : ByteArray) (hx : x ≠ zeros 512) (k : Nat) (h : 2 ≤ k) (c : Nat) : fSwap (swE x k) k 0 (zeros 512) (sec c) = (swD x (k + 1), 16) := by
  have := sw_may x k (by omega) c
  unfold fSwap
  rw [if_neg (by rw [this]; simp)]
  rw [if_neg (by simp [swE, C0, fLast])]
  rw [if_neg (by simp only [swE, swL]; rw [if_neg (by omega)]; exact hx)]
  unfold swE swD swL
  rw [if_neg (by omega), if_neg (by omega)]
theorem open_u8s {H : Type} {enc : TypeId × Value → H} {held : Bool} {w : World} {t e : TypeId} {fuel : Nat} {A : Option Addr} {len cap : Nat} {x : DataW H × List MemPlace} (ht : Try.prog.underlying t = some (.slice e)) (he : Try.prog.underlying e = some (.int .u8)) (hc : Try.prog.cellsOf e = 1)
    (h : DataW.trod enc Try.prog w 0 (fun _ => true) held fuel t [.slice A len cap] = some x) :
    ∃ zs : List Int, zs.length = len ∧ (∀ z ∈ zs, 0 ≤ z ∧ z ≤ 255) ∧ Reads w w.heap.size 1 A len (zs.map (Value.int .u8)) := by
  rcases Go.ChangeShapes.open_ints ht he hc h with ⟨hcs, _⟩ | ⟨a, l, c, zs, hcs, _, hl, _, hz, _, hcell, hwz⟩
  · simp only [List.cons.injEq, Value.slice.injEq, and_true] at hcs
    obtain ⟨rfl, rfl, rfl⟩ := hcs
    exact ⟨[], rfl, fun z hz => by simp at hz, ⟨by simp, fun h => absurd h (by omega)⟩⟩
  · simp only [List.cons.injEq, Value.slice.injEq, and_true] at hcs
    obtain ⟨rfl, rfl, rfl⟩ := hcs
    have hzc : zs.length = cap := by simpa using hz
    refine ⟨zs.take len, by simp; omega, fun z hz => ?_, ⟨by simp; omega, fun hn => ⟨a, rfl, ?_, ?_⟩⟩⟩
    · have h1 : (decide ((0 : Int) ≤ z) && decide (z ≤ (255 : Int))) = true := hwz z (List.mem_of_mem_take hz)
      simpa using h1
    · have := World.block_lt_of_cell? w _ (hcell 0 (by omega))
      rwa [block_of_add] at this
    · intro j u hu
      rw [List.getElem?_map, List.getElem?_take] at hu
      split at hu
      · rename_i hj
        have hjl : j < zs.length := by omega
        rw [hcell j hjl, ← hu, List.getElem?_eq_getElem hjl, List.getD_eq_getElem?_getD, List.getElem?_eq_getElem hjl]; rfl
      · cases hu
set_option maxRecDepth 100000 in
set_option maxHeartbeats 1000000 in
theorem law_swaps (a : Int) (A : Option Addr) (len cap : Nat) (zs : List Int) (w : World) (h0 : -9223372036854775808 ≤ a) (h1 : a ≤ 9223372036854775807) (ol : zs.length = len) (ob : ∀ z ∈ zs, 0 ≤ z ∧ z ≤ 255) (zr : Reads w w.heap.size 1 A len (zs.map (Value.int .u8))) :
    Calls Try.prog 4 #[.int .i64 a, .slice A len cap] w fun e w' => e = .returned (.bool true) ∧ Below w.heap.size w w' := by
  have ta1 := Int.tmod_lt_of_pos a (show (0:Int) < 8 by omega)
  have ta2 := Int.lt_tmod_of_pos a (show (0:Int) < 8 by omega)
  go_enter Try.func4, Try.ntmps4
  go_wp2_with fail
  refine (awake_any _).mono ?_
  rintro e w1 ⟨rfl, hb1⟩
  go_wp2_with fail
  refine (new_dl w w1 hb1 1 (by omega) (by omega)).mono ?_
  rintro e w2 ⟨g, rfl, h2⟩
  clear hb1
  go_upto_if 18 with (fail)
  go_cut [7] (fun s w' => ∃ x : Nat, s = .int .i64 x ∧ x ≤ 7 ∧ w2 = w')
  case first =>
    go_wp2
    all_goals go_meet
    · exact ⟨(-a.tmod 8).toNat, vint (by omega), by omega, rfl⟩
    · exact ⟨(a.tmod 8).toNat, vint (by omega), by omega, rfl⟩
  case rest =>
  obtain ⟨n, rfl, hn, rfl⟩ := hcut
  clear ta1 ta2
  go_wp2_with fail
  refine (h2.peek 0 (zeros 512) rfl).mono ?_
  rintro e w3 ⟨rfl, rfl⟩
  -- what the first key writes
  obtain ⟨c1, hc1, hcc⟩ : ∃ c1 : Nat, c1 < 256 ∧ ((len = 0 ∧ c1 = 1) ∨ (0 < len ∧ zs[0]? = some (c1 : Int))) := by
    rcases Nat.eq_zero_or_pos len with h | h
    · exact ⟨1, by omega, .inl ⟨h, rfl⟩⟩
    · have hz : zs[0]? = some (zs[0]'(by omega)) := List.getElem?_eq_getElem (by omega)
      have := ob (zs[0]'(by omega)) (List.getElem_mem _)
      refine ⟨(zs[0]'(by omega)).toNat, by omega, .inr ⟨h, ?_⟩⟩
      rw [hz]; congr 1; omega
  have h3 : DL w w2 g (swD (sec c1) 1) := by
    have e : DS.new 1 = swD (sec c1) 1 := by
      unfold DS.new swD swL
      rw [if_pos (by omega)]
      congr 1
      funext j
      unfold upTo
      rw [if_neg (by omega)]
    rw [← e]; exact h2
  clear h2
  go_wp2_with fail
  go_loopw [9, 10, 11] (fun p _ _ wr => ∃ k : Nat, p = .int .i64 k ∧ 1 ≤ k ∧ k ≤ n + 2 ∧ DL w wr g (swD (sec c1) k)) (fun p _ _ _ => n + 3 - (intOf p).toNat)
  case atStart => exact ⟨1, rfl, by omega, by omega, h3⟩
  case round =>
    clear h3
    obtain ⟨k, rfl, hk1, hk2, hs⟩ := hrel
    by_cases hlt : k ≤ n + 1
    · go_wp2_with fail
      refine (hs.reg k 0 (sw_reg _ k hk1)).mono ?_
      rintro e w4 ⟨rfl, h4⟩
      clear hs
      go_upto_if 41 with (fail)
      go_cut [10] (fun v w' => ∃ c : Nat, v = .int .u8 c ∧ c < 256 ∧ (k = 1 → c = c1) ∧ w4 = w')
      case first =>
        by_cases hkl : k ≤ len
        · obtain ⟨q, rfl⟩ : ∃ q, k = q + 1 := ⟨k - 1, by omega⟩
          obtain ⟨ad, rfl, hadb, hcs⟩ := zr.2 (by omega)
          have hz : zs[q]? = some (zs[q]'(by omega)) := List.getElem?_eq_getElem (by omega)
          have hg := hcs q _ (by rw [List.getElem?_map, hz]; rfl)
          have hg4 : w4.cell? (ad.add q) = some (.int .u8 (zs[q]'(by omega))) := (h4.b.cell (p := ad.add q) (by rw [block_of_add]; exact hadb)).trans hg
          have hb := ob (zs[q]'(by omega)) (List.getElem_mem _)
          have hq0 : q = 0 → (zs[q]'(by omega)).toNat = c1 := by
            intro e
            subst e
            rcases hcc with ⟨h, _⟩ | ⟨_, h⟩
            · omega
            · rw [hz] at h
              rw [Option.some.inj h]; simp
          have HQ := Lib.hid hq0
          clear hcs hz hg hcc zr ob hq0 h4
          generalize zs[q]'(by omega) = y at *
          have hv : IntKind.i64.wrap (((q + 1 : Nat) : Int) - 1) = (q : Int) := by rw [show ((q + 1 : Nat) : Int) - 1 = q by omega]; exact IntWalk.i64_in _ (by omega)
          go_wp2_with fail
          go_meet
          exact ⟨y.toNat, vint (by omega), by omega, fun e => HQ.out (by omega), rfl⟩
        · have hk1' : k = 1 → k = c1 := by
            intro e
            rcases hcc with ⟨_, h⟩ | ⟨h, _⟩
            · omega
            · omega
          have HK := Lib.hid hk1'; clear hk1' hcc
          go_wp2_with fail
          go_meet
          exact ⟨k, rfl, by omega, HK.out, rfl⟩
      case rest =>
      obtain ⟨c, rfl, hc, hcc1, rfl⟩ := hcut
      go_wp2_with fail
      refine (sector_any c _ hc).mono ?_
      rintro e w5 ⟨rfl, b5⟩
      have h5 := h4.low b5
      clear h4 b5
      go_wp2_with fail
      by_cases hk : k = 1
      · have e1 : ((k : Int) == 1) = true := by rw [beq_iff_eq]; omega
        have hcc' := hcc1 hk
        refine (h5.swap k 0 (zeros 512) (sec c) 0 (by show 0 ≤ 100000; omega) (d' := swD (sec c1) (k + 1)) (by rw [hk, hcc']; exact sw_first c1)).mono ?_
        rintro e w6 ⟨rfl, h6⟩
        clear hk hcc' hcc1 h5
        go_wp2_with fail
        go_roundw
        case rel => exact ⟨k + 1, vint (by omega), by omega, by omega, h6⟩
        case measure => simp [intOf]; omega
      · have e1 : ((k : Int) == 1) = false := by rw [beq_eq_false_iff_ne]; omega
        refine (h5.swap k 0 (zeros 512) (sec c) 16 (by show 0 ≤ 100000; omega) (sw_next _ (sec_ne c1) k (by omega) c)).mono ?_
        rintro e w6 ⟨rfl, h6⟩
        clear hk hcc1 h5
        go_wp2_with fail
        go_roundw
        case rel => exact ⟨k + 1, vint (by omega), by omega, by omega, h6⟩
        case measure => simp [intOf]; omega
    · obtain rfl : k = n + 2 := by omega
      have hpk : fPeek (swD (sec c1) (n + 2)) 0 = sec c1 := by
        unfold fPeek swD swL
        rw [if_pos (by simp)]
        dsimp only
        rw [if_neg (by omega)]; rfl
      have hb := hs.b
      have hbl := beq_list (sec c1)
      rcases hcc with ⟨hl0, rfl⟩ | ⟨hl, hz⟩
      · subst hl0
        go_wp2_with fail
        refine (hs.peek 0 (sec 1) hpk).mono ?_
        rintro e w5 ⟨rfl, rfl⟩
        go_wp2_with fail
        refine (sector_any 1 _ hc1).mono ?_
        rintro e w6 ⟨rfl, b6⟩
        have h6 := hs.low b6
        generalize sec 1 = x at *
        go_wp2_with fail
        go_ret
        exact ⟨rfl, h6.b⟩
      · obtain ⟨ad, rfl, hadb, hcs⟩ := zr.2 (by omega)
        have hg := hcs 0 _ (by rw [List.getElem?_map, hz]; rfl)
        have hg4 : wr.cell? ad = some (.int .u8 c1) := (hb.cell (p := ad) hadb).trans (by rw [show ad.add 0 = ad from rfl] at hg; exact hg)
        clear hcs hg hz ob zr
        go_wp2_with fail
        refine (hs.peek 0 (sec c1) hpk).mono ?_
        rintro e w5 ⟨rfl, rfl⟩
        go_wp2_with fail
        refine (sector_any c1 _ hc1).mono ?_
        rintro e w6 ⟨rfl, b6⟩
        have h6 := hs.low b6
        generalize sec c1 = x at *
        go_wp2_with fail
        go_ret
        exact ⟨rfl, h6.b⟩
end Go.Proofs.Ytekgoliakgknjaa
