import Derived.Test.YtglglbbjacgbdaaDoorTrC
import Derived.Laws.RangeString
import Derived.Laws.RangeAny
namespace Go.Proofs.YtglglbbjacgbdaaDoor
open Go.RowKit
set_option linter.unusedVariables false
attribute [local go_sem] b_max2 b_min2 b_max b_min

/-! ### names and zones -/
def byteS (s : ByteArray) (i : Nat) : Nat := (s.data.getD i 0).toNat
def sumB (s : ByteArray) : Nat → Nat
  | 0 => 0
  | i + 1 => sumB s i + byteS s i
def zoneB (s : ByteArray) : Nat := sumB s s.size % 4
theorem sumB_le (s : ByteArray) (i : Nat) : sumB s i ≤ 255 * i := by
  induction i with
  | zero => simp [sumB]
  | succ i ih => rw [sumB]; have := (s.data.getD i 0).toNat_lt; unfold byteS; omega
set_option maxRecDepth 100000 in
set_option maxHeartbeats 1000000 in
theorem zone_any (s : ByteArray) (w : World) (hs : s.size ≤ 1000000) : Calls Tryd.prog 57 #[.string s] w fun e w' => e = .returned (.int .i64 (zoneB s)) ∧ w = w' := by
  have hle := sumB_le s
  have hst : ∀ i, sumB s (i + 1) = sumB s i + byteS s i := fun i => rfl
  have hby : ∀ (i : Nat) (h : i < s.size), s[i].toNat = byteS s i := fun i h => by unfold byteS; rw [Array.getD_eq_getD_getElem?, Array.getElem?_eq_getElem (show i < s.data.size from h)]; rfl
  have hz : zoneB s = sumB s s.size % 4 := rfl
  have HL := Lib.hid hle; have HS := Lib.hid hst; have HB := Lib.hid hby; have HZ := Lib.hid hz; clear hle hst hby hz
  go_enter Tryd.func57, Tryd.ntmps57
  go_wp2_with fail
  go_loopw [3, 4, 7] (fun sm _ p wr => ∃ i : Nat, p = .int .i64 i ∧ i ≤ s.size ∧ sm = .int .i64 (sumB s i) ∧ w = wr) (fun _ _ p _ => s.size - (intOf p).toNat)
  case atStart => exact ⟨0, rfl, by omega, rfl, rfl⟩
  case round =>
    obtain ⟨i, rfl, hi, rfl, rfl⟩ := hrel
    have hl1 := HL.out i
    by_cases hlt : i < s.size
    · have hnx := HS.out i
      have hb1 := HB.out i hlt
      have hb2 : byteS s i < 256 := by unfold byteS; exact (s.data.getD i 0).toNat_lt
      rw [← hb1] at hnx hb2
      have HN := Lib.hid hnx; clear hnx hb1
      generalize sumB s i = sm at *
      go_wp2_with fail
      go_roundw
      case rel => exact ⟨i + 1, vint (by omega), by omega, by rw [HN.out]; exact vint (by omega), by first | rfl | trivial⟩
      case measure => simp [intOf]; omega
    · obtain rfl : i = s.size := by omega
      generalize hsm : sumB s s.size = sm at *
      have HSM := Lib.hid hsm; clear hsm
      go_wp2_with fail
      go_ret
      exact ⟨ret_int (by rw [HZ.out]; omega), rfl⟩
/-- may it stand in a name? -/
def okC (c : Nat) : Bool := decide (97 ≤ c ∧ c ≤ 122 ∨ 65 ≤ c ∧ c ≤ 90 ∨ 48 ≤ c ∧ c ≤ 57 ∨ c = 46 ∨ c = 45 ∨ c = 95)
def dotB : ByteArray := ⟨#[46]⟩
def dotsB : ByteArray := ⟨#[46, 46]⟩
/-- is it a name? -/
def nameOK (s : ByteArray) : Bool := decide (s.size ≠ 0 ∧ s.size ≤ 30 ∧ s ≠ dotB ∧ s ≠ dotsB ∧ ∀ i, i < s.size → okC (byteS s i) = true)
theorem iter_below (w : World) (s : ByteArray) (p : Nat) : Below w.heap.size w (w.iter s p) := by
  refine (Below.refl _ w).trans ?_
  exact (Below.refl _ w).alloc (Nat.le_refl _) (.stringIter s p)
set_option maxRecDepth 100000 in
set_option maxHeartbeats 4000000 in
theorem name_any (s : ByteArray) (w : World) (hs : s.size ≤ 1000000) : Calls Tryd.prog 37 #[.string s] w fun e w' => e = .returned (.bool (nameOK s)) ∧ Below w.heap.size w w' := by
  by_cases h0 : s.size = 0
  · have hf : nameOK s = false := decide_eq_false (fun h => h.1 h0)
    rw [hf]
    have e := ba_nil h0
    subst e
    clear hf h0
    go_enter Tryd.func37, Tryd.ntmps37
    go_wp2_with fail
    go_step3
    go_wp2_with fail
    try rw [Exit.noGoto_ret]
    go_ret
    exact ⟨rfl, Below.refl _ _⟩
  · have e0 := ba_isEmpty h0
    by_cases h1 : 30 < s.size
    · have hf : nameOK s = false := decide_eq_false (fun h => by have := h.2.1; omega)
      rw [hf]
      have d1 : decide ((30 : Int) < (s.size : Int)) = true := by rw [decide_eq_true_eq]; omega
      clear hf h0
      go_enter Tryd.func37, Tryd.ntmps37
      go_wp2_with fail
      go_step3
      go_wp2_with fail
      try rw [Exit.noGoto_ret]
      go_ret
      exact ⟨rfl, Below.refl _ _⟩
    · have d1 : decide ((30 : Int) < (s.size : Int)) = false := by rw [decide_eq_false_iff_not]; omega
      by_cases h2 : s = dotB
      · have hf : nameOK s = false := decide_eq_false (fun h => h.2.2.1 h2)
        rw [hf]
        subst h2
        clear hf h0
        go_enter Tryd.func37, Tryd.ntmps37
        unfold dotB at *
        go_wp2_with fail
        go_step3
        go_wp2_with fail
        try rw [Exit.noGoto_ret]
        go_ret
        exact ⟨rfl, Below.refl _ _⟩
      · have d2 : (s.toList == [46]) = false := by have := bne_list h2; rwa [show dotB.toList = [46] by rw [ByteArray.toList_eq]; rfl] at this
        by_cases h3 : s = dotsB
        · have hf : nameOK s = false := decide_eq_false (fun h => h.2.2.2.1 h3)
          rw [hf]
          subst h3
          clear hf h0
          go_enter Tryd.func37, Tryd.ntmps37
          unfold dotsB at *
          go_wp2_with fail
          go_step3
          go_wp2_with fail
          try rw [Exit.noGoto_ret]
          go_ret
          exact ⟨rfl, Below.refl _ _⟩
        · have d3 : (s.toList == [46, 46]) = false := by have := bne_list h3; rwa [show dotsB.toList = [46, 46] by rw [ByteArray.toList_eq]; rfl] at this
          have hno : ∀ i, i < s.size → okC (byteS s i) = false → nameOK s = false := fun i hi h => decide_eq_false (fun hh => by have := hh.2.2.2.2 i hi; rw [h] at this; cases this)
          have hyes : (∀ i, i < s.size → okC (byteS s i) = true) → nameOK s = true := fun h => decide_eq_true ⟨h0, by omega, h2, h3, h⟩
          have hby : ∀ (i : Nat) (h : i < s.size), s[i].toNat = byteS s i := fun i h => by unfold byteS; rw [Array.getD_eq_getD_getElem?, Array.getElem?_eq_getElem (show i < s.data.size from h)]; rfl
          have hbl := iter_below w s
          generalize nameOK s = res at *
          have HNO := Lib.hid hno; have HY := Lib.hid hyes; have HB := Lib.hid hby; have HBL := Lib.hid hbl
          clear hno hyes hby hbl h2 h3 h1
          go_enter Tryd.func37, Tryd.ntmps37
          go_wp2_with fail
          go_step3
          go_wp2_with fail
          go_step3
          go_wp2_with fail
          go_loopw [3, 5] (fun is _ wr => ∃ pos : Nat, wr = w.iter s pos ∧ pos ≤ s.size ∧ is = .bool true ∧ Hid (∀ i, i < pos → okC (byteS s i) = true)) (fun _ _ wr => s.size - wr.iterPos w.heap.size)
          case atStart => exact ⟨0, rfl, by omega, rfl, Lib.hid (fun i h => by omega)⟩
          case round =>
            obtain ⟨pos, rfl, hpos, rfl, hall⟩ := hrel
            by_cases hp : pos < s.size
            · have hnx : ∀ ty, (Instr.next (.pointer (some ⟨w.heap.size, 0, none⟩)) true ty).run Tryd.prog (w.iter s pos) = _ := fun ty => run_next_any w s pos ty hp
              have hbp := HB.out pos hp
              have hdc : (((Utf8.decode s pos).1 : Nat) : Int) = (byteS s pos : Int) ∧ (Utf8.decode s pos).2 = 1 ∧ byteS s pos < 128 ∨ 128 ≤ (Utf8.decode s pos).1 ∧ 128 ≤ byteS s pos := by
                by_cases ha : (s[pos]'hp).toNat < 128
                · left; rw [decode_ascii s pos hp ha]; exact ⟨by rw [hbp], rfl, by rw [← hbp]; exact ha⟩
                · right; exact ⟨(decode_high s pos hp (by omega)).1, by rw [← hbp]; omega⟩
              generalize byteS s pos = bt at *
              have hdl := decode_le s pos
              generalize Utf8.decode s pos = dc at *
              obtain ⟨cp, wd⟩ := dc
              dsimp only at *
              have HP := Lib.hid hbp; clear hbp
              by_cases c9 : 97 ≤ cp
              · by_cases c1 : cp ≤ 122
                · obtain ⟨e1, rfl, e3⟩ : (cp : Int) = (bt : Int) ∧ wd = 1 ∧ bt < 128 := by
                    rcases hdc with h | h
                    · exact h
                    · omega
                  have hok : ∀ i, i < pos + 1 → okC (byteS s i) = true := by
                    intro i hi
                    rcases Nat.lt_or_ge i pos with h | h
                    · exact hall.out i h
                    · rw [show i = pos by omega, ← HB.out pos hp, HP.out]; unfold okC; rw [decide_eq_true_eq]; omega
                  have HK := Lib.hid hok; clear hok hdc
                  have q0 : decide ((97 : Int) ≤ (cp : Int)) = true := by rw [decide_eq_true_eq]; omega
                  have q1 : decide ((cp : Int) ≤ 122) = true := by rw [decide_eq_true_eq]; omega
                  go_wp2_with fail
                  go_roundw
                  case rel => exact ⟨pos + 1, rfl, by omega, rfl, HK⟩
                  case measure => simp; omega
                · have hr : res = false := by
                    refine HNO.out pos hp ?_
                    rw [← HB.out pos hp, HP.out]; unfold okC; rw [decide_eq_false_iff_not]; omega
                  have HR := Lib.hid hr; clear hr hdc
                  have q0 : decide ((97 : Int) ≤ (cp : Int)) = true := by rw [decide_eq_true_eq]; omega
                  have q1 : decide ((cp : Int) ≤ 122) = false := by rw [decide_eq_false_iff_not]; omega
                  have q2 : decide ((65 : Int) ≤ (cp : Int)) = true := by rw [decide_eq_true_eq]; omega
                  have q3 : decide ((cp : Int) ≤ 90) = false := by rw [decide_eq_false_iff_not]; omega
                  have q4 : decide ((48 : Int) ≤ (cp : Int)) = true := by rw [decide_eq_true_eq]; omega
                  have q5 : decide ((cp : Int) ≤ 57) = false := by rw [decide_eq_false_iff_not]; omega
                  have q6 : ((cp : Int) == 46) = false := by simp; omega
                  have q7 : ((cp : Int) == 45) = false := by simp; omega
                  have q8 : ((cp : Int) == 95) = false := by simp; omega
                  go_wp2_with fail
                  try rw [Exit.noGoto_ret]
                  go_ret
                  exact ⟨ret_bool HR.out.symm, HBL.out _⟩
              · by_cases c8 : 91 ≤ cp
                · by_cases c2 : cp = 95
                  · obtain ⟨e1, rfl, e3⟩ : (cp : Int) = (bt : Int) ∧ wd = 1 ∧ bt < 128 := by
                      rcases hdc with h | h
                      · exact h
                      · omega
                    have hok : ∀ i, i < pos + 1 → okC (byteS s i) = true := by
                      intro i hi
                      rcases Nat.lt_or_ge i pos with h | h
                      · exact hall.out i h
                      · rw [show i = pos by omega, ← HB.out pos hp, HP.out]; unfold okC; rw [decide_eq_true_eq]; omega
                    have HK := Lib.hid hok; clear hok hdc
                    have q0 : decide ((97 : Int) ≤ (cp : Int)) = false := by rw [decide_eq_false_iff_not]; omega
                    have q1 : decide ((65 : Int) ≤ (cp : Int)) = true := by rw [decide_eq_true_eq]; omega
                    have q2 : decide ((cp : Int) ≤ 90) = false := by rw [decide_eq_false_iff_not]; omega
                    have q3 : decide ((48 : Int) ≤ (cp : Int)) = true := by rw [decide_eq_true_eq]; omega
                    have q4 : decide ((cp : Int) ≤ 57) = false := by rw [decide_eq_false_iff_not]; omega
                    have q5 : ((cp : Int) == 46) = false := by simp; omega
                    have q6 : ((cp : Int) == 45) = false := by simp; omega
                    have q7 : ((cp : Int) == 95) = true := by simp; omega
                    go_wp2_with fail
                    go_roundw
                    case rel => exact ⟨pos + 1, rfl, by omega, rfl, HK⟩
                    case measure => simp; omega
                  · have hr : res = false := by
                      refine HNO.out pos hp ?_
                      rw [← HB.out pos hp, HP.out]; unfold okC; rw [decide_eq_false_iff_not]; omega
                    have HR := Lib.hid hr; clear hr hdc
                    have q0 : decide ((97 : Int) ≤ (cp : Int)) = false := by rw [decide_eq_false_iff_not]; omega
                    have q1 : decide ((65 : Int) ≤ (cp : Int)) = true := by rw [decide_eq_true_eq]; omega
                    have q2 : decide ((cp : Int) ≤ 90) = false := by rw [decide_eq_false_iff_not]; omega
                    have q3 : decide ((48 : Int) ≤ (cp : Int)) = true := by rw [decide_eq_true_eq]; omega
                    have q4 : decide ((cp : Int) ≤ 57) = false := by rw [decide_eq_false_iff_not]; omega
                    have q5 : ((cp : Int) == 46) = false := by simp; omega
                    have q6 : ((cp : Int) == 45) = false := by simp; omega
                    have q7 : ((cp : Int) == 95) = false := by simp; omega
                    go_wp2_with fail
                    try rw [Exit.noGoto_ret]
                    go_ret
                    exact ⟨ret_bool HR.out.symm, HBL.out _⟩
                · by_cases c7 : 65 ≤ cp
                  · obtain ⟨e1, rfl, e3⟩ : (cp : Int) = (bt : Int) ∧ wd = 1 ∧ bt < 128 := by
                      rcases hdc with h | h
                      · exact h
                      · omega
                    have hok : ∀ i, i < pos + 1 → okC (byteS s i) = true := by
                      intro i hi
                      rcases Nat.lt_or_ge i pos with h | h
                      · exact hall.out i h
                      · rw [show i = pos by omega, ← HB.out pos hp, HP.out]; unfold okC; rw [decide_eq_true_eq]; omega
                    have HK := Lib.hid hok; clear hok hdc
                    have q0 : decide ((97 : Int) ≤ (cp : Int)) = false := by rw [decide_eq_false_iff_not]; omega
                    have q1 : decide ((65 : Int) ≤ (cp : Int)) = true := by rw [decide_eq_true_eq]; omega
                    have q2 : decide ((cp : Int) ≤ 90) = true := by rw [decide_eq_true_eq]; omega
                    go_wp2_with fail
                    go_roundw
                    case rel => exact ⟨pos + 1, rfl, by omega, rfl, HK⟩
                    case measure => simp; omega
                  · by_cases c6 : 58 ≤ cp
                    · have hr : res = false := by
                        refine HNO.out pos hp ?_
                        rw [← HB.out pos hp, HP.out]; unfold okC; rw [decide_eq_false_iff_not]; omega
                      have HR := Lib.hid hr; clear hr hdc
                      have q0 : decide ((97 : Int) ≤ (cp : Int)) = false := by rw [decide_eq_false_iff_not]; omega
                      have q1 : decide ((65 : Int) ≤ (cp : Int)) = false := by rw [decide_eq_false_iff_not]; omega
                      have q2 : decide ((48 : Int) ≤ (cp : Int)) = true := by rw [decide_eq_true_eq]; omega
                      have q3 : decide ((cp : Int) ≤ 57) = false := by rw [decide_eq_false_iff_not]; omega
                      have q4 : ((cp : Int) == 46) = false := by simp; omega
                      have q5 : ((cp : Int) == 45) = false := by simp; omega
                      have q6 : ((cp : Int) == 95) = false := by simp; omega
                      go_wp2_with fail
                      try rw [Exit.noGoto_ret]
                      go_ret
                      exact ⟨ret_bool HR.out.symm, HBL.out _⟩
                    · by_cases c5 : 48 ≤ cp
                      · obtain ⟨e1, rfl, e3⟩ : (cp : Int) = (bt : Int) ∧ wd = 1 ∧ bt < 128 := by
                          rcases hdc with h | h
                          · exact h
                          · omega
                        have hok : ∀ i, i < pos + 1 → okC (byteS s i) = true := by
                          intro i hi
                          rcases Nat.lt_or_ge i pos with h | h
                          · exact hall.out i h
                          · rw [show i = pos by omega, ← HB.out pos hp, HP.out]; unfold okC; rw [decide_eq_true_eq]; omega
                        have HK := Lib.hid hok; clear hok hdc
                        have q0 : decide ((97 : Int) ≤ (cp : Int)) = false := by rw [decide_eq_false_iff_not]; omega
                        have q1 : decide ((65 : Int) ≤ (cp : Int)) = false := by rw [decide_eq_false_iff_not]; omega
                        have q2 : decide ((48 : Int) ≤ (cp : Int)) = true := by rw [decide_eq_true_eq]; omega
                        have q3 : decide ((cp : Int) ≤ 57) = true := by rw [decide_eq_true_eq]; omega
                        go_wp2_with fail
                        go_roundw
                        case rel => exact ⟨pos + 1, rfl, by omega, rfl, HK⟩
                        case measure => simp; omega
                      · by_cases c4 : cp = 46
                        · obtain ⟨e1, rfl, e3⟩ : (cp : Int) = (bt : Int) ∧ wd = 1 ∧ bt < 128 := by
                            rcases hdc with h | h
                            · exact h
                            · omega
                          have hok : ∀ i, i < pos + 1 → okC (byteS s i) = true := by
                            intro i hi
                            rcases Nat.lt_or_ge i pos with h | h
                            · exact hall.out i h
                            · rw [show i = pos by omega, ← HB.out pos hp, HP.out]; unfold okC; rw [decide_eq_true_eq]; omega
                          have HK := Lib.hid hok; clear hok hdc
                          have q0 : decide ((97 : Int) ≤ (cp : Int)) = false := by rw [decide_eq_false_iff_not]; omega
                          have q1 : decide ((65 : Int) ≤ (cp : Int)) = false := by rw [decide_eq_false_iff_not]; omega
                          have q2 : decide ((48 : Int) ≤ (cp : Int)) = false := by rw [decide_eq_false_iff_not]; omega
                          have q3 : ((cp : Int) == 46) = true := by simp; omega
                          go_wp2_with fail
                          go_roundw
                          case rel => exact ⟨pos + 1, rfl, by omega, rfl, HK⟩
                          case measure => simp; omega
                        · by_cases c3 : cp = 45
                          · obtain ⟨e1, rfl, e3⟩ : (cp : Int) = (bt : Int) ∧ wd = 1 ∧ bt < 128 := by
                              rcases hdc with h | h
                              · exact h
                              · omega
                            have hok : ∀ i, i < pos + 1 → okC (byteS s i) = true := by
                              intro i hi
                              rcases Nat.lt_or_ge i pos with h | h
                              · exact hall.out i h
                              · rw [show i = pos by omega, ← HB.out pos hp, HP.out]; unfold okC; rw [decide_eq_true_eq]; omega
                            have HK := Lib.hid hok; clear hok hdc
                            have q0 : decide ((97 : Int) ≤ (cp : Int)) = false := by rw [decide_eq_false_iff_not]; omega
                            have q1 : decide ((65 : Int) ≤ (cp : Int)) = false := by rw [decide_eq_false_iff_not]; omega
                            have q2 : decide ((48 : Int) ≤ (cp : Int)) = false := by rw [decide_eq_false_iff_not]; omega
                            have q3 : ((cp : Int) == 46) = false := by simp; omega
                            have q4 : ((cp : Int) == 45) = true := by simp; omega
                            go_wp2_with fail
                            go_roundw
                            case rel => exact ⟨pos + 1, rfl, by omega, rfl, HK⟩
                            case measure => simp; omega
                          · have hr : res = false := by
                              refine HNO.out pos hp ?_
                              rw [← HB.out pos hp, HP.out]; unfold okC; rw [decide_eq_false_iff_not]; omega
                            have HR := Lib.hid hr; clear hr hdc
                            have q0 : decide ((97 : Int) ≤ (cp : Int)) = false := by rw [decide_eq_false_iff_not]; omega
                            have q1 : decide ((65 : Int) ≤ (cp : Int)) = false := by rw [decide_eq_false_iff_not]; omega
                            have q2 : decide ((48 : Int) ≤ (cp : Int)) = false := by rw [decide_eq_false_iff_not]; omega
                            have q3 : ((cp : Int) == 46) = false := by simp; omega
                            have q4 : ((cp : Int) == 45) = false := by simp; omega
                            have q5 : ((cp : Int) == 95) = false := by simp; omega
                            go_wp2_with fail
                            try rw [Exit.noGoto_ret]
                            go_ret
                            exact ⟨ret_bool HR.out.symm, HBL.out _⟩
            · have hnx : ∀ ty, (Instr.next (.pointer (some ⟨w.heap.size, 0, none⟩)) true ty).run Tryd.prog (w.iter s pos) = _ := fun ty => run_next_end w s pos ty hp
              have hr : res = true := HY.out (fun i hi => hall.out i (by omega))
              have HR := Lib.hid hr; clear hr
              go_wp2_with fail
              try rw [Exit.noGoto_ret]
              go_ret
              exact ⟨ret_bool HR.out.symm, HBL.out _⟩
end Go.Proofs.YtglglbbjacgbdaaDoor

