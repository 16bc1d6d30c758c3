import Derived.Test.YtglglbbjacgbdaaDoorTsJ
import Derived.Test.YtglglbbjacgbdaaDoorTsK
namespace Go.Proofs.YtglglbbjacgbdaaDoor
open Go.RowKit
set_option linter.unusedVariables false
set_option linter.unusedSimpArgs false
attribute [local go_sem] b_max2 b_min2 b_max b_min
section
variable {w : World} {g : Nat} {S : TS} {vs : Id → Value} {rk : Nat → Nat} {D : Nat}
theorem bytes_any (h : IsT w g S vs) (hs : SepT w g S vs) (ho : OkT S g) (hk : RkT S g rk D) (hkd : KdT S) (c : CallV) (vf vt : Value) (l1 : List ByteArray) (hl1 : l1.length ≤ 100000) (hsz1 : ∀ s ∈ l1, s.size ≤ 1000000) (hv1 : NmV w vf l1) (hvt : ∃ A n c, vt = .slice A n c) (hb6 : c.op = 6 → 0 ≤ c.at_ ∧ 0 ≤ c.n) (hb7 : c.op = 7 → 0 ≤ c.at_ ∧ c.at_ + c.data.size ≤ 6144) (hb8 : c.op ≠ 6 → c.op ≠ 7 → 0 ≤ c.n ∧ c.n ≤ 6144) :
    Calls Tryd.prog 16 #[.pointer (some ⟨g, 0, none⟩), planV c vf vt] w fun e w' => ∃ vs', e = .returned (repV (bytesT S g D l1 c).2 (.slice none 0 0)) ∧ Went w w' g S vs (bytesT S g D l1 c).1 vs' := by
  by_cases h1 : (walkT S g none l1).2 = 0
  · cases hb : (walkT S g none l1).1 with
    | none => exact bytes_root h hs ho hk hkd c vf vt l1 hl1 hsz1 hv1 hvt h1 hb
    | some b =>
      obtain ⟨r, hr⟩ := walkT_ok ho l1 none (fun b e => by cases e) b hb
      by_cases h2 : r.kind = 2
      · exact bytes_dir h hs ho hk hkd c vf vt l1 hl1 hsz1 hv1 hvt h1 b r hb hr h2
      by_cases h6 : c.op = 6
      · exact bytes_read h hs ho hk hkd c vf vt l1 hl1 hsz1 hv1 hvt h1 b r hb hr h2 h6 (hb6 h6).1 (hb6 h6).2
      by_cases h7 : c.op = 7
      · by_cases hf : freeT S g D < need (newN c r.data) - need r.data.size
        · exact bytes_full7 h hs ho hk hkd c vf vt l1 hl1 hsz1 hv1 hvt h1 b r hb hr h2 h7 (hb7 h7) hf
        · exact bytes_done7 h hs ho hk hkd c vf vt l1 hl1 hsz1 hv1 hvt h1 b r hb hr h2 h7 (hb7 h7) hf
      · by_cases hf : freeT S g D < need (newN c r.data) - need r.data.size
        · exact bytes_full8 h hs ho hk hkd c vf vt l1 hl1 hsz1 hv1 hvt h1 b r hb hr h2 h6 h7 (hb8 h6 h7) hf
        · exact bytes_done8 h hs ho hk hkd c vf vt l1 hl1 hsz1 hv1 hvt h1 b r hb hr h2 h6 h7 (hb8 h6 h7) hf
  · exact bytes_err h hs ho hk hkd c vf vt l1 hl1 hsz1 hv1 hvt h1
end
end Go.Proofs.YtglglbbjacgbdaaDoor
