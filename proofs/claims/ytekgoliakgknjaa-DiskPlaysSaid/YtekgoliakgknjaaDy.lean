import Derived.Test.YtekgoliakgknjaaDu
namespace Go.Proofs.Ytekgoliakgknjaa
open Go.RowKit
set_option linter.unusedVariables false
attribute [local go_sem] b_max2 b_min2 b_max b_min
set_option maxRecDepth 100000 in
set_option maxHeartbeats 8000000 in
theorem pl_rest (a : Int) (A B6 : Option Addr) (len cap n6 c6 i y N g r zb : Nat) (q0 q1 q2 q3 : Int) (q5 : Bool) (o : OpR) (R : RS) (w w8 : World) (hN : N ≤ 8) (hi80 : i < 80) (hB : Both w w8 g r zb N o i #[.int .i64 q0, .int .i64 q1, .int .i64 q2, .int .i64 q3, .int .u8 y, .bool q5, .slice B6 n6 c6] R)
    (u2 u3 u4 u11 u12 u14 u15 u16 u17 u18 u19 u20 u21 u22 u23 u24 u25 u26 u27 u28 u29 u30 u31 u32 u33 u34 u35 u36 u37 u38 u39 u40 u41 u42 u43 u44 u45 u46 u47 u48 u49 u50 u51 u52 u53 u54 u55 u56 u57 u58 u59 u60 u61 u62 u63 u64 u65 u66 u67 u68 u69 u70 u71 u72 u73 u74 u75 u76 u77 u78 u79 u80 u81 u82 u83 u84 u85 u86 u87 u88 u89 u90 u91 u92 u93 u94 u95 u96 u97 u98 u99 u100 u101 u102 u103 u104 u105 u106 u107 u108 u109 u110 u111 u112 u113 u114 u115 u116 u117 u118 u119 u120 u121 u122 u123 u124 u125 u126 u127 u128 u129 u130 u131 u132 u133 u134 u135 u136 u137 u138 u139 u140 u141 u142 u143 u144 u145 u146 u147 u148 u149 u150 u151 u152 u153 u154 u155 u156 u157 u158 u159 u160 u161 u162 u163 u164 u165 u166 u167 u168 u169 u170 u171 u172 u173 u174 u175 u176 u177 u178 u179 u180 u181 u182 u183 u184 u185 u186 u187 u188 u189 u190 u191 u192 u193 u194 u195 u196 u197 u198 u199 u200 u201 u202 u203 u204 u205 u206 u207 u208 u209 u210 u211 u212 u213 u214 u215 u216 u217 u218 u219 u220 u221 u222 u223 u224 u225 u226 u227 u228 u229 u230 u231 u232 u233 u234 u235 u236 u237 u238 u239 u240 u241 u242 u243 u244 u245 u246 u247 u248 u249 u250 u251 u252 u253 u254 u255 u256 u257 u258 u259 u260 u261 u262 u263 u264 u265 u266 u267 u268 u269 u270 u271 u272 u273 u274 u275 u276 u277 u278 u279 : Value) (Q : Exit → Act → World → Prop)
    (hQ : Hid (∀ (v4 v16 v17 v18 v19 v20 v21 v189 v190 v191 v192 v193 v194 v195 v196 v197 v198 v199 v200 v201 v202 v203 v204 v205 v206 v207 v208 v209 v210 v211 v212 v213 v214 v215 v216 v217 v218 v219 v220 v221 v222 v223 v224 v225 v226 v227 v228 v229 v230 v231 v232 v233 v234 v235 v236 v237 v238 v239 v240 v241 v242 v243 v244 v245 v246 v247 v248 v249 v250 v251 v252 v253 v254 v255 v256 v257 v258 v259 v260 v261 v262 v263 v264 v265 v266 v267 : Value) (w' : World), TD w w' g R.ds r R (fun _ => False) → Q .normal ⟨#[.int .i64 a, .slice A len cap, u2, u3, v4, .bool true, .int .i64 N, .pointer (some ⟨g, 0, none⟩), .pointer (some ⟨r, 0, none⟩), .int .i64 i, .pointer (some ⟨zb, 0, none⟩), u11, u12, .bool true, u14, u15, v16, v17, v18, v19, v20, v21, u22, u23, u24, u25, u26, u27, u28, u29, u30, u31, u32, u33, u34, u35, u36, u37, u38, u39, u40, u41, u42, u43, u44, u45, u46, u47, u48, u49, u50, u51, u52, u53, u54, u55, u56, u57, u58, u59, u60, u61, u62, u63, u64, u65, u66, u67, u68, u69, u70, u71, u72, u73, u74, u75, u76, u77, u78, u79, u80, u81, u82, u83, u84, u85, u86, u87, u88, u89, u90, u91, u92, u93, u94, u95, u96, u97, u98, u99, u100, u101, u102, u103, u104, u105, u106, u107, u108, u109, u110, u111, u112, u113, u114, u115, u116, u117, u118, u119, u120, u121, u122, u123, u124, u125, u126, u127, u128, u129, u130, u131, u132, u133, u134, u135, u136, u137, u138, u139, u140, u141, u142, u143, u144, u145, u146, u147, u148, u149, u150, u151, u152, u153, u154, u155, u156, u157, u158, u159, u160, u161, u162, u163, u164, u165, u166, u167, u168, u169, u170, u171, u172, u173, u174, u175, u176, u177, u178, u179, u180, u181, u182, u183, u184, u185, u186, u187, u188, v189, v190, v191, v192, v193, v194, v195, v196, v197, v198, v199, v200, v201, v202, v203, v204, v205, v206, v207, v208, v209, v210, v211, v212, v213, v214, v215, v216, v217, v218, v219, v220, v221, v222, v223, v224, v225, v226, v227, v228, v229, v230, v231, v232, v233, v234, v235, v236, v237, v238, v239, v240, v241, v242, v243, v244, v245, v246, v247, v248, v249, v250, v251, v252, v253, v254, v255, v256, v257, v258, v259, v260, v261, v262, v263, v264, v265, v266, v267, u268, u269, u270, u271, u272, u273, u274, u275, u276, u277, u278, u279], []⟩ w')) :
    Code.wp Try.prog plRest Q ⟨#[.int .i64 a, .slice A len cap, u2, u3, u4, .bool true, .int .i64 N, .pointer (some ⟨g, 0, none⟩), .pointer (some ⟨r, 0, none⟩), .int .i64 i, .pointer (some ⟨zb, 0, none⟩), u11, u12, .bool true, u14, u15, u16, u17, u18, u19, u20, u21, u22, u23, u24, u25, u26, u27, u28, u29, u30, u31, u32, u33, u34, u35, u36, u37, u38, u39, u40, u41, u42, u43, u44, u45, u46, u47, u48, u49, u50, u51, u52, u53, u54, u55, u56, u57, u58, u59, u60, u61, u62, u63, u64, u65, u66, u67, u68, u69, u70, u71, u72, u73, u74, u75, u76, u77, u78, u79, u80, u81, u82, u83, u84, u85, u86, u87, u88, u89, u90, u91, u92, u93, u94, u95, u96, u97, u98, u99, u100, u101, u102, u103, u104, u105, u106, u107, u108, u109, u110, u111, u112, u113, u114, u115, u116, u117, u118, u119, u120, u121, u122, u123, u124, u125, u126, u127, u128, u129, u130, u131, u132, u133, u134, u135, u136, u137, u138, u139, u140, u141, u142, u143, u144, u145, u146, u147, u148, u149, u150, u151, u152, u153, u154, u155, u156, u157, u158, u159, u160, u161, u162, u163, u164, u165, u166, u167, u168, u169, u170, u171, u172, u173, u174, u175, u176, u177, u178, u179, u180, u181, u182, u183, u184, u185, u186, u187, u188, u189, u190, u191, u192, u193, u194, u195, u196, u197, u198, u199, u200, u201, u202, u203, u204, u205, u206, u207, u208, u209, u210, u211, u212, u213, u214, u215, u216, u217, u218, u219, u220, u221, u222, u223, u224, u225, u226, u227, u228, u229, u230, u231, u232, u233, u234, u235, u236, u237, u238, u239, u240, u241, u242, u243, u244, u245, u246, u247, u248, u249, u250, u251, u252, u253, u254, u255, u256, u257, u258, u259, u260, u261, u262, u263, u264, u265, u266, u267, u268, u269, u270, u271, u272, u273, u274, u275, u276, u277, u278, u279], []⟩ w8 := by
  conv => arg 2; whnf
  obtain ⟨ht, ob, hRL, hks, hpu, hpe, _⟩ := hB
  have s1 : w8.cell? ⟨zb, 1, none⟩ = some (.int .i64 q1) := ob.cell 1
  have s2 : w8.cell? ⟨zb, 2, none⟩ = some (.int .i64 q2) := ob.cell 2
  obtain ⟨Z', hz, _, hD⟩ := ht.dop
  obtain ⟨t, res, hfr⟩ : ∃ t res, fRead R.ds q1 q2 = (t, res) := ⟨_, _, rfl⟩
  have hrd := hz.read q1 q2 t res (by have := cacheOf_le R.puts q1; show (cacheOf R.puts q1).length ≤ 100000; omega) hfr
  have HFR := Lib.hid hfr; clear hfr
  go_wp2_with fail
  refine hrd.mono ?_
  rintro e wa ⟨rfl, ha, ka⟩
  obtain ⟨t2, k2⟩ := hD _ _ ha ka
  have o2 := k2 _ _ _ rfl ob
  clear ht ob s1 s2 hz hD hrd ha ka k2
  have s1 : wa.cell? ⟨zb, 1, none⟩ = some (.int .i64 q1) := o2.cell 1
  have s2 : wa.cell? ⟨zb, 2, none⟩ = some (.int .i64 q2) := o2.cell 2
  obtain ⟨G2, g2, gb2, _⟩ := t2.rop
  have cr := rread_any g2 q1 q2
  rw [HFR.out] at cr
  have hrl : r < wa.heap.size := g2.x.elim fun vs hx => hx.blk.lt
  clear g2 gb2
  go_wp2_with fail
  refine cr.mono ?_
  rintro e wb ⟨rfl, rfl⟩
  clear cr
  obtain ⟨A0, c0, A4, c4, _, r4, _, hR4⟩ := t2.rows
  have t2d := t2.drewN 1
  have o2d := o2.drewN 1
  obtain ⟨Z2, hz2, _, hD2⟩ := t2d.dop
  have hpn := hz2.pending (by show R.pend.length ≤ 100000; omega)
  have HSM := Lib.hid (fun (wc : World) (bb : Below (wa.drewN 1).heap.size (wa.drewN 1) wc) => And.intro ((bb.cell (p := ⟨r, 4, none⟩) hrl).trans r4) ((hR4.below (w' := wc) ((bdrewN (Below.refl _ wa) 1).trans bb)).more bb.size))
  clear s1 s2 t2 o2 hR4
  go_wp2_with fail
  go_region_held3 (fun w' => w'.cell? ⟨r, 4, none⟩ = some (.slice A4 R.pend.length c4)) (go_keep)
    (first
      | (go_at_call 22; refine hpn.mono ?_; rintro e wc ⟨v, rfl, hov, hd2, kd2, bb⟩; obtain ⟨t3, k3⟩ := hD2 _ _ hd2 kd2; have o3 := k3 _ _ _ rfl o2d; obtain ⟨x4, hr4c⟩ := HSM.out wc bb; obtain ⟨Av, cv, rfl, _, hrv⟩ := Reads.of_own hov; clear hov; replace hrv : Reads wc wc.heap.size 1 Av R.pend.length (R.pend.map (Value.int .i64)) := hrv)
      | (go_at_call 39; refine (rsame_any R.pend wc Av A4 cv c4 R.pend.length rfl hrv hr4c (by omega)).mono ?_; rintro e wd ⟨rfl, bd⟩; have y4 : wd.cell? ⟨r, 4, none⟩ = some (.slice A4 R.pend.length c4) := (bd.cell (p := ⟨r, 4, none⟩) (World.block_lt_of_cell? _ _ x4)).trans x4; obtain ⟨t4, k4⟩ := t3.low bd; have o4 := k4 _ _ _ rfl o3))
  all_goals
    clear t3 o3 hrv hr4c hD2 hd2 kd2 hz2 hpn bb k3 k4 x4 y4 r4 t2d o2d bd
    have s1 : wd.cell? ⟨zb, 1, none⟩ = some (.int .i64 q1) := o4.cell 1
    have cA : ∀ k, Calls Try.prog 19 #[.pointer (some ⟨g, 0, none⟩), .int .i64 q1] (wd.drewN k) fun e w' => e = .returned (.int .i64 ((cacheOf R.puts q1).length : Nat)) ∧ ∃ m, w' = wd.drewN m := fun k => ((t4.drewN k).cached rfl q1).1.mono fun e w' ⟨e1, e2⟩ => ⟨e1, k, e2.symm⟩
    have cB : ∀ k, Calls Try.prog 40 #[.pointer (some ⟨r, 0, none⟩), .int .i64 q1] (wd.drewN k) fun e w' => e = .returned (.int .i64 ((cacheOf R.puts q1).length : Nat)) ∧ ∃ m, w' = wd.drewN m := fun k => ((t4.drewN k).cached rfl q1).2.mono fun e w' ⟨e1, e2⟩ => ⟨e1, k, e2.symm⟩
    have cC : ∀ k, Calls Try.prog 23 #[.pointer (some ⟨g, 0, none⟩), .int .i64 q1] (wd.drewN k) fun e w' => e = .returned (.bool ((keyOf R.ks R.on q1).getD false)) ∧ ∃ m, w' = wd.drewN m := fun k => ((t4.drewN k).registered rfl q1).1.mono fun e w' ⟨e1, e2⟩ => ⟨e1, k, e2.symm⟩
    have cD : ∀ k, Calls Try.prog 41 #[.pointer (some ⟨r, 0, none⟩), .int .i64 q1] (wd.drewN k) fun e w' => e = .returned (.bool ((keyOf R.ks R.on q1).getD false)) ∧ ∃ m, w' = wd.drewN m := fun k => ((t4.drewN k).registered rfl q1).2.mono fun e w' ⟨e1, e2⟩ => ⟨e1, k, e2.symm⟩
    generalize (cacheOf R.puts q1).length = nn at *
    generalize (keyOf R.ks R.on q1).getD false = kb at *
    have l1 := beq_list t
    have CA := Lib.hid cA; have CB := Lib.hid cB; have CC := Lib.hid cC; have CD := Lib.hid cD; clear cA cB cC cD
    go_wp2_with fail
    go_quiet ((first | (go_at_call 19; exact CA.out _) | (go_at_call 40; exact CB.out _) | (go_at_call 23; exact CC.out _) | (go_at_call 41; exact CD.out _)))
    clear CA CB CC CD s1 l1
    go_wp2_with fail
    go_loopw [21] (fun p wr => ∃ s : Nat, p = .int .i64 s ∧ s ≤ N ∧ TD w wr g R.ds r R (fun k => k = zb)) (fun p _ => N - (intOf p).toNat)
    case atStart => exact ⟨0, rfl, by omega, t4.drewN _⟩
    case round =>
      clear t4
      obtain ⟨s, rfl, hs, tt⟩ := hrel
      by_cases hlt : s < N
      · obtain ⟨A0, c0, A4, c4, r0, _, hR0, _⟩ := tt.rows
        rw [hRL] at r0 hR0
        obtain ⟨ad0, rfl, _, hcs⟩ := hR0.2 (by omega)
        have r9 := hcs s (.string (R.L.getD s ⟨#[]⟩)) (by rw [List.getElem?_map, List.getElem?_eq_getElem (by omega), List.getD_eq_getElem?_getD, List.getElem?_eq_getElem (by omega)]; rfl)
        have hpk : fPeek R.ds s = R.L.getD s ⟨#[]⟩ := by
          unfold fPeek
          rw [if_pos ⟨by omega, by show (s : Int) < R.L.length; omega⟩]
          rfl
        have cp : ∀ k, Calls Try.prog 16 #[.pointer (some ⟨g, 0, none⟩), .int .i64 s] (wr.drewN k) fun e w' => e = .returned (.string (R.L.getD s ⟨#[]⟩)) ∧ ∃ m, w' = wr.drewN m := fun k => by
          obtain ⟨Z3, hz3, _, _⟩ := (tt.drewN k).dop
          exact (hz3.peek s _ hpk).mono fun e w' ⟨e1, e2⟩ => ⟨e1, k, e2.symm⟩
        clear hcs hpk hR0
        generalize R.L.getD s ⟨#[]⟩ = x1 at *
        have l1 := beq_list x1
        have CP := Lib.hid cp; clear cp
        go_wp2_with fail
        go_quiet ((first | (go_at_call 16; exact CP.out _)))
        go_wp2_with fail
        go_roundw
        case rel => exact ⟨s + 1, vint (by omega), by omega, tt.drewN _⟩
        case measure => simp [intOf]; omega
      · obtain rfl : s = N := by omega
        have HT := Lib.hid (tt.less (Z' := fun _ => False) (fun _ h => h.elim)); clear tt
        go_wp2_with fail
        exact hQ.out _ _ _ _ _ _ _ _ _ _ _ _ _ _ _ _ _ _ _ _ _ _ _ _ _ _ _ _ _ _ _ _ _ _ _ _ _ _ _ _ _ _ _ _ _ _ _ _ _ _ _ _ _ _ _ _ _ _ _ _ _ _ _ _ _ _ _ _ _ _ _ _ _ _ _ _ _ _ _ _ _ _ _ _ _ _ _ HT.out
end Go.Proofs.Ytekgoliakgknjaa
