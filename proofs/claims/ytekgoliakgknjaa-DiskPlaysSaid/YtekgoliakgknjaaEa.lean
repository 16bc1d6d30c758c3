import Derived.Test.YtekgoliakgknjaaDz
namespace Go.Proofs.Ytekgoliakgknjaa
open Go.RowKit
set_option linter.unusedVariables false
attribute [local go_sem] b_max2 b_min2 b_max b_min
set_option maxRecDepth 100000 in
set_option maxHeartbeats 8000000 in
theorem pl_loop (a : Int) (A : Option Addr) (len cap N g r : Nat) (o : OpR) (R0 : RS) (w wr : World) (hN1 : 1 ≤ N) (hN8 : N ≤ 8) (zo : OpsAt w A len o)
    (ht : TD w wr g R0.ds r R0 (fun _ => False)) (hRL : R0.L.length = N) (hr0 : R0.ks.length ≤ 0 ∧ R0.puts.length ≤ 0 ∧ R0.pend.length ≤ 0) (hkk : ∀ k, R0.ds.caches k ≠ [] → k ∈ keysTo o 0)
    (u2 u3 u4 u10 u11 u12 u13 u14 u15 u16 u17 u18 u19 u20 u21 u22 u23 u24 u25 u26 u27 u28 u29 u30 u31 u32 u33 u34 u35 u36 u37 u38 u39 u40 u41 u42 u43 u44 u45 u46 u47 u48 u49 u50 u51 u52 u53 u54 u55 u56 u57 u58 u59 u60 u61 u62 u63 u64 u65 u66 u67 u68 u69 u70 u71 u72 u73 u74 u75 u76 u77 u78 u79 u80 u81 u82 u83 u84 u85 u86 u87 u88 u89 u90 u91 u92 u93 u94 u95 u96 u97 u98 u99 u100 u101 u102 u103 u104 u105 u106 u107 u108 u109 u110 u111 u112 u113 u114 u115 u116 u117 u118 u119 u120 u121 u122 u123 u124 u125 u126 u127 u128 u129 u130 u131 u132 u133 u134 u135 u136 u137 u138 u139 u140 u141 u142 u143 u144 u145 u146 u147 u148 u149 u150 u151 u152 u153 u154 u155 u156 u157 u158 u159 u160 u161 u162 u163 u164 u165 u166 u167 u168 u169 u170 u171 u172 u173 u174 u175 u176 u177 u178 u179 u180 u181 u182 u183 u184 u185 u186 u187 u188 u189 u190 u191 u192 u193 u194 u195 u196 u197 u198 u199 u200 u201 u202 u203 u204 u205 u206 u207 u208 u209 u210 u211 u212 u213 u214 u215 u216 u217 u218 u219 u220 u221 u222 u223 u224 u225 u226 u227 u228 u229 u230 u231 u232 u233 u234 u235 u236 u237 u238 u239 u240 u241 u242 u243 u244 u245 u246 u247 u248 u249 u250 u251 u252 u253 u254 u255 u256 u257 u258 u259 u260 u261 u262 u263 u264 u265 u266 u267 u268 u269 u270 u271 u272 u273 u274 u275 u276 u277 u278 u279 : Value) (Q : Exit → Act → World → Prop)
    (hX : Hid (∀ (v9 v4 v10 v11 v12 v13 v14 v15 v16 v17 v18 v19 v20 v21 v43 v44 v45 v46 v47 v48 v49 v50 v51 v52 v53 v54 v55 v56 v57 v58 v59 v60 v61 v62 v63 v64 v65 v66 v67 v68 v69 v70 v71 v72 v73 v74 v75 v76 v77 v78 v79 v80 v81 v82 v83 v84 v85 v86 v87 v88 v89 v90 v91 v92 v93 v94 v95 v96 v97 v98 v99 v100 v101 v102 v103 v104 v105 v106 v107 v108 v109 v110 v111 v112 v113 v114 v115 v116 v117 v118 v119 v120 v121 v122 v123 v124 v125 v126 v127 v128 v129 v130 v131 v132 v133 v134 v135 v136 v137 v138 v139 v140 v141 v142 v143 v144 v145 v146 v147 v148 v149 v150 v151 v152 v153 v154 v155 v156 v157 v158 v159 v160 v161 v162 v163 v164 v165 v166 v167 v168 v169 v170 v171 v172 v173 v174 v175 v176 v177 v178 v179 v180 v181 v182 v183 v184 v185 v186 v187 v188 v189 v190 v191 v192 v193 v194 v195 v196 v197 v198 v199 v200 v201 v202 v203 v204 v205 v206 v207 v208 v209 v210 v211 v212 v213 v214 v215 v216 v217 v218 v219 v220 v221 v222 v223 v224 v225 v226 v227 v228 v229 v230 v231 v232 v233 v234 v235 v236 v237 v238 v239 v240 v241 v242 v243 v244 v245 v246 v247 v248 v249 v250 v251 v252 v253 v254 v255 v256 v257 v258 v259 v260 v261 v262 v263 v264 v265 v266 v267 : Value) (w' : World) (R : RS), TD w w' g R.ds r R (fun _ => False) → R.L.length = N → Q (.exit 0) ⟨#[.int .i64 a, .slice A len cap, u2, u3, v4, .bool true, .int .i64 N, .pointer (some ⟨g, 0, none⟩), .pointer (some ⟨r, 0, none⟩), v9, v10, v11, v12, v13, v14, v15, v16, v17, v18, v19, v20, v21, u22, u23, u24, u25, u26, u27, u28, u29, u30, u31, u32, u33, u34, u35, u36, u37, u38, u39, u40, u41, u42, v43, v44, v45, v46, v47, v48, v49, v50, v51, v52, v53, v54, v55, v56, v57, v58, v59, v60, v61, v62, v63, v64, v65, v66, v67, v68, v69, v70, v71, v72, v73, v74, v75, v76, v77, v78, v79, v80, v81, v82, v83, v84, v85, v86, v87, v88, v89, v90, v91, v92, v93, v94, v95, v96, v97, v98, v99, v100, v101, v102, v103, v104, v105, v106, v107, v108, v109, v110, v111, v112, v113, v114, v115, v116, v117, v118, v119, v120, v121, v122, v123, v124, v125, v126, v127, v128, v129, v130, v131, v132, v133, v134, v135, v136, v137, v138, v139, v140, v141, v142, v143, v144, v145, v146, v147, v148, v149, v150, v151, v152, v153, v154, v155, v156, v157, v158, v159, v160, v161, v162, v163, v164, v165, v166, v167, v168, v169, v170, v171, v172, v173, v174, v175, v176, v177, v178, v179, v180, v181, v182, v183, v184, v185, v186, v187, v188, v189, v190, v191, v192, v193, v194, v195, v196, v197, v198, v199, v200, v201, v202, v203, v204, v205, v206, v207, v208, v209, v210, v211, v212, v213, v214, v215, v216, v217, v218, v219, v220, v221, v222, v223, v224, v225, v226, v227, v228, v229, v230, v231, v232, v233, v234, v235, v236, v237, v238, v239, v240, v241, v242, v243, v244, v245, v246, v247, v248, v249, v250, v251, v252, v253, v254, v255, v256, v257, v258, v259, v260, v261, v262, v263, v264, v265, v266, v267, u268, u269, u270, u271, u272, u273, u274, u275, u276, u277, u278, u279], []⟩ w')) :
    Code.wp Try.prog (Code.loop plBody) Q ⟨#[.int .i64 a, .slice A len cap, u2, u3, u4, .bool true, .int .i64 N, .pointer (some ⟨g, 0, none⟩), .pointer (some ⟨r, 0, none⟩), .int .i64 ((0 : Nat) : Int), u10, u11, u12, u13, u14, u15, u16, u17, u18, u19, u20, u21, u22, u23, u24, u25, u26, u27, u28, u29, u30, u31, u32, u33, u34, u35, u36, u37, u38, u39, u40, u41, u42, u43, u44, u45, u46, u47, u48, u49, u50, u51, u52, u53, u54, u55, u56, u57, u58, u59, u60, u61, u62, u63, u64, u65, u66, u67, u68, u69, u70, u71, u72, u73, u74, u75, u76, u77, u78, u79, u80, u81, u82, u83, u84, u85, u86, u87, u88, u89, u90, u91, u92, u93, u94, u95, u96, u97, u98, u99, u100, u101, u102, u103, u104, u105, u106, u107, u108, u109, u110, u111, u112, u113, u114, u115, u116, u117, u118, u119, u120, u121, u122, u123, u124, u125, u126, u127, u128, u129, u130, u131, u132, u133, u134, u135, u136, u137, u138, u139, u140, u141, u142, u143, u144, u145, u146, u147, u148, u149, u150, u151, u152, u153, u154, u155, u156, u157, u158, u159, u160, u161, u162, u163, u164, u165, u166, u167, u168, u169, u170, u171, u172, u173, u174, u175, u176, u177, u178, u179, u180, u181, u182, u183, u184, u185, u186, u187, u188, u189, u190, u191, u192, u193, u194, u195, u196, u197, u198, u199, u200, u201, u202, u203, u204, u205, u206, u207, u208, u209, u210, u211, u212, u213, u214, u215, u216, u217, u218, u219, u220, u221, u222, u223, u224, u225, u226, u227, u228, u229, u230, u231, u232, u233, u234, u235, u236, u237, u238, u239, u240, u241, u242, u243, u244, u245, u246, u247, u248, u249, u250, u251, u252, u253, u254, u255, u256, u257, u258, u259, u260, u261, u262, u263, u264, u265, u266, u267, u268, u269, u270, u271, u272, u273, u274, u275, u276, u277, u278, u279], []⟩ wr := by
  refine wp_loop (fun a' w' => ∃ (i : Nat) (R : RS) (v4 v10 v11 v12 v13 v14 v15 v16 v17 v18 v19 v20 v21 v43 v44 v45 v46 v47 v48 v49 v50 v51 v52 v53 v54 v55 v56 v57 v58 v59 v60 v61 v62 v63 v64 v65 v66 v67 v68 v69 v70 v71 v72 v73 v74 v75 v76 v77 v78 v79 v80 v81 v82 v83 v84 v85 v86 v87 v88 v89 v90 v91 v92 v93 v94 v95 v96 v97 v98 v99 v100 v101 v102 v103 v104 v105 v106 v107 v108 v109 v110 v111 v112 v113 v114 v115 v116 v117 v118 v119 v120 v121 v122 v123 v124 v125 v126 v127 v128 v129 v130 v131 v132 v133 v134 v135 v136 v137 v138 v139 v140 v141 v142 v143 v144 v145 v146 v147 v148 v149 v150 v151 v152 v153 v154 v155 v156 v157 v158 v159 v160 v161 v162 v163 v164 v165 v166 v167 v168 v169 v170 v171 v172 v173 v174 v175 v176 v177 v178 v179 v180 v181 v182 v183 v184 v185 v186 v187 v188 v189 v190 v191 v192 v193 v194 v195 v196 v197 v198 v199 v200 v201 v202 v203 v204 v205 v206 v207 v208 v209 v210 v211 v212 v213 v214 v215 v216 v217 v218 v219 v220 v221 v222 v223 v224 v225 v226 v227 v228 v229 v230 v231 v232 v233 v234 v235 v236 v237 v238 v239 v240 v241 v242 v243 v244 v245 v246 v247 v248 v249 v250 v251 v252 v253 v254 v255 v256 v257 v258 v259 v260 v261 v262 v263 v264 v265 v266 v267 : Value), (i ≤ len ∧ i ≤ 80 ∧ TD w w' g R.ds r R (fun _ => False) ∧ R.L.length = N ∧ R.ks.length ≤ i ∧ R.puts.length ≤ i ∧ R.pend.length ≤ i ∧ Hid (∀ k, R.ds.caches k ≠ [] → k ∈ keysTo o i)) ∧ a' = ⟨#[.int .i64 a, .slice A len cap, u2, u3, v4, .bool true, .int .i64 N, .pointer (some ⟨g, 0, none⟩), .pointer (some ⟨r, 0, none⟩), .int .i64 i, v10, v11, v12, v13, v14, v15, v16, v17, v18, v19, v20, v21, u22, u23, u24, u25, u26, u27, u28, u29, u30, u31, u32, u33, u34, u35, u36, u37, u38, u39, u40, u41, u42, v43, v44, v45, v46, v47, v48, v49, v50, v51, v52, v53, v54, v55, v56, v57, v58, v59, v60, v61, v62, v63, v64, v65, v66, v67, v68, v69, v70, v71, v72, v73, v74, v75, v76, v77, v78, v79, v80, v81, v82, v83, v84, v85, v86, v87, v88, v89, v90, v91, v92, v93, v94, v95, v96, v97, v98, v99, v100, v101, v102, v103, v104, v105, v106, v107, v108, v109, v110, v111, v112, v113, v114, v115, v116, v117, v118, v119, v120, v121, v122, v123, v124, v125, v126, v127, v128, v129, v130, v131, v132, v133, v134, v135, v136, v137, v138, v139, v140, v141, v142, v143, v144, v145, v146, v147, v148, v149, v150, v151, v152, v153, v154, v155, v156, v157, v158, v159, v160, v161, v162, v163, v164, v165, v166, v167, v168, v169, v170, v171, v172, v173, v174, v175, v176, v177, v178, v179, v180, v181, v182, v183, v184, v185, v186, v187, v188, v189, v190, v191, v192, v193, v194, v195, v196, v197, v198, v199, v200, v201, v202, v203, v204, v205, v206, v207, v208, v209, v210, v211, v212, v213, v214, v215, v216, v217, v218, v219, v220, v221, v222, v223, v224, v225, v226, v227, v228, v229, v230, v231, v232, v233, v234, v235, v236, v237, v238, v239, v240, v241, v242, v243, v244, v245, v246, v247, v248, v249, v250, v251, v252, v253, v254, v255, v256, v257, v258, v259, v260, v261, v262, v263, v264, v265, v266, v267, u268, u269, u270, u271, u272, u273, u274, u275, u276, u277, u278, u279], []⟩) (fun a' _ => 80 - (intOf (a'.tmps.getD 9 undef)).toNat) ?_ ?_
  · exact ⟨0, R0, _, _, _, _, _, _, _, _, _, _, _, _, _, _, _, _, _, _, _, _, _, _, _, _, _, _, _, _, _, _, _, _, _, _, _, _, _, _, _, _, _, _, _, _, _, _, _, _, _, _, _, _, _, _, _, _, _, _, _, _, _, _, _, _, _, _, _, _, _, _, _, _, _, _, _, _, _, _, _, _, _, _, _, _, _, _, _, _, _, _, _, _, _, _, _, _, _, _, _, _, _, _, _, _, _, _, _, _, _, _, _, _, _, _, _, _, _, _, _, _, _, _, _, _, _, _, _, _, _, _, _, _, _, _, _, _, _, _, _, _, _, _, _, _, _, _, _, _, _, _, _, _, _, _, _, _, _, _, _, _, _, _, _, _, _, _, _, _, _, _, _, _, _, _, _, _, _, _, _, _, _, _, _, _, _, _, _, _, _, _, _, _, _, _, _, _, _, _, _, _, _, _, _, _, _, _, _, _, _, _, _, _, _, _, _, _, _, _, _, _, _, _, _, _, _, _, _, _, _, _, _, _, _, _, _, _, _, _, ⟨by omega, by omega, ht, hRL, hr0.1, hr0.2.1, hr0.2.2, Lib.hid hkk⟩, rfl⟩
  · intro a' w' hI
    obtain ⟨i, R, hI⟩ := hI
    obtain ⟨v4, hI⟩ := hI
    obtain ⟨v10, hI⟩ := hI
    obtain ⟨v11, hI⟩ := hI
    obtain ⟨v12, hI⟩ := hI
    obtain ⟨v13, hI⟩ := hI
    obtain ⟨v14, hI⟩ := hI
    obtain ⟨v15, hI⟩ := hI
    obtain ⟨v16, hI⟩ := hI
    obtain ⟨v17, hI⟩ := hI
    obtain ⟨v18, hI⟩ := hI
    obtain ⟨v19, hI⟩ := hI
    obtain ⟨v20, hI⟩ := hI
    obtain ⟨v21, hI⟩ := hI
    obtain ⟨v43, hI⟩ := hI
    obtain ⟨v44, hI⟩ := hI
    obtain ⟨v45, hI⟩ := hI
    obtain ⟨v46, hI⟩ := hI
    obtain ⟨v47, hI⟩ := hI
    obtain ⟨v48, hI⟩ := hI
    obtain ⟨v49, hI⟩ := hI
    obtain ⟨v50, hI⟩ := hI
    obtain ⟨v51, hI⟩ := hI
    obtain ⟨v52, hI⟩ := hI
    obtain ⟨v53, hI⟩ := hI
    obtain ⟨v54, hI⟩ := hI
    obtain ⟨v55, hI⟩ := hI
    obtain ⟨v56, hI⟩ := hI
    obtain ⟨v57, hI⟩ := hI
    obtain ⟨v58, hI⟩ := hI
    obtain ⟨v59, hI⟩ := hI
    obtain ⟨v60, hI⟩ := hI
    obtain ⟨v61, hI⟩ := hI
    obtain ⟨v62, hI⟩ := hI
    obtain ⟨v63, hI⟩ := hI
    obtain ⟨v64, hI⟩ := hI
    obtain ⟨v65, hI⟩ := hI
    obtain ⟨v66, hI⟩ := hI
    obtain ⟨v67, hI⟩ := hI
    obtain ⟨v68, hI⟩ := hI
    obtain ⟨v69, hI⟩ := hI
    obtain ⟨v70, hI⟩ := hI
    obtain ⟨v71, hI⟩ := hI
    obtain ⟨v72, hI⟩ := hI
    obtain ⟨v73, hI⟩ := hI
    obtain ⟨v74, hI⟩ := hI
    obtain ⟨v75, hI⟩ := hI
    obtain ⟨v76, hI⟩ := hI
    obtain ⟨v77, hI⟩ := hI
    obtain ⟨v78, hI⟩ := hI
    obtain ⟨v79, hI⟩ := hI
    obtain ⟨v80, hI⟩ := hI
    obtain ⟨v81, hI⟩ := hI
    obtain ⟨v82, hI⟩ := hI
    obtain ⟨v83, hI⟩ := hI
    obtain ⟨v84, hI⟩ := hI
    obtain ⟨v85, hI⟩ := hI
    obtain ⟨v86, hI⟩ := hI
    obtain ⟨v87, hI⟩ := hI
    obtain ⟨v88, hI⟩ := hI
    obtain ⟨v89, hI⟩ := hI
    obtain ⟨v90, hI⟩ := hI
    obtain ⟨v91, hI⟩ := hI
    obtain ⟨v92, hI⟩ := hI
    obtain ⟨v93, hI⟩ := hI
    obtain ⟨v94, hI⟩ := hI
    obtain ⟨v95, hI⟩ := hI
    obtain ⟨v96, hI⟩ := hI
    obtain ⟨v97, hI⟩ := hI
    obtain ⟨v98, hI⟩ := hI
    obtain ⟨v99, hI⟩ := hI
    obtain ⟨v100, hI⟩ := hI
    obtain ⟨v101, hI⟩ := hI
    obtain ⟨v102, hI⟩ := hI
    obtain ⟨v103, hI⟩ := hI
    obtain ⟨v104, hI⟩ := hI
    obtain ⟨v105, hI⟩ := hI
    obtain ⟨v106, hI⟩ := hI
    obtain ⟨v107, hI⟩ := hI
    obtain ⟨v108, hI⟩ := hI
    obtain ⟨v109, hI⟩ := hI
    obtain ⟨v110, hI⟩ := hI
    obtain ⟨v111, hI⟩ := hI
    obtain ⟨v112, hI⟩ := hI
    obtain ⟨v113, hI⟩ := hI
    obtain ⟨v114, hI⟩ := hI
    obtain ⟨v115, hI⟩ := hI
    obtain ⟨v116, hI⟩ := hI
    obtain ⟨v117, hI⟩ := hI
    obtain ⟨v118, hI⟩ := hI
    obtain ⟨v119, hI⟩ := hI
    obtain ⟨v120, hI⟩ := hI
    obtain ⟨v121, hI⟩ := hI
    obtain ⟨v122, hI⟩ := hI
    obtain ⟨v123, hI⟩ := hI
    obtain ⟨v124, hI⟩ := hI
    obtain ⟨v125, hI⟩ := hI
    obtain ⟨v126, hI⟩ := hI
    obtain ⟨v127, hI⟩ := hI
    obtain ⟨v128, hI⟩ := hI
    obtain ⟨v129, hI⟩ := hI
    obtain ⟨v130, hI⟩ := hI
    obtain ⟨v131, hI⟩ := hI
    obtain ⟨v132, hI⟩ := hI
    obtain ⟨v133, hI⟩ := hI
    obtain ⟨v134, hI⟩ := hI
    obtain ⟨v135, hI⟩ := hI
    obtain ⟨v136, hI⟩ := hI
    obtain ⟨v137, hI⟩ := hI
    obtain ⟨v138, hI⟩ := hI
    obtain ⟨v139, hI⟩ := hI
    obtain ⟨v140, hI⟩ := hI
    obtain ⟨v141, hI⟩ := hI
    obtain ⟨v142, hI⟩ := hI
    obtain ⟨v143, hI⟩ := hI
    obtain ⟨v144, hI⟩ := hI
    obtain ⟨v145, hI⟩ := hI
    obtain ⟨v146, hI⟩ := hI
    obtain ⟨v147, hI⟩ := hI
    obtain ⟨v148, hI⟩ := hI
    obtain ⟨v149, hI⟩ := hI
    obtain ⟨v150, hI⟩ := hI
    obtain ⟨v151, hI⟩ := hI
    obtain ⟨v152, hI⟩ := hI
    obtain ⟨v153, hI⟩ := hI
    obtain ⟨v154, hI⟩ := hI
    obtain ⟨v155, hI⟩ := hI
    obtain ⟨v156, hI⟩ := hI
    obtain ⟨v157, hI⟩ := hI
    obtain ⟨v158, hI⟩ := hI
    obtain ⟨v159, hI⟩ := hI
    obtain ⟨v160, hI⟩ := hI
    obtain ⟨v161, hI⟩ := hI
    obtain ⟨v162, hI⟩ := hI
    obtain ⟨v163, hI⟩ := hI
    obtain ⟨v164, hI⟩ := hI
    obtain ⟨v165, hI⟩ := hI
    obtain ⟨v166, hI⟩ := hI
    obtain ⟨v167, hI⟩ := hI
    obtain ⟨v168, hI⟩ := hI
    obtain ⟨v169, hI⟩ := hI
    obtain ⟨v170, hI⟩ := hI
    obtain ⟨v171, hI⟩ := hI
    obtain ⟨v172, hI⟩ := hI
    obtain ⟨v173, hI⟩ := hI
    obtain ⟨v174, hI⟩ := hI
    obtain ⟨v175, hI⟩ := hI
    obtain ⟨v176, hI⟩ := hI
    obtain ⟨v177, hI⟩ := hI
    obtain ⟨v178, hI⟩ := hI
    obtain ⟨v179, hI⟩ := hI
    obtain ⟨v180, hI⟩ := hI
    obtain ⟨v181, hI⟩ := hI
    obtain ⟨v182, hI⟩ := hI
    obtain ⟨v183, hI⟩ := hI
    obtain ⟨v184, hI⟩ := hI
    obtain ⟨v185, hI⟩ := hI
    obtain ⟨v186, hI⟩ := hI
    obtain ⟨v187, hI⟩ := hI
    obtain ⟨v188, hI⟩ := hI
    obtain ⟨v189, hI⟩ := hI
    obtain ⟨v190, hI⟩ := hI
    obtain ⟨v191, hI⟩ := hI
    obtain ⟨v192, hI⟩ := hI
    obtain ⟨v193, hI⟩ := hI
    obtain ⟨v194, hI⟩ := hI
    obtain ⟨v195, hI⟩ := hI
    obtain ⟨v196, hI⟩ := hI
    obtain ⟨v197, hI⟩ := hI
    obtain ⟨v198, hI⟩ := hI
    obtain ⟨v199, hI⟩ := hI
    obtain ⟨v200, hI⟩ := hI
    obtain ⟨v201, hI⟩ := hI
    obtain ⟨v202, hI⟩ := hI
    obtain ⟨v203, hI⟩ := hI
    obtain ⟨v204, hI⟩ := hI
    obtain ⟨v205, hI⟩ := hI
    obtain ⟨v206, hI⟩ := hI
    obtain ⟨v207, hI⟩ := hI
    obtain ⟨v208, hI⟩ := hI
    obtain ⟨v209, hI⟩ := hI
    obtain ⟨v210, hI⟩ := hI
    obtain ⟨v211, hI⟩ := hI
    obtain ⟨v212, hI⟩ := hI
    obtain ⟨v213, hI⟩ := hI
    obtain ⟨v214, hI⟩ := hI
    obtain ⟨v215, hI⟩ := hI
    obtain ⟨v216, hI⟩ := hI
    obtain ⟨v217, hI⟩ := hI
    obtain ⟨v218, hI⟩ := hI
    obtain ⟨v219, hI⟩ := hI
    obtain ⟨v220, hI⟩ := hI
    obtain ⟨v221, hI⟩ := hI
    obtain ⟨v222, hI⟩ := hI
    obtain ⟨v223, hI⟩ := hI
    obtain ⟨v224, hI⟩ := hI
    obtain ⟨v225, hI⟩ := hI
    obtain ⟨v226, hI⟩ := hI
    obtain ⟨v227, hI⟩ := hI
    obtain ⟨v228, hI⟩ := hI
    obtain ⟨v229, hI⟩ := hI
    obtain ⟨v230, hI⟩ := hI
    obtain ⟨v231, hI⟩ := hI
    obtain ⟨v232, hI⟩ := hI
    obtain ⟨v233, hI⟩ := hI
    obtain ⟨v234, hI⟩ := hI
    obtain ⟨v235, hI⟩ := hI
    obtain ⟨v236, hI⟩ := hI
    obtain ⟨v237, hI⟩ := hI
    obtain ⟨v238, hI⟩ := hI
    obtain ⟨v239, hI⟩ := hI
    obtain ⟨v240, hI⟩ := hI
    obtain ⟨v241, hI⟩ := hI
    obtain ⟨v242, hI⟩ := hI
    obtain ⟨v243, hI⟩ := hI
    obtain ⟨v244, hI⟩ := hI
    obtain ⟨v245, hI⟩ := hI
    obtain ⟨v246, hI⟩ := hI
    obtain ⟨v247, hI⟩ := hI
    obtain ⟨v248, hI⟩ := hI
    obtain ⟨v249, hI⟩ := hI
    obtain ⟨v250, hI⟩ := hI
    obtain ⟨v251, hI⟩ := hI
    obtain ⟨v252, hI⟩ := hI
    obtain ⟨v253, hI⟩ := hI
    obtain ⟨v254, hI⟩ := hI
    obtain ⟨v255, hI⟩ := hI
    obtain ⟨v256, hI⟩ := hI
    obtain ⟨v257, hI⟩ := hI
    obtain ⟨v258, hI⟩ := hI
    obtain ⟨v259, hI⟩ := hI
    obtain ⟨v260, hI⟩ := hI
    obtain ⟨v261, hI⟩ := hI
    obtain ⟨v262, hI⟩ := hI
    obtain ⟨v263, hI⟩ := hI
    obtain ⟨v264, hI⟩ := hI
    obtain ⟨v265, hI⟩ := hI
    obtain ⟨v266, hI⟩ := hI
    obtain ⟨v267, hI⟩ := hI
    obtain ⟨⟨i1, i2, i3, i4, i5, i6, i7, i8⟩, rfl⟩ := hI
    refine pl_round a A len cap i N g r o R w w' hN1 hN8 zo i1 i2 i3 i4 i5 i6 i7 i8 _ _ _ _ _ _ _ _ _ _ _ _ _ _ _ _ _ _ _ _ _ _ _ _ _ _ _ _ _ _ _ _ _ _ _ _ _ _ _ _ _ _ _ _ _ _ _ _ _ _ _ _ _ _ _ _ _ _ _ _ _ _ _ _ _ _ _ _ _ _ _ _ _ _ _ _ _ _ _ _ _ _ _ _ _ _ _ _ _ _ _ _ _ _ _ _ _ _ _ _ _ _ _ _ _ _ _ _ _ _ _ _ _ _ _ _ _ _ _ _ _ _ _ _ _ _ _ _ _ _ _ _ _ _ _ _ _ _ _ _ _ _ _ _ _ _ _ _ _ _ _ _ _ _ _ _ _ _ _ _ _ _ _ _ _ _ _ _ _ _ _ _ _ _ _ _ _ _ _ _ _ _ _ _ _ _ _ _ _ _ _ _ _ _ _ _ _ _ _ _ _ _ _ _ _ _ _ _ _ _ _ _ _ _ _ _ _ _ _ _ _ _ _ _ _ _ _ _ _ _ _ _ _ _ _ _ _ _ _ _ _ _ _ _ _ _ _ _ _ _ _ _ _ _ _ _ _ _ _ _ _ _ _ _ _ _ _ _ _ _ _ _ _ _ _ (Lib.hid ?_) (Lib.hid ?_)
    · intro v9 z4 z10 z11 z12 z13 z14 z15 z16 z17 z18 z19 z20 z21 z43 z44 z45 z46 z47 z48 z49 z50 z51 z52 z53 z54 z55 z56 z57 z58 z59 z60 z61 z62 z63 z64 z65 z66 z67 z68 z69 z70 z71 z72 z73 z74 z75 z76 z77 z78 z79 z80 z81 z82 z83 z84 z85 z86 z87 z88 z89 z90 z91 z92 z93 z94 z95 z96 z97 z98 z99 z100 z101 z102 z103 z104 z105 z106 z107 z108 z109 z110 z111 z112 z113 z114 z115 z116 z117 z118 z119 z120 z121 z122 z123 z124 z125 z126 z127 z128 z129 z130 z131 z132 z133 z134 z135 z136 z137 z138 z139 z140 z141 z142 z143 z144 z145 z146 z147 z148 z149 z150 z151 z152 z153 z154 z155 z156 z157 z158 z159 z160 z161 z162 z163 z164 z165 z166 z167 z168 z169 z170 z171 z172 z173 z174 z175 z176 z177 z178 z179 z180 z181 z182 z183 z184 z185 z186 z187 z188 z189 z190 z191 z192 z193 z194 z195 z196 z197 z198 z199 z200 z201 z202 z203 z204 z205 z206 z207 z208 z209 z210 z211 z212 z213 z214 z215 z216 z217 z218 z219 z220 z221 z222 z223 z224 z225 z226 z227 z228 z229 z230 z231 z232 z233 z234 z235 z236 z237 z238 z239 z240 z241 z242 z243 z244 z245 z246 z247 z248 z249 z250 z251 z252 z253 z254 z255 z256 z257 z258 z259 z260 z261 z262 z263 z264 z265 z266 z267 w2 R2 e9 j0 j1 j2 j3 j4 j5 j6 j7
      subst e9
      refine ⟨⟨i + 1, R2, _, _, _, _, _, _, _, _, _, _, _, _, _, _, _, _, _, _, _, _, _, _, _, _, _, _, _, _, _, _, _, _, _, _, _, _, _, _, _, _, _, _, _, _, _, _, _, _, _, _, _, _, _, _, _, _, _, _, _, _, _, _, _, _, _, _, _, _, _, _, _, _, _, _, _, _, _, _, _, _, _, _, _, _, _, _, _, _, _, _, _, _, _, _, _, _, _, _, _, _, _, _, _, _, _, _, _, _, _, _, _, _, _, _, _, _, _, _, _, _, _, _, _, _, _, _, _, _, _, _, _, _, _, _, _, _, _, _, _, _, _, _, _, _, _, _, _, _, _, _, _, _, _, _, _, _, _, _, _, _, _, _, _, _, _, _, _, _, _, _, _, _, _, _, _, _, _, _, _, _, _, _, _, _, _, _, _, _, _, _, _, _, _, _, _, _, _, _, _, _, _, _, _, _, _, _, _, _, _, _, _, _, _, _, _, _, _, _, _, _, _, _, _, _, _, _, _, _, _, _, _, _, _, _, _, _, _, _, ⟨by omega, by omega, j2, j3, j4, j5, j6, j7⟩, rfl⟩, ?_⟩
      show 80 - (((i + 1 : Nat) : Int)).toNat < 80 - ((i : Nat) : Int).toNat
      omega
    · intro z43 z44 z45 z46 z47 z48 z49 z50
      exact hX.out _ _ _ _ _ _ _ _ _ _ _ _ _ _ _ _ _ _ _ _ _ _ _ _ _ _ _ _ _ _ _ _ _ _ _ _ _ _ _ _ _ _ _ _ _ _ _ _ _ _ _ _ _ _ _ _ _ _ _ _ _ _ _ _ _ _ _ _ _ _ _ _ _ _ _ _ _ _ _ _ _ _ _ _ _ _ _ _ _ _ _ _ _ _ _ _ _ _ _ _ _ _ _ _ _ _ _ _ _ _ _ _ _ _ _ _ _ _ _ _ _ _ _ _ _ _ _ _ _ _ _ _ _ _ _ _ _ _ _ _ _ _ _ _ _ _ _ _ _ _ _ _ _ _ _ _ _ _ _ _ _ _ _ _ _ _ _ _ _ _ _ _ _ _ _ _ _ _ _ _ _ _ _ _ _ _ _ _ _ _ _ _ _ _ _ _ _ _ _ _ _ _ _ _ _ _ _ _ _ _ _ _ _ _ _ _ _ _ _ _ _ _ _ _ _ _ _ _ _ _ _ _ _ _ _ _ _ _ _ _ _ i3 i4
set_option maxRecDepth 100000 in
set_option maxHeartbeats 8000000 in
theorem law_plays (a : Int) (A : Option Addr) (len cap : Nat) (o : OpR) (w : World) (h0 : -9223372036854775808 ≤ a) (h1 : a ≤ 9223372036854775807) (zo : OpsAt w A len o) :
    Calls Try.prog 8 #[.int .i64 a, .slice A len cap] w fun e w' => e = .returned (.bool true) ∧ Below w.heap.size w w' := by
  have ta1 := Int.tmod_lt_of_pos a (show (0:Int) < 8 by omega)
  have ta2 := Int.lt_tmod_of_pos a (show (0:Int) < 8 by omega)
  go_enter Try.func8, Try.ntmps8
  go_wp2_with fail
  refine (awake_any _).mono ?_
  rintro e w1 ⟨rfl, hb1⟩
  go_upto_if 26 with (fail)
  go_cut [6] (fun s w' => ∃ x : Nat, s = .int .i64 x ∧ x ≤ 7 ∧ w1 = w')
  case first =>
    go_wp2
    all_goals go_meet
    · exact ⟨(-a.tmod 8).toNat, vint (by omega), by omega, rfl⟩
    · exact ⟨(a.tmod 8).toNat, vint (by omega), by omega, rfl⟩
  case rest =>
  obtain ⟨x, rfl, hx7, rfl⟩ := hcut
  clear ta1 ta2
  have hxn : (x : Int) + 1 = ((x + 1 : Nat) : Int) := by omega
  obtain ⟨N, hN⟩ : ∃ N, x + 1 = N := ⟨_, rfl⟩
  have hN1 : 1 ≤ N := by omega
  have hN8 : N ≤ 8 := by omega
  rw [hN] at hxn
  go_upto_region 6 with (fail)
  clear hxn hN hx7
  go_wp2_with fail
  refine (new_dl w w1 hb1 N hN1 (by omega)).mono ?_
  rintro e w2 ⟨g, rfl, h2⟩
  clear hb1
  go_wp2_with fail
  refine (rnew_any N w2 hN1 (by omega)).mono ?_
  rintro e w3 ⟨r, G, rfl, h3, hG, b3⟩
  have ht : TD w w3 g (RN (zeros 512) N).ds r (RN (zeros 512) N) (fun _ => False) := by
    rw [rn_ds]
    exact ⟨G, h3, h2.dz b3 (fun z hz => hz.elim (fun h => h.elim) (fun hz => ⟨hG z hz, h3.x.elim fun vs hx => hx.fb z hz⟩)), fun k hk => ⟨Nat.le_trans h2.b.size (hG k hk), fun h => h⟩⟩
  have hsec : Calls Try.prog 27 #[.pointer (some ⟨g, 0, none⟩)] w3 fun e w' => e = .returned (.int .i64 (N : Nat)) ∧ w3 = w' := by
    obtain ⟨F, hi, _⟩ := h2.dz b3 (Z := fun _ => False) (fun z hz => hz.elim)
    have := sectors_any hi
    rw [show (DS.new N).lies.length = N by simp [DS.new]] at this
    exact this
  have hRL : (RN (zeros 512) N).L.length = N := by simp [RN]
  have hkk0 : ∀ k, (RN (zeros 512) N).ds.caches k ≠ [] → k ∈ keysTo o 0 := fun k hk => absurd rfl hk
  have hr0 : (RN (zeros 512) N).ks.length ≤ 0 ∧ (RN (zeros 512) N).puts.length ≤ 0 ∧ (RN (zeros 512) N).pend.length ≤ 0 := ⟨Nat.le_refl _, Nat.le_refl _, Nat.le_refl _⟩
  generalize RN (zeros 512) N = R0 at *
  clear h2 h3 hG b3
  go_wp2_with fail
  refine hsec.mono ?_
  rintro e w4 ⟨rfl, rfl⟩
  clear hsec
  go_upto_block 0 with (fail)
  go_cut [9] (fun _ w' => ∃ R : RS, TD w w' g R.ds r R (fun _ => False) ∧ R.L.length = N)
  case first =>
    go_wp2_with fail
    refine pl_loop a A len cap N g r o R0 w w3 hN1 hN8 zo ht hRL hr0 hkk0 _ _ _ _ _ _ _ _ _ _ _ _ _ _ _ _ _ _ _ _ _ _ _ _ _ _ _ _ _ _ _ _ _ _ _ _ _ _ _ _ _ _ _ _ _ _ _ _ _ _ _ _ _ _ _ _ _ _ _ _ _ _ _ _ _ _ _ _ _ _ _ _ _ _ _ _ _ _ _ _ _ _ _ _ _ _ _ _ _ _ _ _ _ _ _ _ _ _ _ _ _ _ _ _ _ _ _ _ _ _ _ _ _ _ _ _ _ _ _ _ _ _ _ _ _ _ _ _ _ _ _ _ _ _ _ _ _ _ _ _ _ _ _ _ _ _ _ _ _ _ _ _ _ _ _ _ _ _ _ _ _ _ _ _ _ _ _ _ _ _ _ _ _ _ _ _ _ _ _ _ _ _ _ _ _ _ _ _ _ _ _ _ _ _ _ _ _ _ _ _ _ _ _ _ _ _ _ _ _ _ _ _ _ _ _ _ _ _ _ _ _ _ _ _ _ _ _ _ _ _ _ _ _ _ _ _ _ _ _ _ _ _ _ _ _ _ _ _ _ _ _ _ _ _ _ _ _ _ _ _ _ _ _ _ _ _ _ _ _ _ _ _ _ _ (Lib.hid ?_)
    intro v9 v4 v10 v11 v12 v13 v14 v15 v16 v17 v18 v19 v20 v21 v43 v44 v45 v46 v47 v48 v49 v50 v51 v52 v53 v54 v55 v56 v57 v58 v59 v60 v61 v62 v63 v64 v65 v66 v67 v68 v69 v70 v71 v72 v73 v74 v75 v76 v77 v78 v79 v80 v81 v82 v83 v84 v85 v86 v87 v88 v89 v90 v91 v92 v93 v94 v95 v96 v97 v98 v99 v100 v101 v102 v103 v104 v105 v106 v107 v108 v109 v110 v111 v112 v113 v114 v115 v116 v117 v118 v119 v120 v121 v122 v123 v124 v125 v126 v127 v128 v129 v130 v131 v132 v133 v134 v135 v136 v137 v138 v139 v140 v141 v142 v143 v144 v145 v146 v147 v148 v149 v150 v151 v152 v153 v154 v155 v156 v157 v158 v159 v160 v161 v162 v163 v164 v165 v166 v167 v168 v169 v170 v171 v172 v173 v174 v175 v176 v177 v178 v179 v180 v181 v182 v183 v184 v185 v186 v187 v188 v189 v190 v191 v192 v193 v194 v195 v196 v197 v198 v199 v200 v201 v202 v203 v204 v205 v206 v207 v208 v209 v210 v211 v212 v213 v214 v215 v216 v217 v218 v219 v220 v221 v222 v223 v224 v225 v226 v227 v228 v229 v230 v231 v232 v233 v234 v235 v236 v237 v238 v239 v240 v241 v242 v243 v244 v245 v246 v247 v248 v249 v250 v251 v252 v253 v254 v255 v256 v257 v258 v259 v260 v261 v262 v263 v264 v265 v266 v267 w9 R9 t9 l9
    clear ht hRL hr0 hkk0
    go_wp2_with fail
    all_goals go_meet
    all_goals exact ⟨R9, t9, l9⟩
  case rest =>
  clear ht hRL hr0 hkk0 zo
  obtain ⟨R, ht, hRL⟩ := hcut
  have hb := ht.b
  obtain ⟨Z', hz, _, _⟩ := ht.dop
  have p1 := hz.peek (-1) ⟨#[]⟩ (by unfold fPeek; rw [if_neg (by omega)])
  have p2 := hz.peek (N : Int) ⟨#[]⟩ (by unfold fPeek; rw [if_neg (by show ¬ (0 ≤ (N : Int) ∧ (N : Int) < R.L.length); omega)])
  clear ht hz
  go_wp2_with fail
  refine p1.mono ?_
  rintro e wz ⟨rfl, rfl⟩
  go_wp2_with fail
  refine p2.mono ?_
  rintro e wz ⟨rfl, rfl⟩
  go_wp2_with fail
  go_ret
  exact ⟨rfl, hb⟩
end Go.Proofs.Ytekgoliakgknjaa
