/- Law BloomTells: the great comparison, a statement of its own.
   Conditions: those that the theorem names. -/
import Derived.Test.YtehfinjcfjobeaaBlmX
import Derived.Test.YtehfinjcfjobeaaStmt
namespace Go.Proofs.Ytehfinjcfjobeaa
set_option maxRecDepth 100000
set_option linter.unusedVariables false
set_option linter.unusedSimpArgs false
open Go.RowKit Go.Rg
theorem neqv_markS (a : List UInt8) (ha : a.length = 16) (x y : Operand) (w : World) : (do eqGuard .neq 24 x y (.agg (a.map byteV).toArray) (.agg (a.map byteV).toArray); binOp .neq 24 (.agg (a.map byteV).toArray) (.agg (a.map byteV).toArray) : Sem Value).run Try.prog w = .ok (.bool false) w := by
  rw [Sem.run_bind, run_eqGuard_agg w .neq 24 x y _ _ (by kernel_rfl), Result.andThen_ok, run_neq_struct]
  have := eq_mark_in 9998 a a ha ha w
  unfold markV at this
  rw [beq_self_eq_true] at this
  rw [this]; rfl
set_option maxHeartbeats 8000000 in
theorem bt_r31 (n q : Nat) (hq : 8 * n = q) (hn8 : 8 ≤ n) (hn1 : n ≤ 1024) (Mo : Int) (av bv yv : Value) (M F V : List UInt8) (hM : M.length = 16) (hFl : F.length = n) (hVl : V.length = n) (b kf ku g1 c1 : Nat) (vf vu vv : Value) (lo : Nat) (w7 : World)
    (BX : CaseAt b (q : Int) Mo av bv M yv w7) (hR : FltAt kf vf F w7) (HU : FltAt ku vu V w7) (h15 : RowL lo 4 w7 (.slice (some ⟨g1, 0, none⟩) q c1) (boolsV (bitsOf F))) (h16 : RowL lo 4 w7 vv (boolsV (bitsOf V)))
    (Q : Exit → Act → World → Prop) (u0 u2 u4 u5 u6 u7 u8 u9 u10 u11 u12 u13 u14 u20 u21 u22 u23 u24 u25 u26 u27 u28 u29 u30 u31 u32 u33 u34 u35 u36 u37 u38 u39 u40 u41 u42 u43 u44 u45 u46 u47 u48 u49 u50 u51 u52 u53 u54 u55 u56 u57 u58 u59 u60 u61 u62 u63 u64 u65 u66 u67 u68 u69 u70 u71 u72 u73 u74 u75 u76 u77 u78 u79 u80 u81 u82 u83 u84 u85 u86 u87 u88 u89 u90 u91 u92 u93 u94 u95 u96 u97 u98 u99 u100 u101 u102 u103 u104 u105 u106 u107 u108 u109 u110 u111 u112 u113 u114 u115 u116 u117 u118 u119 u120 u121 u122 u123 u124 u125 u126 u127 u128 u129 u130 u131 u132 u133 u134 u135 u136 u137 u138 u139 u140 u141 u142 u143 u144 u145 u146 u147 u148 u149 u150 u151 u152 u153 u154 u155 u156 u157 u158 u159 u160 u161 u162 u163 u164 u165 u166 u167 u168 u169 u170 u171 u172 u173 u174 u175 u176 u177 u178 u179 u180 u181 u182 u183 u184 u185 u186 u187 u188 u189 u190 u191 u192 u193 u194 u195 u196 u197 u198 u199 u200 u201 u202 u203 u204 u205 u206 u207 u208 u209 u210 u211 u212 u213 u214 u215 u216 u217 u218 u219 u220 u221 u222 u223 u224 u225 u226 u227 u228 u229 u230 u231 u232 u233 u234 u235 u236 u237 u238 u239 u240 u241 u242 u243 u244 u245 u246 u247 u248 u249 u250 u251 u252 u253 u254 u255 u256 u257 u258 u259 u260 u261 u262 u263 u264 u265 u266 u267 u268 u269 u270 u271 u272 u273 u274 u275 u276 u277 u278 u279 u280 u281 u282 u283 u284 u285 u286 u287 u288 u289 u290 u291 u292 u293 u294 u295 u296 u297 u298 u299 u300 u301 u302 u303 u304 u305 u306 u307 u308 u309 u310 u311 u312 u313 u314 u315 u316 u317 u318 u319 u320 u321 u322 u323 u324 u325 u326 u327 : Value)
    (hK : ∀ (v180 v181 v182 v183 v184 v185 v186 v187 v188 v189 v190 v191 v192 v193 v194 v195 v196 v197 v198 v199 v200 v201 v202 v203 v204 v205 v206 v207 v208 v209 v210 v211 v212 v213 v214 v215 v216 v217 v218 v219 v220 v221 v222 v223 v224 v225 v226 v227 v228 v229 v230 v231 v232 v233 v234 v235 v236 v237 : Value) (X : World), Below w7.heap.size w7 X → Q .normal { tmps := #[u0, .pointer (some ⟨b, 0, none⟩), u2, ptr kf, u4, u5, u6, u7, u8, u9, u10, u11, u12, u13, u14, ptr ku, .int .i64 0, .slice (some ⟨g1, 0, none⟩) q c1, vv, .int .i64 (cntB F : Int), u20, u21, u22, u23, u24, u25, u26, u27, u28, u29, u30, u31, u32, u33, u34, u35, u36, u37, u38, u39, u40, u41, u42, u43, u44, u45, u46, u47, u48, u49, u50, u51, u52, u53, u54, u55, u56, u57, u58, u59, u60, u61, u62, u63, u64, u65, u66, u67, u68, u69, u70, u71, u72, u73, u74, u75, u76, u77, u78, u79, u80, u81, u82, u83, u84, u85, u86, u87, u88, u89, u90, u91, u92, u93, u94, u95, u96, u97, u98, u99, u100, u101, u102, u103, u104, u105, u106, u107, u108, u109, u110, u111, u112, u113, u114, u115, u116, u117, u118, u119, u120, u121, u122, u123, u124, u125, u126, u127, u128, u129, u130, u131, u132, u133, u134, u135, u136, u137, u138, u139, u140, u141, u142, u143, u144, u145, u146, u147, u148, u149, u150, u151, u152, u153, u154, u155, u156, u157, u158, u159, u160, u161, u162, u163, u164, u165, u166, u167, u168, u169, u170, u171, u172, u173, u174, u175, u176, u177, u178, u179, v180, v181, v182, v183, v184, v185, v186, v187, v188, v189, v190, v191, v192, v193, v194, v195, v196, v197, v198, v199, v200, v201, v202, v203, v204, v205, v206, v207, v208, v209, v210, v211, v212, v213, v214, v215, v216, v217, v218, v219, v220, v221, v222, v223, v224, v225, v226, v227, v228, v229, v230, v231, v232, v233, v234, v235, v236, v237, .bool false, u239, u240, u241, u242, u243, u244, u245, u246, u247, u248, u249, u250, u251, u252, u253, u254, u255, u256, u257, u258, u259, u260, u261, u262, u263, u264, u265, u266, u267, u268, u269, u270, u271, u272, u273, u274, u275, u276, u277, u278, u279, u280, u281, u282, u283, u284, u285, u286, u287, u288, u289, u290, u291, u292, u293, u294, u295, u296, u297, u298, u299, u300, u301, u302, u303, u304, u305, u306, u307, u308, u309, u310, u311, u312, u313, u314, u315, u316, u317, u318, u319, u320, u321, u322, u323, u324, u325, u326, u327], defers := [] } X) :
    Code.wp Try.prog (stmt Try.f5 false 31) Q { tmps := #[u0, .pointer (some ⟨b, 0, none⟩), u2, ptr kf, u4, u5, u6, u7, u8, u9, u10, u11, u12, u13, u14, ptr ku, .int .i64 0, .slice (some ⟨g1, 0, none⟩) q c1, vv, .int .i64 (cntB F : Int), u20, u21, u22, u23, u24, u25, u26, u27, u28, u29, u30, u31, u32, u33, u34, u35, u36, u37, u38, u39, u40, u41, u42, u43, u44, u45, u46, u47, u48, u49, u50, u51, u52, u53, u54, u55, u56, u57, u58, u59, u60, u61, u62, u63, u64, u65, u66, u67, u68, u69, u70, u71, u72, u73, u74, u75, u76, u77, u78, u79, u80, u81, u82, u83, u84, u85, u86, u87, u88, u89, u90, u91, u92, u93, u94, u95, u96, u97, u98, u99, u100, u101, u102, u103, u104, u105, u106, u107, u108, u109, u110, u111, u112, u113, u114, u115, u116, u117, u118, u119, u120, u121, u122, u123, u124, u125, u126, u127, u128, u129, u130, u131, u132, u133, u134, u135, u136, u137, u138, u139, u140, u141, u142, u143, u144, u145, u146, u147, u148, u149, u150, u151, u152, u153, u154, u155, u156, u157, u158, u159, u160, u161, u162, u163, u164, u165, u166, u167, u168, u169, u170, u171, u172, u173, u174, u175, u176, u177, u178, u179, u180, u181, u182, u183, u184, u185, u186, u187, u188, u189, u190, u191, u192, u193, u194, u195, u196, u197, u198, u199, u200, u201, u202, u203, u204, u205, u206, u207, u208, u209, u210, u211, u212, u213, u214, u215, u216, u217, u218, u219, u220, u221, u222, u223, u224, u225, u226, u227, u228, u229, u230, u231, u232, u233, u234, u235, u236, u237, u238, u239, u240, u241, u242, u243, u244, u245, u246, u247, u248, u249, u250, u251, u252, u253, u254, u255, u256, u257, u258, u259, u260, u261, u262, u263, u264, u265, u266, u267, u268, u269, u270, u271, u272, u273, u274, u275, u276, u277, u278, u279, u280, u281, u282, u283, u284, u285, u286, u287, u288, u289, u290, u291, u292, u293, u294, u295, u296, u297, u298, u299, u300, u301, u302, u303, u304, u305, u306, u307, u308, u309, u310, u311, u312, u313, u314, u315, u316, u317, u318, u319, u320, u321, u322, u323, u324, u325, u326, u327], defers := [] } w7 := by
  have hfit : fitsB ((8 * n : Nat) : Int) := ⟨by omega, by omega, by omega⟩
  have kG := bfits_yes _ hfit
  have kQ := fun X => bplaces_any (8 * n) hfit M hM X
  have kR := fun X => refplaces4 (8 * n) hfit M hM X
  rw [hq] at kG kQ kR hfit
  unfold plV markV at kQ kR
  have lc0 : ∀ X, Below w7.heap.size w7 X → X.cell? ⟨b, 0, none⟩ = some (.int .i64 (q : Int)) := fun X hX => (BX.below hX).c0
  have kb1 : ∀ X, Below w7.heap.size w7 X → Calls Try.prog 16 #[ptr kf] X fun e w' => e = .returned (.int .i64 (q : Int)) ∧ X = w' := fun X hX => by
    have := bbits_any kf vf F X (hR.below hX) (by omega)
    rwa [hFl, hq] at this
  have kc1 := fun X (hX : Below w7.heap.size w7 X) => bcount_any kf vf F X (hR.below hX) (by omega)
  have km1 := fun X (hX : Below w7.heap.size w7 X) => bmay_any kf vf F M X (hR.below hX) (by rw [hFl, hq]; exact hfit) hM
  have km2 := fun X (hX : Below w7.heap.size w7 X) => refmay_any _ F M X (h15.below hX).at (by rw [hFl, hq]; exact hfit) hM
  have ky1 := fun X (hX : Below w7.heap.size w7 X) => lawbytes_any ku vu V X (HU.below hX) (by omega)
  have ky2 := fun X (hX : Below w7.heap.size w7 X) => refbytes15 vv V X (h16.below hX).at (by omega)
  have ky3 := fun X (hX : Below w7.heap.size w7 X) => lawbytes_any kf vf F X (hR.below hX) (by omega)
  have ky4 := fun X (hX : Below w7.heap.size w7 X) => refbytes15 _ F X (h15.below hX).at (by omega)
  unfold markV at km1 km2
  have HK := Lib.hid hK
  replace kb1 := Lib.hid kb1
  replace kc1 := Lib.hid kc1
  replace km1 := Lib.hid km1
  replace km2 := Lib.hid km2
  replace ky1 := Lib.hid ky1
  replace ky2 := Lib.hid ky2
  replace ky3 := Lib.hid ky3
  replace ky4 := Lib.hid ky4
  replace kG := Lib.hid kG
  replace kQ := Lib.hid kQ
  replace kR := Lib.hid kR
  replace BX := Lib.hid BX
  clear hK hR HU h15 h16 hfit hq hFl hVl hM
  refine wp_stmt rfl ?_
  refine wp_region_calm_lit (by kernel_rfl) (by kernel_rfl) ?_
  repeat
    first
    | (apply calm_want
       · first | rfl | (go_simp; done)
       · intro X hX
         first
         | exact calm_load rfl rfl ((BX.out.below hX).l4) hX
         | exact calm_bin rfl rfl rfl (neqv_four _ _ _ _ _ _ X) hX
         | (go_simp
            first
              | done
              | rfl
              | (refine ⟨trivial, ?_⟩; (first | with_reducible exact calls_calm_same hX (kG.out X) | with_reducible exact calls_calm hX (kQ.out X) | with_reducible exact calls_calm hX (kR.out X) | with_reducible exact calls_calm_same hX (kb1.out X hX) | with_reducible exact calls_calm_same hX (kc1.out X hX) | with_reducible exact calls_calm hX (km1.out X hX) | with_reducible exact calls_calm hX (km2.out X hX) | with_reducible exact calls_calm hX (ky1.out X hX) | with_reducible exact calls_calm hX (ky2.out X hX) | with_reducible exact calls_calm hX (ky3.out X hX) | with_reducible exact calls_calm hX (ky4.out X hX)); done)
              | ((first | with_reducible exact calls_calm_same hX (kG.out X) | with_reducible exact calls_calm hX (kQ.out X) | with_reducible exact calls_calm hX (kR.out X) | with_reducible exact calls_calm_same hX (kb1.out X hX) | with_reducible exact calls_calm_same hX (kc1.out X hX) | with_reducible exact calls_calm hX (km1.out X hX) | with_reducible exact calls_calm hX (km2.out X hX) | with_reducible exact calls_calm hX (ky1.out X hX) | with_reducible exact calls_calm hX (ky2.out X hX) | with_reducible exact calls_calm hX (ky3.out X hX) | with_reducible exact calls_calm hX (ky4.out X hX)); done))
       intro K hK
       go_simp
       refine hK _ ?_
       clear hK K)
    | (apply calm_skip
       · first | rfl | (go_simp; done)
       intro K hK
       go_simp
       refine hK _ ?_
       clear hK K)
  refine wpQuiet_nil ?_
  intro X hX
  exact HK.out _ _ _ _ _ _ _ _ _ _ _ _ _ _ _ _ _ _ _ _ _ _ _ _ _ _ _ _ _ _ _ _ _ _ _ _ _ _ _ _ _ _ _ _ _ _ _ _ _ _ _ _ _ _ _ _ _ _ X hX
end Go.Proofs.Ytehfinjcfjobeaa
