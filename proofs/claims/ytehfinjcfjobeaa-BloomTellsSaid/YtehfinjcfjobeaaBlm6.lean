/- Law BloomTells: the loop over what is lacking, a statement of its own.
   Conditions: those that the theorem names. -/
import Derived.Test.YtehfinjcfjobeaaBlm1
import Derived.IntWalk
import Derived.Deep.CutBlock
import Derived.Deep.DeepCutAuto
namespace Go.Proofs.Ytehfinjcfjobeaa
set_option maxRecDepth 100000
set_option linter.unusedVariables false
set_option linter.unusedSimpArgs false
open Go.RowKit Go.Rg
set_option linter.unusedVariables false
set_option maxHeartbeats 8000000 in
theorem bt_b6 (q k : Nat) (F : List UInt8) (B : List Mk) (T : List (Nat × Mk)) (g1 c1 c1' c2' cb lo : Nat) (p1 p2 pb : Option Addr) (w9 : World) (hfit : fitsB ((8 * F.length : Nat) : Int)) (hl2 : B.length ≤ 60) (hk100 : k ≤ 100)
    (hT : (lackL F B).take k = T) (h15 : RowL lo 4 w9 (.slice (some ⟨g1, 0, none⟩) q c1) (boolsV (bitsOf F))) (hsa : SlL w9 (.slice p1 T.length c1') (T.map fun x => .int .i64 (x.1 : Int))) (hmT : MarksAt w9 (.slice p2 T.length c2') (vals (T.map fun x => x.2))) (hB : MarksAt w9 (.slice pb B.length cb) (vals B))
    (Q : Exit → Act → World → Prop) (u0 u1 u2 u3 u4 u5 u6 u7 u8 u9 u10 u11 u12 u13 u14 u15 u16 u18 u19 u20 u21 u26 u27 u28 u29 u30 u31 u32 u33 u34 u35 u36 u37 u38 u39 u40 u41 u42 u43 u44 u45 u46 u47 u48 u49 u50 u51 u52 u53 u54 u55 u56 u57 u58 u59 u60 u61 u62 u63 u64 u65 u66 u67 u68 u69 u70 u71 u72 u73 u74 u75 u76 u77 u78 u79 u80 u81 u82 u83 u84 u85 u86 u87 u88 u89 u90 u91 u92 u93 u94 u95 u96 u97 u98 u99 u100 u101 u102 u103 u104 u105 u106 u107 u108 u109 u110 u111 u112 u113 u114 u115 u116 u117 u118 u119 u120 u121 u122 u123 u124 u125 u126 u127 u128 u129 u130 u131 u132 u133 u134 u135 u136 u137 u138 u139 u140 u141 u142 u143 u144 u145 u146 u147 u148 u149 u150 u151 u152 u153 u154 u155 u156 u157 u158 u159 u160 u161 u162 u163 u164 u165 u166 u167 u168 u169 u170 u171 u172 u173 u174 u175 u176 u177 u178 u179 u180 u181 u182 u183 u184 u185 u186 u187 u188 u189 u190 u191 u192 u193 u194 u195 u196 u197 u198 u199 u200 u201 u202 u203 u204 u205 u206 u207 u208 u209 u210 u211 u212 u213 u214 u215 u216 u217 u218 u219 u220 u221 u222 u223 u224 u225 u226 u227 u228 u229 u230 u231 u232 u233 u234 u235 u236 u237 u238 u239 u240 u241 u242 u243 u244 u245 u246 u247 u248 u249 u250 u251 u255 u256 u257 u258 u259 u260 u261 u262 u263 u264 u265 u266 u267 u268 u269 u270 u271 u272 u273 u274 u275 u276 u277 u278 u279 u280 u281 u282 u283 u284 u285 u286 u287 u288 u289 u290 u291 u292 u293 u294 u295 u296 u297 u298 u299 u300 u301 u302 u303 u304 u305 u306 u307 u308 u309 u310 u311 u312 u313 u314 u315 u316 u317 u318 u319 u320 u321 u322 u323 u324 u325 u326 u327 : Value)
    (hK : ∀ (v2 v26 v27 v254 v255 v256 v257 v258 v259 v260 v261 v262 v263 v264 v265 v266 v267 v268 v269 v270 v271 v272 v273 v274 v275 v276 v277 v278 v279 v280 v281 v282 v283 v284 v285 v286 v287 v288 v289 : Value) (X : World), Below w9.heap.size w9 X → Q .normal { tmps := #[u0, u1, v2, u3, u4, u5, u6, u7, u8, u9, u10, u11, u12, u13, u14, u15, u16, .slice (some ⟨g1, 0, none⟩) q c1, u18, u19, u20, u21, .int .i64 (k : Int), .slice p1 T.length c1', .slice p2 T.length c2', .int .i64 (T.length : Int), v26, v27, u28, u29, u30, u31, u32, u33, u34, u35, u36, u37, u38, u39, u40, u41, u42, u43, u44, u45, u46, u47, u48, u49, u50, u51, u52, u53, u54, u55, u56, u57, u58, u59, u60, u61, u62, u63, u64, u65, u66, u67, u68, u69, u70, u71, u72, u73, u74, u75, u76, u77, u78, u79, u80, u81, u82, u83, u84, u85, u86, u87, u88, u89, u90, u91, u92, u93, u94, u95, u96, u97, u98, u99, u100, u101, u102, u103, u104, u105, u106, u107, u108, u109, u110, u111, u112, u113, u114, u115, u116, u117, u118, u119, u120, u121, u122, u123, u124, u125, u126, u127, u128, u129, u130, u131, u132, u133, u134, u135, u136, u137, u138, u139, u140, u141, u142, u143, u144, u145, u146, u147, u148, u149, u150, u151, u152, u153, u154, u155, u156, u157, u158, u159, u160, u161, u162, u163, u164, u165, u166, u167, u168, u169, u170, u171, u172, u173, u174, u175, u176, u177, u178, u179, u180, u181, u182, u183, u184, u185, u186, u187, u188, u189, u190, u191, u192, u193, u194, u195, u196, u197, u198, u199, u200, u201, u202, u203, u204, u205, u206, u207, u208, u209, u210, u211, u212, u213, u214, u215, u216, u217, u218, u219, u220, u221, u222, u223, u224, u225, u226, u227, u228, u229, u230, u231, u232, u233, u234, u235, u236, u237, u238, u239, u240, u241, u242, u243, u244, u245, u246, u247, u248, u249, u250, u251, .slice pb B.length cb, .int .i64 (B.length : Int), v254, v255, v256, v257, v258, v259, v260, v261, v262, v263, v264, v265, v266, v267, v268, v269, v270, v271, v272, v273, v274, v275, v276, v277, v278, v279, v280, v281, v282, v283, v284, v285, v286, v287, v288, v289, u290, u291, u292, u293, u294, u295, u296, u297, u298, u299, u300, u301, u302, u303, u304, u305, u306, u307, u308, u309, u310, u311, u312, u313, u314, u315, u316, u317, u318, u319, u320, u321, u322, u323, u324, u325, u326, u327], defers := [] } X) :
    Code.wp Try.prog (stmt Try.f5 true 6) Q { tmps := #[u0, u1, u2, u3, u4, u5, u6, u7, u8, u9, u10, u11, u12, u13, u14, u15, u16, .slice (some ⟨g1, 0, none⟩) q c1, u18, u19, u20, u21, .int .i64 (k : Int), .slice p1 T.length c1', .slice p2 T.length c2', .int .i64 0, u26, u27, u28, u29, u30, u31, u32, u33, u34, u35, u36, u37, u38, u39, u40, u41, u42, u43, u44, u45, u46, u47, u48, u49, u50, u51, u52, u53, u54, u55, u56, u57, u58, u59, u60, u61, u62, u63, u64, u65, u66, u67, u68, u69, u70, u71, u72, u73, u74, u75, u76, u77, u78, u79, u80, u81, u82, u83, u84, u85, u86, u87, u88, u89, u90, u91, u92, u93, u94, u95, u96, u97, u98, u99, u100, u101, u102, u103, u104, u105, u106, u107, u108, u109, u110, u111, u112, u113, u114, u115, u116, u117, u118, u119, u120, u121, u122, u123, u124, u125, u126, u127, u128, u129, u130, u131, u132, u133, u134, u135, u136, u137, u138, u139, u140, u141, u142, u143, u144, u145, u146, u147, u148, u149, u150, u151, u152, u153, u154, u155, u156, u157, u158, u159, u160, u161, u162, u163, u164, u165, u166, u167, u168, u169, u170, u171, u172, u173, u174, u175, u176, u177, u178, u179, u180, u181, u182, u183, u184, u185, u186, u187, u188, u189, u190, u191, u192, u193, u194, u195, u196, u197, u198, u199, u200, u201, u202, u203, u204, u205, u206, u207, u208, u209, u210, u211, u212, u213, u214, u215, u216, u217, u218, u219, u220, u221, u222, u223, u224, u225, u226, u227, u228, u229, u230, u231, u232, u233, u234, u235, u236, u237, u238, u239, u240, u241, u242, u243, u244, u245, u246, u247, u248, u249, u250, u251, .slice pb B.length cb, .int .i64 (B.length : Int), .int .i64 0, u255, u256, u257, u258, u259, u260, u261, u262, u263, u264, u265, u266, u267, u268, u269, u270, u271, u272, u273, u274, u275, u276, u277, u278, u279, u280, u281, u282, u283, u284, u285, u286, u287, u288, u289, u290, u291, u292, u293, u294, u295, u296, u297, u298, u299, u300, u301, u302, u303, u304, u305, u306, u307, u308, u309, u310, u311, u312, u313, u314, u315, u316, u317, u318, u319, u320, u321, u322, u323, u324, u325, u326, u327], defers := [] } w9 := by
  have hll := lackL_len F B
  have hTl : T.length = min k (lackL F B).length := by rw [← hT, List.length_take]
  have hTb : T.length ≤ 100 := by omega
  have HK := Lib.hid hK
  replace hsa := Lib.hid hsa
  replace hmT := Lib.hid hmT
  replace hT := Lib.hid hT
  replace hTl := Lib.hid hTl
  replace h15 := Lib.hid h15
  replace hB := Lib.hid hB
  replace hfit := Lib.hid hfit
  clear hK
  refine wp_stmt rfl ?_
  go_wp2_with fail
  go_loopw [25, 26, 27, 254] (fun at' _ _ c wr => ∃ i : Nat, i ≤ B.length ∧ c = .int .i64 i ∧ at' = .int .i64 ((min k (lackL F (B.take i)).length : Nat) : Int) ∧ Hid (Below w9.heap.size w9 wr)) (fun _ _ _ c _ => B.length - (intOf c).toNat)
  case atStart => exact ⟨0, by omega, rfl, by rw [show min k (lackL F (B.take 0)).length = 0 by simp [lackL, lackF]]; rfl, Lib.hid (Below.refl _ _)⟩
  case round =>
    obtain ⟨i, hi, rfl, rfl, HW⟩ := hrel
    by_cases hil : i < B.length
    · have e1 : decide ((i : Int) < (B.length : Int)) = true := decide_eq_true (by omega)
      obtain ⟨x, hx⟩ : ∃ x, B[i]? = some x := ⟨_, List.getElem?_eq_getElem hil⟩
      obtain ⟨g, o, hpe, _, hld⟩ := (hB.out.below HW.out).load (vals16 B) (vals_get hx)
      subst hpe
      have hL := hld wr (Below.refl _ _)
      have bm := boxedM wr x.1 x.2
      have a1 := bm.a1
      have l1 := bm.l1
      have B5 := HW.out.trans (bm.B.mono HW.out.size)
      have km := refmay_any _ F x.1 _ (h15.out.below B5).at hfit.out x.2
      have tk := lackL_take F B i x hx
      have sp := lackL_split F B i x hx
      have hbx := bm.b
      unfold markV at km
      replace B5 := Lib.hid B5
      replace km := Lib.hid km
      replace tk := Lib.hid tk
      replace sp := Lib.hid sp
      replace hbx := Lib.hid hbx
      clear bm hld hx HW
      obtain ⟨a, ha⟩ : ∃ a, (lackL F (B.take i)).length = a := ⟨_, rfl⟩
      have hab : a ≤ 60 := by rw [← ha]; exact Nat.le_trans (lackL_len _ _) (by rw [List.length_take]; omega)
      rw [ha]
      replace ha := Lib.hid ha
      go_wp2_with (first | (refine wpList_load_at rfl _ _ rfl rfl (hL) ?_) | (refine wpList_store_at rfl _ _ _ rfl rfl rfl (a1) ?_) | (refine wpList_load_at rfl _ _ rfl rfl (l1) ?_))
      clear hL a1 l1
      generalize (wr.alloc (.cells zeroMark 24)).setCells wr.heap.size 0 (x.1.map byteV) = w10 at *
      generalize wr.heap.size = kx at *
      refine km.out.mono ?_
      rintro e w11 ⟨rfl, hB11⟩
      have hbx2 := (hB11.block _ (blk_lt hbx.out)).trans hbx.out
      have B11 := Lib.hid (B5.out.trans (hB11.mono B5.out.size))
      replace hbx2 := Lib.hid hbx2
      clear km hB11 hbx B5
      cases hmay : mayB F x.1 with
      | true =>
        have hln : (lackL F (B.take (i + 1))).length = a := by rw [tk.out, hmay, if_pos rfl, List.append_nil, ha.out]
        replace hln := Lib.hid hln
        replace hmay := Lib.hid hmay
        go_wp2_with fail
        go_roundw
        case rel => exact ⟨i + 1, by omega, by go_num, by rw [hln.out], B11⟩
        case measure => simp [intOf]; omega
      | false =>
        have hln : (lackL F (B.take (i + 1))).length = a + 1 := by rw [tk.out, hmay, if_neg (by simp), List.length_append, ha.out]; rfl
        by_cases hka : k ≤ a
        · have hmin : min k a = k := by omega
          have hmin2 : min k (a + 1) = k := by omega
          have e5 : decide ((k : Int) ≤ (k : Int)) = true := decide_eq_true (by omega)
          rw [hmin]
          replace hln := Lib.hid hln
          replace hmay := Lib.hid hmay
          replace hmin := Lib.hid hmin
          replace hmin2 := Lib.hid hmin2
          go_wp2_with fail
          go_roundw
          case rel => exact ⟨i + 1, by omega, by go_num, by rw [hln.out, hmin2.out], B11⟩
          case measure => simp [intOf]; omega
        · have hmin : min k a = a := by omega
          have hmin2 : min k (a + 1) = a + 1 := by omega
          have e5 : decide ((k : Int) ≤ (a : Int)) = false := decide_eq_false (by omega)
          have hTa : T[a]? = some (i, x) := by
            rw [← hT.out, List.getElem?_take, if_pos (by omega), sp.out, hmay, if_neg (by simp), List.append_assoc, List.getElem?_append_right (by rw [ha.out]; exact Nat.le_refl _), ha.out, Nat.sub_self]; rfl
          have haT : a < T.length := (List.getElem?_eq_some_iff.1 hTa).1
          have e6 : decide ((T.length : Int) ≤ (a : Int)) = false := decide_eq_false (by omega)
          have e6n : decide (T.length ≤ a) = false := decide_eq_false (by omega)
          have i6 : (a : Int) < (T.length : Int) := by omega
          have hsa2 : SlL w9 (.slice p1 (T.map fun x : Nat × Mk => (Value.int .i64 (x.1 : Int))).length c1') (T.map fun x => .int .i64 (x.1 : Int)) := by rw [List.length_map]; exact hsa.out
          obtain ⟨g1', o1, hp1, _, hc1'⟩ := hsa2.get (i := a) (u := .int .i64 (i : Int)) (by rw [List.getElem?_map, hTa]; rfl)
          have hmT2 : MarksAt w9 (.slice p2 T.length c2') (vals (T.map fun x => x.2)) := hmT.out
          obtain ⟨g2', o2, hp2, _, hc2'⟩ := hmT2.load (vals16 _) (vals_get (x := x) (i := a) (by rw [List.getElem?_map, hTa]; rfl))
          subst hp1 hp2
          have lm1 : ∀ X, Below w11.heap.size w11 X → X.cell? ⟨g1', o1 + a, none⟩ = some (.int .i64 (i : Int)) := fun X hX => hc1' X (B11.out.trans (hX.mono B11.out.size))
          have lm2 := fun X (hX : Below w11.heap.size w11 X) => hc2' X (B11.out.trans (hX.mono B11.out.size))
          have lm3 := fun X (hX : Below w11.heap.size w11 X) => mark_whole ((hX.block _ (blk_lt hbx2.out)).trans hbx2.out) x.2
          have nv := fun p q X => neqv_markS x.1 x.2 p q X
          rw [hmin]
          replace hln := Lib.hid hln
          replace hmay := Lib.hid hmay
          replace hmin := Lib.hid hmin
          replace hmin2 := Lib.hid hmin2
          replace lm2 := Lib.hid lm2
          replace lm3 := Lib.hid lm3
          replace nv := Lib.hid nv
          clear hc1' hc2' hsa2 hmT2 hTa
          go_upto_region 40 with fail
          go_cut [286] from 255 to 289 (fun b wx => b = .bool false ∧ Hid (Below w11.heap.size w11 wx))
          case first =>
            refine wp_region_calm_lit (by kernel_rfl) (by kernel_rfl) ?_
            repeat
              first
              | (apply calm_want
                 · first | rfl | (go_simp; done)
                 · intro X hX
                   first
                   | exact calm_load rfl rfl (lm2.out X hX) hX
                   | exact calm_load rfl rfl (lm3.out X hX) hX
                   | exact calm_bin rfl rfl rfl (nv.out _ _ X) hX
                   | (go_simp
                      first
                        | done
                        | rfl
                        | (refine ⟨trivial, ?_⟩; (fail); done)
                        | ((fail); done))
                 intro K hK
                 go_simp
                 refine hK _ ?_
                 clear hK K)
              | (apply calm_skip
                 · first | rfl | (go_simp; done)
                 intro K hK
                 go_simp
                 refine hK _ ?_
                 clear hK K)
            refine wpQuiet_nil ?_
            intro X hX
            go_wp2_with fail
            go_meet
            case rel => exact ⟨rfl, Lib.hid hX⟩
          obtain ⟨rfl, hX⟩ := hcut
          have B12 := Lib.hid (B11.out.trans (hX.out.mono B11.out.size))
          clear lm1 lm2 lm3 nv hX
          go_wp2_with fail
          go_roundw
          case rel => exact ⟨i + 1, by omega, by go_num, by rw [hln.out, hmin2.out]; go_num, B12⟩
          case measure => simp [intOf]; omega
    · have e1 : decide ((i : Int) < (B.length : Int)) = false := decide_eq_false (by omega)
      have hE : min k (lackL F (B.take i)).length = T.length := by rw [List.take_of_length_le (by omega), hTl.out]
      rw [hE]
      clear hE
      go_wp2_with fail
      exact HK.out _ _ _ _ _ _ _ _ _ _ _ _ _ _ _ _ _ _ _ _ _ _ _ _ _ _ _ _ _ _ _ _ _ _ _ _ _ _ _ _ HW.out
end Go.Proofs.Ytehfinjcfjobeaa
