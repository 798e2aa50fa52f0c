/- Law BloomTells: where the size may not be, and where the lists are too long.
   Conditions: those that each theorem names. -/
import Derived.Test.YtehfinjcfjobeaaBlmX
namespace Go.Proofs.Ytehfinjcfjobeaa
set_option maxRecDepth 100000
set_option linter.unusedVariables false
set_option linter.unusedSimpArgs false
open Go.RowKit Go.Rg
set_option maxHeartbeats 8000000 in
theorem btells_long (N Mo : Int) (av bv yv : Value) (A B : List Mk) (M : List UInt8) (w : World) (hA : MarksAt w av (vals A)) (hB : MarksAt w bv (vals B)) (hM : M.length = 16) (hl : ¬ (A.length ≤ 60 ∧ B.length ≤ 60)) :
    Calls Try.prog 5 #[.agg (caseB N Mo av bv M yv).toArray] w fun e w' => e = .returned (.bool true) ∧ Below w.heap.size w w' := by
  obtain ⟨pa, ca, rfl, hca, _⟩ := id hA
  obtain ⟨pb, cb, rfl, hcb, _⟩ := id hB
  rw [vals_length] at hA hB hca hcb ⊢
  rw [vals_length]
  clear hA hB
  go_enter Try.func5, Try.ntmps5
  go_wp2_with fail
  refine (first15 _).mono ?_
  rintro e w1 ⟨rfl, hB1⟩
  have hbx : CaseAt w.heap.size N Mo (.slice pa A.length ca) (.slice pb B.length cb) M yv w1 := ⟨(hB1.block _ (by simp)).trans (World.alloc_heap_new _ _), hM⟩
  have hBw : Below w.heap.size w w1 := ((Below.refl _ _).alloc (Nat.le_refl _) _).trans (hB1.mono (by simp))
  have k2 := hbx.c2
  have k3 := hbx.c3
  replace hbx := Lib.hid hbx
  replace hBw := Lib.hid hBw
  clear hB1
  by_cases hl1 : 60 < A.length
  · have e1 : decide ((60 : Int) < (A.length : Int)) = true := decide_eq_true (by omega)
    clear hl
    go_wp2_with fail
    go_ret
    exact ⟨rfl, hBw.out⟩
  have hl2 : 60 < B.length := by omega
  have e1 : decide ((60 : Int) < (A.length : Int)) = false := decide_eq_false (by omega)
  have e2 : decide ((60 : Int) < (B.length : Int)) = true := decide_eq_true (by omega)
  clear hl
  go_wp2_with fail
  go_ret
  exact ⟨rfl, hBw.out⟩
set_option maxHeartbeats 8000000 in
theorem btells_no (N Mo : Int) (hfit : ¬ fitsB N) (av bv yv : Value) (A B : List Mk) (M : List UInt8) (w : World) (hA : MarksAt w av (vals A)) (hB : MarksAt w bv (vals B)) (hM : M.length = 16) (hl1 : A.length ≤ 60) (hl2 : B.length ≤ 60) :
    Calls Try.prog 5 #[.agg (caseB N Mo av bv M yv).toArray] w fun e w' => e = .returned (.bool true) ∧ Below w.heap.size w w' := by
  obtain ⟨pa, ca, rfl, hca, _⟩ := id hA
  obtain ⟨pb, cb, rfl, hcb, _⟩ := id hB
  rw [vals_length] at hA hB hca hcb ⊢
  rw [vals_length]
  clear hA hB
  have e1 : decide ((60 : Int) < (A.length : Int)) = false := decide_eq_false (by omega)
  have e2 : decide ((60 : Int) < (B.length : Int)) = false := decide_eq_false (by omega)
  have z4 := fun x y X => eqv_four 0 0 0 0 x y X
  have HM := Lib.hid hM
  have HF := Lib.hid hfit
  replace z4 := Lib.hid z4
  clear hM hfit
  go_enter Try.func5, Try.ntmps5
  go_wp2_with fail
  refine (first15 _).mono ?_
  rintro e w1 ⟨rfl, hB1⟩
  have BX : CaseAt w.heap.size N Mo (.slice pa A.length ca) (.slice pb B.length cb) M yv w1 := ⟨(hB1.block _ (by simp)).trans (World.alloc_heap_new _ _), HM.out⟩
  have BW : Below w.heap.size w w1 := ((Below.refl _ _).alloc (Nat.le_refl _) _).trans (hB1.mono (by simp))
  have k0 := BX.c0
  have k2 := BX.c2
  have k3 := BX.c3
  have k4 := BX.l4
  replace BX := Lib.hid BX
  replace BW := Lib.hid BW
  replace k4 := Lib.hid k4
  clear hB1
  go_wp2_with fail
  refine (bnew_no N HF.out w1).mono ?_
  rintro e w' ⟨rfl, rfl⟩
  go_wp2_with fail
  refine (rbfits_no N HF.out w1).mono ?_
  rintro e w' ⟨rfl, rfl⟩
  have lM := k4.out
  go_wp2_with (first | (refine wpList_load_at rfl _ _ rfl rfl (lM) ?_))
  clear lM k4 k0 k2 k3
  refine (show Calls Try.prog 9 #[.pointer none, .agg (M.map byteV).toArray] w1 _ from badd_nil M w1).mono ?_
  rintro e w2 ⟨rfl, hB⟩
  replace BX := Lib.hid (BX.out.below hB)
  replace BW := Lib.hid (BW.out.trans (hB.mono BW.out.size))
  clear hB
  have k0 := BX.out.c0
  have k2 := BX.out.c2
  go_wp2_with fail
  refine (bunion_nil (.pointer none) w2).mono ?_
  rintro e w' ⟨rfl, rfl⟩
  go_wp2_with fail
  refine (lawlacks_nil pa ca A.length 9 w2).mono ?_
  rintro e w3 ⟨va, vb, rfl, hra, hB⟩
  obtain ⟨p0, c0, rfl⟩ := row_shape hra
  replace BX := Lib.hid (BX.out.below hB)
  replace BW := Lib.hid (BW.out.trans (hB.mono BW.out.size))
  clear hB
  clear k0 k2 hra
  have k0 := BX.out.c0
  go_wp2_with fail
  refine (bfits_no N HF.out w3).mono ?_
  rintro e w' ⟨rfl, rfl⟩
  have lM := BX.out.l4
  go_wp2_with (first | (refine wpList_load_at rfl _ _ rfl rfl (lM) ?_) | (refine wpList_load_w rfl rfl (lM) (by first | rfl | (go_simp; done)) ?_))
  clear lM
  refine (show Calls Try.prog 19 #[.int .i64 N, .agg (M.map byteV).toArray] w3 _ from bplaces_no N HF.out M w3).mono ?_
  rintro e w4 ⟨rfl, hB⟩
  replace BX := Lib.hid (BX.out.below hB)
  replace BW := Lib.hid (BW.out.trans (hB.mono BW.out.size))
  clear hB
  clear k0
  have k0 := BX.out.c0
  go_wp2_with (first | (refine wpList_bin_w rfl rfl rfl (z4.out _ _ _) (by first | rfl | (go_simp; done)) ?_))
  refine (bbits_nil w4).mono ?_
  rintro e w' ⟨rfl, rfl⟩
  go_wp2_with fail
  refine (bcount_nil w4).mono ?_
  rintro e w' ⟨rfl, rfl⟩
  have lM := BX.out.l4
  go_wp2_with (first | (refine wpList_load_at rfl _ _ rfl rfl (lM) ?_) | (refine wpList_load_w rfl rfl (lM) (by first | rfl | (go_simp; done)) ?_))
  clear lM
  refine (show Calls Try.prog 11 #[.pointer none, .agg (M.map byteV).toArray] w4 _ from bmay_nil M w4).mono ?_
  rintro e w5 ⟨rfl, hB⟩
  replace BX := Lib.hid (BX.out.below hB)
  replace BW := Lib.hid (BW.out.trans (hB.mono BW.out.size))
  clear hB
  clear k0
  go_wp2_with fail
  refine (lawbytes_nil w5).mono ?_
  rintro e w6 ⟨rfl, hB⟩
  replace BX := Lib.hid (BX.out.below hB)
  replace BW := Lib.hid (BW.out.trans (hB.mono BW.out.size))
  clear hB
  go_wp2_with fail
  go_ret
  exact ⟨rfl, BW.out⟩
end Go.Proofs.Ytehfinjcfjobeaa
