/- The walk of the law BloomHolds.
   Conditions: those that the theorem names. -/
import Derived.Test.YtehfinjcfjobeaaBlmH
namespace Go.Proofs.Ytehfinjcfjobeaa
set_option maxRecDepth 100000
set_option linter.unusedVariables false
set_option linter.unusedSimpArgs false
open Go.RowKit Go.Rg
attribute [local go_sem] markV
/-- A case: bits, how many, two lists, a mark, bytes. -/
def caseB (N Mo : Int) (av bv : Value) (M : List UInt8) (yv : Value) : List Value := [.int .i64 N, .int .i64 Mo, av, bv] ++ (M.map byteV ++ [yv])
theorem caseB_m {N Mo : Int} {av bv : Value} {M : List UInt8} {yv : Value} (j : Nat) (v : Value) (h : (M.map byteV)[j]? = some v) : (caseB N Mo av bv M yv)[4 + j]? = some v := by
  unfold caseB
  rw [List.getElem?_append_right (by simp), show 4 + j - ([Value.int .i64 N, .int .i64 Mo, av, bv] : List Value).length = j by simp, List.getElem?_append_left (List.getElem?_eq_some_iff.1 h).1, h]
structure CaseAt (b : Nat) (N Mo : Int) (av bv : Value) (M : List UInt8) (yv : Value) (X : World) : Prop where
  h : X.heap[b]? = some (.cells (caseB N Mo av bv M yv).toArray 27 (0, 0))
  m : M.length = 16
theorem CaseAt.kept {b : Nat} {N Mo : Int} {av bv yv : Value} {M : List UInt8} {X Y : World} (h : CaseAt b N Mo av bv M yv X) (hy : Y.heap[b]? = X.heap[b]?) : CaseAt b N Mo av bv M yv Y := ⟨hy.trans h.h, h.m⟩
theorem CaseAt.lt {b : Nat} {N Mo : Int} {av bv yv : Value} {M : List UInt8} {X : World} (h : CaseAt b N Mo av bv M yv X) : b < X.heap.size := blk_lt h.h
theorem CaseAt.c0 {b : Nat} {N Mo : Int} {av bv yv : Value} {M : List UInt8} {X : World} (h : CaseAt b N Mo av bv M yv X) : X.cell? ⟨b, 0, none⟩ = some (.int .i64 N) := cell_at h.h 0
theorem CaseAt.c1 {b : Nat} {N Mo : Int} {av bv yv : Value} {M : List UInt8} {X : World} (h : CaseAt b N Mo av bv M yv X) : X.cell? ⟨b, 1, none⟩ = some (.int .i64 Mo) := cell_at h.h 1
theorem CaseAt.c2 {b : Nat} {N Mo : Int} {av bv yv : Value} {M : List UInt8} {X : World} (h : CaseAt b N Mo av bv M yv X) : X.cell? ⟨b, 2, none⟩ = some av := cell_at h.h 2
theorem CaseAt.c3 {b : Nat} {N Mo : Int} {av bv yv : Value} {M : List UInt8} {X : World} (h : CaseAt b N Mo av bv M yv X) : X.cell? ⟨b, 3, none⟩ = some bv := cell_at h.h 3
theorem CaseAt.l4 {b : Nat} {N Mo : Int} {av bv yv : Value} {M : List UInt8} {X : World} (h : CaseAt b N Mo av bv M yv X) : (Instr.loadAt 24 (.pointer (some ⟨b, 4, none⟩))).run Try.prog X = .ok (.agg (M.map byteV).toArray) X :=
  mark_load h.h h.m caseB_m
theorem fits_of {N : Int} (h : fitsB N) : ∃ n : Nat, N = ((8 * n : Nat) : Int) ∧ 8 ≤ n ∧ n ≤ 1024 := by
  obtain ⟨h1, h2, h3⟩ := h
  exact ⟨(N / 8).toNat, by omega, by omega, by omega⟩
theorem vals_take (A : List Mk) (i : Nat) : vals (A.take i) = (vals A).take i := by unfold vals; rw [List.map_take]
theorem MarksAt.low {n : Nat} {w w' : World} {v : Value} {l : List (List UInt8)} (h : MarksAt w v l) (hn : n = w.heap.size) (hB : Below n w w') : MarksAt w' v l := by subst hn; exact h.below hB
/-- A mark of a list, in a box of its own. -/
structure BoxedM (wr : World) (m : List UInt8) where
  a1 : (Instr.storeAt 24 (.pointer (some ⟨wr.heap.size, 0, none⟩)) (.agg (m.map byteV).toArray)).run Try.prog (wr.alloc (.cells zeroMark 24)) = .ok () ((wr.alloc (.cells zeroMark 24)).setCells wr.heap.size 0 (m.map byteV))
  l1 : (Instr.loadAt 24 (.pointer (some ⟨wr.heap.size, 0, none⟩))).run Try.prog ((wr.alloc (.cells zeroMark 24)).setCells wr.heap.size 0 (m.map byteV)) = .ok (.agg (m.map byteV).toArray) ((wr.alloc (.cells zeroMark 24)).setCells wr.heap.size 0 (m.map byteV))
  b : ((wr.alloc (.cells zeroMark 24)).setCells wr.heap.size 0 (m.map byteV)).heap[wr.heap.size]? = some (.cells (m.map byteV).toArray 24 (0, 0))
  B : Below wr.heap.size wr ((wr.alloc (.cells zeroMark 24)).setCells wr.heap.size 0 (m.map byteV))
theorem boxedM (wr : World) (m : List UInt8) (hm : m.length = 16) : BoxedM wr m := by
  have hnew : (wr.alloc (.cells zeroMark 24)).heap[wr.heap.size]? = some (.cells ((List.replicate 16 0).map byteV).toArray 24 (0, 0)) := World.alloc_heap_new _ _
  obtain ⟨a1, a2⟩ := mark_store hnew (m := m) (by simp) hm
  exact ⟨a1, mark_whole a2 hm, a2, Below.setCells ((Below.refl _ _).alloc (Nat.le_refl _) _) _ _ _ (Nat.le_refl _)⟩
theorem row_mark_ne {X : World} {s0 k n : Nat} {v : Value} {xs : List Value} {T : TypeId} {g b : Nat} {c : Array Value} {f : Nat × Nat} (h : X.ownsRow s0 T k v n xs) (hg : v.ownBlock = some g) {T2 : TypeId} (hb : X.heap[b]? = some (.cells c T2 f)) (hT : T2 ≠ T) : g ≠ b := by
  obtain ⟨c', hc⟩ := row_block h hg
  intro e
  subst e
  rw [hb] at hc
  injection hc with hc
  injection hc with _ ht
  exact hT ht
theorem lackL_len (fl : List UInt8) (ms : List Mk) : (lackL fl ms).length ≤ ms.length := by
  unfold lackL lackF
  exact Nat.le_trans (List.length_filterMap_le _ _) (by rw [List.length_zipIdx]; exact Nat.le_refl _)
theorem lackL_not {fl : List UInt8} {ms : List Mk} {x : Nat × Mk} (h : x ∈ lackL fl ms) : mayB fl x.2.1 = false := by
  unfold lackL lackF at h
  obtain ⟨y, _, hy⟩ := List.mem_filterMap.1 h
  cases hm : mayB fl y.1.1 with
  | true => rw [hm] at hy; simp at hy
  | false =>
    rw [hm] at hy
    simp at hy
    rw [← hy]; exact hm
theorem rawM_pairs (T : List (Nat × Mk)) : (T.map fun x => x.2.1) = vals (T.map fun x => x.2) := by unfold vals; rw [List.map_map]; rfl
theorem row_marks {w : World} {v : Value} {base : Nat} {ms : List Mk} (h : w.ownsRow base 24 16 v ms.length (rawM (vals ms)).flatten) : MarksAt w v (vals ms) := by
  refine marksAt_iff.2 (OwnV.at (E := 24) ⟨rawM_sized (vals16 ms), ?_⟩)
  rw [rawM_length, vals_length]
  exact row_base h (Nat.zero_le _)
set_option maxHeartbeats 8000000 in
theorem bholds_walk (N Mo : Int) (av bv yv : Value) (A B : List Mk) (M : List UInt8) (w : World) (hA : MarksAt w av (vals A)) (hB : MarksAt w bv (vals B)) (hM : M.length = 16) :
    Calls Try.prog 3 #[.agg (caseB N Mo av bv M yv).toArray] w fun e w' => e = .returned (.bool true) ∧ Below w.heap.size w w' := by
  obtain ⟨pa, ca, rfl, hca, _⟩ := id hA
  obtain ⟨pb, cb, rfl, hcb, _⟩ := id hB
  rw [vals_length] at hA hB hca hcb ⊢
  rw [vals_length]
  have HA := Lib.hid hA
  have HB := Lib.hid hB
  clear hA hB
  go_enter Try.func3, Try.ntmps3
  go_wp2_with fail
  refine (first15 _).mono ?_
  rintro e w1 ⟨rfl, hB1⟩
  have hbx : CaseAt w.heap.size N Mo (.slice pa A.length ca) (.slice pb B.length cb) M yv w1 := ⟨(hB1.block _ (by simp)).trans (World.alloc_heap_new _ _), hM⟩
  have hBw : Below w.heap.size w w1 := ((Below.refl _ _).alloc (Nat.le_refl _) _).trans (hB1.mono (by simp))
  have hsz1 : w.heap.size < w1.heap.size := hbx.lt
  have k0 := hbx.c0
  have k2 := hbx.c2
  have k3 := hbx.c3
  have HBX := Lib.hid hbx
  have HBW := Lib.hid hBw
  clear hbx hBw hB1
  by_cases hl1 : 60 < A.length
  · have e1 : decide ((60 : Int) < (A.length : Int)) = true := decide_eq_true (by omega)
    go_wp2_with fail
    go_ret
    exact ⟨rfl, HBW.out⟩
  have e1 : decide ((60 : Int) < (A.length : Int)) = false := decide_eq_false (by omega)
  by_cases hl2 : 60 < B.length
  · have e2 : decide ((60 : Int) < (B.length : Int)) = true := decide_eq_true (by omega)
    go_wp2_with fail
    go_ret
    exact ⟨rfl, HBW.out⟩
  have e2 : decide ((60 : Int) < (B.length : Int)) = false := decide_eq_false (by omega)
  go_wp2_with fail
  by_cases hfit : fitsB N
  rotate_left
  · refine (bnew_no N hfit w1).mono ?_
    rintro e w' ⟨rfl, rfl⟩
    go_wp2_with fail
    go_ret
    exact ⟨rfl, HBW.out⟩
  obtain ⟨n, hN, hn8, hn1⟩ := fits_of hfit
  have hfit' : fitsB ((8 * n : Nat) : Int) := hN ▸ hfit
  have HNEW := Lib.hid (fun X => bnew_yes n hfit' X)
  rw [← hN] at HNEW
  have HN := Lib.hid hN
  have HFIT := Lib.hid hfit'
  clear hN hfit hfit'
  refine (HNEW.out w1).mono ?_
  rintro e w2 ⟨kf, vf, rfl, hF, hkf, hgf, hB2⟩
  have b2 := HBX.out.kept (hB2.block _ hsz1)
  have hBw2 := HBW.out.trans (hB2.mono HBW.out.size)
  have k20 := b2.c0
  have k22 := b2.c2
  have hsz2 : w.heap.size < w2.heap.size := b2.lt
  have HBX2 := Lib.hid b2
  have HBW2 := Lib.hid hBw2
  have HF := Lib.hid hF
  clear b2 hBw2 hF hB2 k0 k2 k3 HBX HBW
  go_wp2_with fail
  refine (HNEW.out w2).mono ?_
  rintro e w3 ⟨kg, vg, rfl, hG, hkg, hgg, hB3⟩
  have b3 := HBX2.out.kept (hB3.block _ hsz2)
  have hBw3 := HBW2.out.trans (hB3.mono HBW2.out.size)
  have hF3 := HF.out.below hB3
  have hgfl : ∀ g, vf.ownBlock = some g → g < w2.heap.size := fun g hg => HF.out.2.lt hg
  have hkfl : kf < w2.heap.size := HF.out.lt
  have k32 := b3.c2
  have hsz3 : w2.heap.size ≤ w3.heap.size := hB3.size
  have F3 := Lib.hid hF3
  have G3 := Lib.hid hG
  have BX3 := Lib.hid b3
  have BW3 := Lib.hid hBw3
  clear hF3 hG b3 hBw3 hB3 HBX2 HBW2 HF k20 k22
  obtain ⟨z, hz⟩ : ∃ z, List.replicate n (0 : UInt8) = z := ⟨_, rfl⟩
  have hzl : z.length = n := by rw [← hz]; simp
  rw [hz] at F3 G3
  have HZ := Lib.hid hz
  clear hz
  go_wp2_with fail
  go_loopw [8, 46] (fun _ c wr => ∃ i : Nat, i ≤ A.length ∧ c = .int .i64 i ∧ Hid (FltAt kf vf (addAll z (vals (A.take i))) wr) ∧ Hid (Touch (fun b => vf.ownBlock = some b) w3 wr)) (fun _ c _ => A.length - (intOf c).toNat)
  case atStart => exact ⟨0, by omega, rfl, F3, Lib.hid (Touch.refl _ _)⟩
  case round =>
    obtain ⟨i, hi, rfl, HR, HT⟩ := hrel
    have hBr : Below w1.heap.size w3 wr := HT.out.below (n := w1.heap.size) hgf (by omega)
    by_cases hil : i < A.length
    · have e1 : decide ((i : Int) < (A.length : Int)) = true := decide_eq_true (by omega)
      obtain ⟨x, hx⟩ : ∃ x, A[i]? = some x := ⟨_, List.getElem?_eq_getElem hil⟩
      have hmr : MarksAt wr (.slice pa A.length ca) (vals A) := HA.out.below (BW3.out.trans (hBr.mono (by omega)))
      obtain ⟨g, o, hpe, _, hld⟩ := hmr.load (vals16 A) (vals_get hx)
      subst hpe
      have hL := hld wr (Below.refl _ _)
      have bm := boxedM wr x.1 x.2
      have a1 := bm.a1
      have l1 := bm.l1
      have f5 := HR.out.below bm.B
      have t5 := HT.out.trans (Touch.of_below (M := fun b => vf.ownBlock = some b) bm.B) (fun _ _ h => h)
      have hlen : (addAll z (vals (A.take i))).length = n := by rw [addAll_length, hzl]
      have hcall := badd_any kf vf _ x.1 _ f5 (by rw [hlen]; exact HFIT.out) x.2
      have hnx : addB (addAll z (vals (A.take i))) x.1 = addAll z (vals (A.take (i + 1))) := by
        rw [← addAll_snoc, vals_take, vals_take, List.take_add_one, vals_get hx]; rfl
      rw [hnx] at hcall
      unfold markV at hcall
      have HC := Lib.hid hcall
      have T5 := Lib.hid t5
      clear hcall t5 f5 bm hld hmr hx hnx hlen hBr HR HT
      go_wp2_with (first | (refine wpList_load_at rfl _ _ rfl rfl (hL) ?_) | (refine wpList_store_at rfl _ _ _ rfl rfl rfl (a1) ?_) | (refine wpList_load_at rfl _ _ rfl rfl (l1) ?_))
      refine HC.out.mono ?_
      rintro e w6 ⟨rfl, f6, t6⟩
      have F6 := Lib.hid f6
      have T6 := Lib.hid (T5.out.trans t6 (fun _ _ h => h))
      clear f6 t6 hL a1 l1
      go_wp2_with fail
      go_roundw
      case rel => exact ⟨i + 1, by omega, by go_num, F6, T6⟩
      case measure => simp [intOf]; omega
    · have e1 : decide ((i : Int) < (A.length : Int)) = false := decide_eq_false (by omega)
      have hR := HR.out
      rw [List.take_of_length_le (by omega)] at hR
      obtain ⟨F, hF⟩ : ∃ F, addAll z (vals A) = F := ⟨_, rfl⟩
      have hFl : F.length = n := by rw [← hF, addAll_length, hzl]
      have hmay : ∀ x : Mk, x ∈ A → mayB F x.1 = true := fun x hx => by
        rw [← hF]
        exact may_addAll z (vals A) (by omega) x.1 (List.mem_map.2 ⟨x, hx, rfl⟩)
      rw [hF] at hR
      have gR : FltAt kg vg z wr := G3.out.touch HT.out (fun h => by have := hgfl _ h; omega) (fun g hg h => by have := hgfl _ h; have := hgg _ hg; omega)
      have bR := BX3.out.kept (HT.out.block _ BX3.out.lt (fun h => by have := hgf _ h; omega))
      have hBwr := BW3.out.trans (hBr.mono (by omega))
      have lM := bR.l4
      have cA2 := bR.c2
      have hadd := badd_any kg vg z M wr gR (by rw [hzl]; exact HFIT.out) hM
      unfold markV at hadd
      have HADD := Lib.hid hadd
      have FR := Lib.hid hR
      have BXR := Lib.hid bR
      have BWR := Lib.hid hBwr
      have HMAY := Lib.hid hmay
      have hszr : w3.heap.size ≤ wr.heap.size := HT.out.size
      clear hadd hR bR hBwr hmay gR hBr HR HT hF F3 G3 BX3 BW3 cA2
      go_wp2_with (first | (refine wpList_load_at rfl _ _ rfl rfl (lM) ?_))
      refine HADD.out.mono ?_
      rintro e w4 ⟨rfl, g4, t4⟩
      have f4 : FltAt kf vf F w4 := FR.out.touch t4 (fun h => by have := hgg _ h; omega) (fun g hg h => by have := hgg _ h; have := hgfl _ hg; omega)
      have b4 := BXR.out.kept (t4.block _ BXR.out.lt (fun h => by have := hgg _ h; omega))
      have hB4 : Below w.heap.size w w4 := BWR.out.trans (t4.below (n := w.heap.size) (fun j h => by have := hgg _ h; omega) BWR.out.size)
      have F4 := Lib.hid f4
      have G4 := Lib.hid g4
      have BX4 := Lib.hid b4
      have BW4 := Lib.hid hB4
      clear f4 g4 t4 b4 hB4 HADD lM FR BXR BWR
      go_wp2_with fail
      refine (bunion_any kf kg vf vg F (addB z M) w4 F4.out G4.out (by rw [addB_length, hzl, hFl]) (by omega) (by omega)).mono ?_
      rintro e w5 ⟨ku, vu, rfl, hU, _, _, hB5⟩
      have hU1 : (orL F (addB z M)).length = n := by rw [orL_length, hFl]
      have hUM : mayB (orL F (addB z M)) M = true := may_right _ _ _ (by rw [addB_length, hzl, hFl]) (may_add z M (by omega))
      have hUx : ∀ x : Mk, x ∈ A → mayB (orL F (addB z M)) x.1 = true := fun x hx => may_left _ _ _ (by rw [addB_length, hzl, hFl]) (HMAY.out x hx)
      have hUc : cntB (orL F (addB z M)) ≤ cntB F + 4 := cnt_union F z M (by omega) (by omega) (fun q => by rw [← HZ.out]; exact bit_zero n q)
      have hUd : cntB F ≤ cntB (orL F (addB z M)) := cnt_mono _ _ (orL_length _ _).symm (fun q hq => by rw [bit_or _ _ (by rw [addB_length, hzl, hFl]), hq, Bool.true_or])
      generalize orL F (addB z M) = U at *
      have f5 := F4.out.below hB5
      have b5 := BX4.out.kept (hB5.block _ BX4.out.lt)
      have hB5w := BW4.out.trans (hB5.mono BW4.out.size)
      have c25 := b5.c2
      have F5 := Lib.hid f5
      have U5 := Lib.hid hU
      have BX5 := Lib.hid b5
      have BW5 := Lib.hid hB5w
      have HUM := Lib.hid hUM
      have HUX := Lib.hid hUx
      clear f5 hU b5 hB5 hB5w hUM hUx F4 G4 BX4 BW4
      go_wp2_with fail
      clear c25
      go_loopw [12, 67] (fun _ c wr => ∃ i : Nat, i ≤ A.length ∧ c = .int .i64 i ∧ Hid (Below w5.heap.size w5 wr)) (fun _ c _ => A.length - (intOf c).toNat)
      case atStart => exact ⟨0, by omega, rfl, Lib.hid (Below.refl _ _)⟩
      case round =>
        obtain ⟨i, hi, rfl, HW⟩ := hrel
        have hBwr := BW5.out.trans (HW.out.mono BW5.out.size)
        by_cases hil : i < A.length
        · have e1 : decide ((i : Int) < (A.length : Int)) = true := decide_eq_true (by omega)
          obtain ⟨x, hx⟩ : ∃ x, A[i]? = some x := ⟨_, List.getElem?_eq_getElem hil⟩
          have hxm := List.mem_of_getElem? hx
          obtain ⟨g, o, hpe, _, hld⟩ := (HA.out.below hBwr).load (vals16 A) (vals_get hx)
          subst hpe
          have hL := hld wr (Below.refl _ _)
          have bm := boxedM wr x.1 x.2
          have a1 := bm.a1
          have l1 := bm.l1
          have hB6 := HW.out.trans (bm.B.mono HW.out.size)
          have f6 := F5.out.below hB6
          have hm1 := bmay_any kf vf F x.1 _ f6 (by rw [hFl]; exact HFIT.out) x.2
          rw [HMAY.out x hxm] at hm1
          unfold markV at hm1
          have HM1 := Lib.hid hm1
          have HB6 := Lib.hid hB6
          have HXM := Lib.hid hxm
          have BMB := Lib.hid bm.b
          clear hm1 hB6 f6 bm hld hx hxm HW hBwr
          go_wp2_with (first | (refine wpList_load_at rfl _ _ rfl rfl (hL) ?_) | (refine wpList_store_at rfl _ _ _ rfl rfl rfl (a1) ?_) | (refine wpList_load_at rfl _ _ rfl rfl (l1) ?_))
          refine HM1.out.mono ?_
          rintro e w7 ⟨rfl, hB7⟩
          have hB57 := HB6.out.trans (hB7.mono HB6.out.size)
          have l7 := mark_whole ((hB7.block _ (blk_lt BMB.out)).trans BMB.out) x.2
          have hm2 := bmay_any ku vu U x.1 w7 (U5.out.below hB57) (by rw [hU1]; exact HFIT.out) x.2
          rw [HUX.out x HXM.out] at hm2
          unfold markV at hm2
          have HM2 := Lib.hid hm2
          have HB57 := Lib.hid hB57
          clear hm2 hB7 hB57 HM1 HB6 BMB hL a1 l1
          go_wp2_with (first | (refine wpList_load_at rfl _ _ rfl rfl (l7) ?_) | (refine wpList_load_w rfl rfl (l7) (by first | rfl | (go_simp; done)) ?_))
          refine HM2.out.mono ?_
          rintro e w8 ⟨rfl, hB8⟩
          have HB58 := Lib.hid (HB57.out.trans (hB8.mono HB57.out.size))
          clear hB8 HM2 HB57 l7
          go_wp2_with fail
          go_roundw
          case rel => exact ⟨i + 1, by omega, by go_num, HB58⟩
          case measure => simp [intOf]; omega
        · have e1 : decide ((i : Int) < (A.length : Int)) = false := decide_eq_false (by omega)
          have b6 := BX5.out.kept (HW.out.block _ BX5.out.lt)
          have c36 := b6.c3
          have c26 := b6.c2
          have f6 := F5.out.below HW.out
          have hll := lackL_len F B
          have hlk := lawlacks_any kf vf F pb cb B 99 wr f6 (HB.out.below hBwr) (by rw [hFl]; exact HFIT.out) (by omega) (by omega)
          have HLK := Lib.hid hlk
          have BX6 := Lib.hid b6
          have BW6 := Lib.hid hBwr
          have F6 := Lib.hid f6
          have U6 := Lib.hid (U5.out.below HW.out)
          clear hlk b6 hBwr f6 HW F5 U5 BX5 BW5
          go_wp2_with fail
          refine HLK.out.mono ?_
          rintro e w7 ⟨va, vb, rfl, ra, rb, hB7⟩
          obtain ⟨T, hT⟩ : ∃ T, (lackL F B).take (99 : Int).toNat = T := ⟨_, rfl⟩
          rw [hT] at ra rb
          have hTn : ∀ x ∈ T, mayB F x.2.1 = false := fun x hx => lackL_not (List.mem_of_mem_take (hT ▸ hx))
          have hTl : T.length ≤ 60 := by rw [← hT, List.length_take]; omega
          rw [rawM_pairs, show T.length = (T.map fun x => x.2).length by simp] at rb
          have hmT := row_marks rb
          obtain ⟨Ts, hTs⟩ : ∃ Ts : List Mk, T.map (fun x => x.2) = Ts := ⟨_, rfl⟩
          have hTsl : Ts.length = T.length := by rw [← hTs]; simp
          have hTsn : ∀ x ∈ Ts, mayB F x.1 = false := fun x hx => by
            rw [← hTs] at hx
            obtain ⟨y, hy, rfl⟩ := List.mem_map.1 hx
            exact hTn y hy
          rw [hTs] at hmT
          obtain ⟨pa', ca', rfl⟩ := row_shape ra
          obtain ⟨pv, cv, rfl, hcv, _⟩ := id hmT
          rw [vals_length] at hmT hcv
          have b7 := BX6.out.kept (hB7.block _ BX6.out.lt)
          have hB7w := BW6.out.trans (hB7.mono BW6.out.size)
          have F7 := Lib.hid (F6.out.below hB7)
          have U7 := Lib.hid (U6.out.below hB7)
          have BX7 := Lib.hid b7
          have BW7 := Lib.hid hB7w
          have MT := Lib.hid hmT
          have HTN := Lib.hid hTsn
          have hTs60 : Ts.length ≤ 60 := by omega
          rw [vals_length]
          clear ra rb hTn hTl hT hTs hTsl hTsn hmT b7 hB7w hB7 F6 U6 BX6 BW6 HLK c36 c26
          go_wp2_with fail
          go_loopw [16, 91] (fun _ c wr => ∃ i : Nat, i ≤ Ts.length ∧ c = .int .i64 i ∧ Hid (Below w7.heap.size w7 wr)) (fun _ c _ => Ts.length - (intOf c).toNat)
          case atStart => exact ⟨0, by omega, rfl, Lib.hid (Below.refl _ _)⟩
          case round =>
            obtain ⟨j, hj, rfl, HW⟩ := hrel
            have hBwr := BW7.out.trans (HW.out.mono BW7.out.size)
            by_cases hjl : j < Ts.length
            · have e1 : decide ((j : Int) < (Ts.length : Int)) = true := decide_eq_true (by omega)
              obtain ⟨x, hx⟩ : ∃ x, Ts[j]? = some x := ⟨_, List.getElem?_eq_getElem hjl⟩
              have hxn := HTN.out x (List.mem_of_getElem? hx)
              obtain ⟨g, o, hpe, _, hld⟩ := (MT.out.below HW.out).load (vals16 Ts) (vals_get hx)
              subst hpe
              have hL := hld wr (Below.refl _ _)
              have bm := boxedM wr x.1 x.2
              have a1 := bm.a1
              have l1 := bm.l1
              have hB8 := HW.out.trans (bm.B.mono HW.out.size)
              have b8 := BX7.out.kept (hB8.block _ BX7.out.lt)
              have c28 := b8.c2
              have hh := has_any _ A x.1 _ (HA.out.below (hBwr.trans (bm.B.mono hBwr.size))) x.2 (by omega)
              have hno : ((vals A).any fun y => y == x.1) = false := by
                rw [List.any_eq_false]
                intro y hy
                obtain ⟨m, hm, rfl⟩ := List.mem_map.1 hy
                intro he
                have he' : m.1 = x.1 := by simpa using he
                have := HMAY.out m hm
                rw [he', hxn] at this
                cases this
              rw [hno] at hh
              unfold markV at hh
              have HH := Lib.hid hh
              have HB8 := Lib.hid hB8
              clear hh hno b8 hB8 bm hld hx hxn HW hBwr
              go_wp2_with (first | (refine wpList_load_at rfl _ _ rfl rfl (hL) ?_) | (refine wpList_store_at rfl _ _ _ rfl rfl rfl (a1) ?_) | (refine wpList_load_at rfl _ _ rfl rfl (l1) ?_))
              refine HH.out.mono ?_
              rintro e w9 ⟨rfl, hB9⟩
              have HB9 := Lib.hid (HB8.out.trans (hB9.mono HB8.out.size))
              clear hB9 HH HB8 hL a1 l1 c28
              go_wp2_with fail
              go_roundw
              case rel => exact ⟨j + 1, by omega, by go_num, HB9⟩
              case measure => simp [intOf]; omega
            · have e1 : decide ((j : Int) < (Ts.length : Int)) = false := decide_eq_false (by omega)
              have b8 := BX7.out.kept (HW.out.block _ BX7.out.lt)
              have lM := b8.l4
              have f8 := F7.out.below HW.out
              have u8 := U7.out.below HW.out
              have hm := bmay_any ku vu U M wr u8 (by rw [hU1]; exact HFIT.out) hM
              rw [HUM.out] at hm
              unfold markV at hm
              have HM := Lib.hid hm
              have F8 := Lib.hid f8
              have U8 := Lib.hid u8
              have BW8 := Lib.hid hBwr
              have hcF := cntB_le F
              clear hm f8 u8 hBwr b8 F7 U7 BX7 BW7 HW
              go_wp2_with (first | (refine wpList_load_at rfl _ _ rfl rfl (lM) ?_))
              refine HM.out.mono ?_
              rintro e w9 ⟨rfl, hB9⟩
              have F9 := Lib.hid (F8.out.below hB9)
              have U9 := Lib.hid (U8.out.below hB9)
              have BW9 := Lib.hid (BW8.out.trans (hB9.mono BW8.out.size))
              clear hB9 lM HM F8 U8 BW8
              have CU := Lib.hid (bcount_any ku vu U w9 U9.out (by omega))
              have CF := Lib.hid (bcount_any kf vf F w9 F9.out (by omega))
              generalize cntB U = cu at *
              generalize cntB F = cf at *
              have s1 : decide ((cf : Int) ≤ (cu : Int)) = true := decide_eq_true (by omega)
              have s2 : decide (cf ≤ cu) = true := decide_eq_true (by omega)
              have s3 : decide ((cu : Int) ≤ (cf : Int) + 4) = true := decide_eq_true (by omega)
              have s4 : (cf : Int) ≤ 8192 := by omega
              go_wp2_with fail
              refine CU.out.mono ?_
              rintro e w' ⟨rfl, rfl⟩
              go_wp2_with fail
              refine CF.out.mono ?_
              rintro e w' ⟨rfl, rfl⟩
              go_wp2_with fail
              refine CU.out.mono ?_
              rintro e w' ⟨rfl, rfl⟩
              go_wp2_with fail
              refine CF.out.mono ?_
              rintro e w' ⟨rfl, rfl⟩
              go_wp2_with fail
              go_ret
              exact ⟨rfl, BW9.out⟩
end Go.Proofs.Ytehfinjcfjobeaa
