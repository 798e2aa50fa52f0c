/- The walk of the law BloomOrder.
   Conditions: those that the theorem names. -/
import Derived.Test.YtehfinjcfjobeaaBlmI
namespace Go.Proofs.Ytehfinjcfjobeaa
set_option maxRecDepth 100000
set_option linter.unusedVariables false
set_option linter.unusedSimpArgs false
open Go.RowKit Go.Rg
attribute [local go_sem] markV
/-- The other way round, with the first one each time. -/
def zigL (A : List Mk) : Nat → List (List UInt8)
  | 0 => []
  | i + 1 => zigL A i ++ [((A[A.length - 1 - i]?).map Subtype.val).getD [], ((A[0]?).map Subtype.val).getD []]
theorem bits_many (z : List UInt8) (h0 : 0 < z.length) (ms ns : List (List UInt8)) (h : ∀ m, m ∈ ms ↔ m ∈ ns) : addAll z ms = addAll z ns := by
  apply bits_ext
  · rw [addAll_length, addAll_length]
  · intro q _
    rw [bit_addAll ms z h0, bit_addAll ns z h0]
    congr 1
    rw [Bool.eq_iff_iff, List.any_eq_true, List.any_eq_true]
    exact ⟨fun ⟨x, hx, e⟩ => ⟨x, (h x).1 hx, e⟩, fun ⟨x, hx, e⟩ => ⟨x, (h x).2 hx, e⟩⟩
theorem zigL_mem (A : List Mk) : ∀ i, i ≤ A.length → ∀ m, m ∈ zigL A i ↔ (∃ j, j < i ∧ (A[A.length - 1 - j]?).map Subtype.val = some m) ∨ (0 < i ∧ (A[0]?).map Subtype.val = some m)
  | 0, _, m => by simp [zigL]
  | i + 1, hi, m => by
    have hlt : A.length - 1 - i < A.length := by omega
    have h0 : 0 < A.length := by omega
    have e1 : (A[A.length - 1 - i]?).map Subtype.val = some (A[A.length - 1 - i]).1 := by rw [List.getElem?_eq_getElem hlt]; rfl
    have e2 : (A[0]?).map Subtype.val = some (A[0]).1 := by rw [List.getElem?_eq_getElem h0]; rfl
    unfold zigL
    rw [List.mem_append, zigL_mem A i (by omega) m, e1, e2]
    simp only [Option.getD_some, List.mem_cons, List.not_mem_nil, or_false, Option.some.injEq]
    constructor
    · rintro ((⟨j, hj, e⟩ | ⟨_, e⟩) | (e | e))
      · exact .inl ⟨j, by omega, e⟩
      · exact .inr ⟨by omega, e⟩
      · exact .inl ⟨i, by omega, by rw [e1, e]⟩
      · exact .inr ⟨by omega, e.symm⟩
    · rintro (⟨j, hj, e⟩ | ⟨_, e⟩)
      · by_cases hji : j = i
        · subst hji
          rw [e1] at e
          exact .inr (.inl (Option.some.inj e).symm)
        · exact .inl (.inl ⟨j, by omega, e⟩)
      · exact .inr (.inr e.symm)
theorem zig_all (A : List Mk) (m : List UInt8) : m ∈ vals A ↔ m ∈ zigL A A.length := by
  rw [zigL_mem A A.length (Nat.le_refl _)]
  constructor
  · intro h
    obtain ⟨x, hx, rfl⟩ := List.mem_map.1 h
    obtain ⟨i, hi, e⟩ := List.getElem_of_mem hx
    refine .inl ⟨A.length - 1 - i, by omega, ?_⟩
    rw [show A.length - 1 - (A.length - 1 - i) = i by omega, List.getElem?_eq_getElem hi, e]; rfl
  · rintro (⟨j, hj, e⟩ | ⟨_, e⟩)
    all_goals
      rw [Option.map_eq_some_iff] at e
      obtain ⟨x, hx, rfl⟩ := e
      exact List.mem_map.2 ⟨x, List.mem_of_getElem? hx, rfl⟩
set_option maxHeartbeats 8000000 in
theorem border_walk (N Mo : Int) (av bv yv : Value) (A B : List Mk) (M : List UInt8) (w : World) (hA : MarksAt w av (vals A)) (hB : MarksAt w bv (vals B)) (hM : M.length = 16) :
    Calls Try.prog 4 #[.agg (caseB N Mo av bv M yv).toArray] w fun e w' => e = .returned (.bool true) ∧ Below w.heap.size w w' := by
  obtain ⟨pa, ca, rfl, hca, _⟩ := id hA
  obtain ⟨pb, cb, rfl, hcb, _⟩ := id hB
  rw [vals_length] at hA hB hca hcb ⊢
  rw [vals_length]
  have HA := Lib.hid hA
  have HB := Lib.hid hB
  clear hA hB
  go_enter Try.func4, Try.ntmps4
  go_wp2_with fail
  refine (first15 _).mono ?_
  rintro e w1 ⟨rfl, hB1⟩
  have hbx : CaseAt w.heap.size N Mo (.slice pa A.length ca) (.slice pb B.length cb) M yv w1 := ⟨(hB1.block _ (by simp)).trans (World.alloc_heap_new _ _), hM⟩
  have hBw : Below w.heap.size w w1 := ((Below.refl _ _).alloc (Nat.le_refl _) _).trans (hB1.mono (by simp))
  have hsz1 : w.heap.size < w1.heap.size := hbx.lt
  have k0 := hbx.c0
  have k2 := hbx.c2
  have HBX := Lib.hid hbx
  have HBW := Lib.hid hBw
  clear hbx hBw hB1
  by_cases hl1 : 60 < A.length
  · have e1 : decide ((60 : Int) < (A.length : Int)) = true := decide_eq_true (by omega)
    go_wp2_with fail
    go_ret
    exact ⟨rfl, HBW.out⟩
  have e1 : decide ((60 : Int) < (A.length : Int)) = false := decide_eq_false (by omega)
  go_wp2_with fail
  by_cases hfit : fitsB N
  rotate_left
  · refine (bnew_no N hfit w1).mono ?_
    rintro e w' ⟨rfl, rfl⟩
    go_wp2_with fail
    go_ret
    exact ⟨rfl, HBW.out⟩
  obtain ⟨n, hN, hn8, hn1⟩ := fits_of hfit
  have hfit' : fitsB ((8 * n : Nat) : Int) := hN ▸ hfit
  have HNEW := Lib.hid (fun X => bnew_yes n hfit' X)
  rw [← hN] at HNEW
  have HN := Lib.hid hN
  have HFIT := Lib.hid hfit'
  clear hN hfit hfit'
  refine (HNEW.out w1).mono ?_
  rintro e w2 ⟨kf, vf, rfl, hF, hkf, hgf, hB2⟩
  have b2 := HBX.out.kept (hB2.block _ hsz1)
  have hBw2 := HBW.out.trans (hB2.mono HBW.out.size)
  have k20 := b2.c0
  have k22 := b2.c2
  have hsz2 : w.heap.size < w2.heap.size := b2.lt
  have HBX2 := Lib.hid b2
  have HBW2 := Lib.hid hBw2
  have HF := Lib.hid hF
  clear b2 hBw2 hF hB2 k0 k2 HBX HBW
  go_wp2_with fail
  refine (HNEW.out w2).mono ?_
  rintro e w3 ⟨kg, vg, rfl, hG, hkg, hgg, hB3⟩
  have b3 := HBX2.out.kept (hB3.block _ hsz2)
  have hBw3 := HBW2.out.trans (hB3.mono HBW2.out.size)
  have hF3 := HF.out.below hB3
  have hgfl : ∀ g, vf.ownBlock = some g → g < w2.heap.size := fun g hg => HF.out.2.lt hg
  have hkfl : kf < w2.heap.size := HF.out.lt
  have k32 := b3.c2
  have hsz3 : w2.heap.size ≤ w3.heap.size := hB3.size
  have F3 := Lib.hid hF3
  have G3 := Lib.hid hG
  have BX3 := Lib.hid b3
  have BW3 := Lib.hid hBw3
  clear hF3 hG b3 hBw3 hB3 HBX2 HBW2 HF k20 k22
  obtain ⟨z, hz⟩ : ∃ z, List.replicate n (0 : UInt8) = z := ⟨_, rfl⟩
  have hzl : z.length = n := by rw [← hz]; simp
  rw [hz] at F3 G3
  have HZ := Lib.hid hz
  clear hz
  go_wp2_with fail
  go_loopw [7, 8, 34] (fun _ _ c wr => ∃ i : Nat, i ≤ A.length ∧ c = .int .i64 i ∧ Hid (FltAt kf vf (addAll z (vals (A.take i))) wr) ∧ Hid (FltAt kg vg (addAll z (zigL A i)) wr) ∧ Hid (CaseAt w.heap.size N Mo (.slice pa A.length ca) (.slice pb B.length cb) M yv wr) ∧ Hid (Below w.heap.size w wr)) (fun _ _ c _ => A.length - (intOf c).toNat)
  case atStart => exact ⟨0, by omega, rfl, F3, G3, BX3, BW3⟩
  case round =>
    obtain ⟨i, hi, rfl, HR, HS, HX, HW⟩ := hrel
    by_cases hil : i < A.length
    · have e1 : decide ((i : Int) < (A.length : Int)) = true := decide_eq_true (by omega)
      obtain ⟨x, hx⟩ : ∃ x, A[i]? = some x := ⟨_, List.getElem?_eq_getElem hil⟩
      obtain ⟨q, hq⟩ : ∃ q, A.length - 1 - i = q := ⟨_, rfl⟩
      have hql : q < A.length := by omega
      obtain ⟨y, hy⟩ : ∃ y, A[q]? = some y := ⟨_, List.getElem?_eq_getElem hql⟩
      have h0 : 0 < A.length := by omega
      obtain ⟨u, hu⟩ : ∃ u, A[0]? = some u := ⟨_, List.getElem?_eq_getElem h0⟩
      have hnx : addB (addAll z (vals (A.take i))) x.1 = addAll z (vals (A.take (i + 1))) := by
        rw [← addAll_snoc, vals_take, vals_take, List.take_add_one, vals_get hx]; rfl
      have hny : addB (addB (addAll z (zigL A i)) y.1) u.1 = addAll z (zigL A (i + 1)) := by
        rw [← addAll_snoc, ← addAll_snoc]
        conv => rhs; unfold zigL
        rw [hq, hy, hu, List.append_assoc]; rfl
      obtain ⟨g, o, hpe, hgl, hld⟩ := HA.out.load (vals16 A) (vals_get hx)
      subst hpe
      obtain ⟨g', o', hpe, _, hld2⟩ := HA.out.load (vals16 A) (vals_get hy)
      cases hpe
      obtain ⟨g', o', hpe, _, hld3⟩ := HA.out.load (vals16 A) (vals_get hu)
      cases hpe
      have hL := hld wr HW.out
      have bm := boxedM wr x.1 x.2
      have a1 := bm.a1
      have l1 := bm.l1
      have f5 := HR.out.below bm.B
      have g5 := HS.out.below bm.B
      have x5 := HX.out.kept (bm.B.block _ HX.out.lt)
      have w5b := HW.out.trans (bm.B.mono HW.out.size)
      have hlen : (addAll z (vals (A.take i))).length = n := by rw [addAll_length, hzl]
      have hlen2 : (addAll z (zigL A i)).length = n := by rw [addAll_length, hzl]
      have hcall := badd_any kf vf _ x.1 _ f5 (by rw [hlen]; exact HFIT.out) x.2
      rw [hnx] at hcall
      unfold markV at hcall
      have hsub : IntKind.i64.wrap (IntKind.i64.wrap ((A.length : Int) - 1) - (i : Int)) = (q : Int) := by rw [IntKind.wrap_i64, IntKind.wrap_i64]; omega
      have hsub2 : (A.length : Int) - 1 - (i : Int) = (q : Int) := by omega
      have q0 : (q : Int) < (A.length : Int) := by omega
      have z0 : (0 : Int) < (A.length : Int) := by omega
      have HC := Lib.hid hcall
      have F5 := Lib.hid f5
      have G5 := Lib.hid g5
      have X5 := Lib.hid x5
      have W5 := Lib.hid w5b
      have LD2 := Lib.hid hld2
      have LD3 := Lib.hid hld3
      have HNY := Lib.hid hny
      have HQ := Lib.hid hq
      clear hcall f5 g5 x5 w5b bm hld hld2 hld3 hx hy hu hnx hny hlen hq HR HS HX HW
      go_wp2_with (first | (refine wpList_load_at rfl _ _ rfl rfl (hL) ?_) | (refine wpList_store_at rfl _ _ _ rfl rfl rfl (a1) ?_) | (refine wpList_load_at rfl _ _ rfl rfl (l1) ?_))
      refine HC.out.mono ?_
      rintro e w6 ⟨rfl, f6, t6⟩
      have g6 := G5.out.touch t6 (fun h => by have := hgfl _ h; omega) (fun g hg h => by have := hgfl _ h; have := hgg _ hg; omega)
      have x6 := X5.out.kept (t6.block _ X5.out.lt (fun h => by have := hgf _ h; omega))
      have w6b : Below w.heap.size w w6 := W5.out.trans (t6.below (n := w.heap.size) (fun j h => by have := hgf _ h; omega) W5.out.size)
      have c62 := x6.c2
      have hL2 := LD2.out w6 w6b
      have hc2 := badd_any kg vg _ y.1 w6 g6 (by rw [hlen2]; exact HFIT.out) y.2
      unfold markV at hc2
      have HC2 := Lib.hid hc2
      have F6 := Lib.hid f6
      have X6 := Lib.hid x6
      have W6 := Lib.hid w6b
      clear hc2 f6 t6 g6 x6 w6b HC F5 G5 X5 W5 LD2 hL a1 l1
      go_wp2_with (first | (refine wpList_load_at rfl _ _ rfl rfl (hL2) ?_))
      refine HC2.out.mono ?_
      rintro e w7 ⟨rfl, g7, t7⟩
      have f7 := F6.out.touch t7 (fun h => by have := hgg _ h; omega) (fun g hg h => by have := hgg _ h; have := hgfl _ hg; omega)
      have x7 := X6.out.kept (t7.block _ X6.out.lt (fun h => by have := hgg _ h; omega))
      have w7b : Below w.heap.size w w7 := W6.out.trans (t7.below (n := w.heap.size) (fun j h => by have := hgg _ h; omega) W6.out.size)
      have c72 := x7.c2
      have hL3 := LD3.out w7 w7b
      rw [Nat.zero_mul, Nat.add_zero] at hL3
      have hc3 := badd_any kg vg _ u.1 w7 g7 (by rw [addB_length, hlen2]; exact HFIT.out) u.2
      rw [HNY.out] at hc3
      unfold markV at hc3
      have HC3 := Lib.hid hc3
      have F7 := Lib.hid f7
      have X7 := Lib.hid x7
      have W7 := Lib.hid w7b
      clear hc3 f7 t7 g7 x7 w7b HC2 F6 X6 W6 LD3 hL2 c62
      go_wp2_with (first | (refine wpList_load_at rfl _ _ rfl rfl (hL3) ?_))
      refine HC3.out.mono ?_
      rintro e w8 ⟨rfl, g8, t8⟩
      have F8 := Lib.hid (F7.out.touch t8 (fun h => by have := hgg _ h; omega) (fun g hg h => by have := hgg _ h; have := hgfl _ hg; omega))
      have X8 := Lib.hid (X7.out.kept (t8.block _ X7.out.lt (fun h => by have := hgg _ h; omega)))
      have W8 := Lib.hid (W7.out.trans (t8.below (n := w.heap.size) (fun j h => by have := hgg _ h; omega) W7.out.size))
      have G8 := Lib.hid g8
      clear g8 t8 HC3 F7 X7 W7 hL3 c72
      go_wp2_with fail
      go_roundw
      case rel => exact ⟨i + 1, by omega, by go_num, F8, G8, X8, W8⟩
      case measure => simp [intOf]; omega
    · have e1 : decide ((i : Int) < (A.length : Int)) = false := decide_eq_false (by omega)
      obtain rfl : i = A.length := by omega
      have hR := HR.out
      have hS := HS.out
      rw [List.take_length] at hR
      have hzz : addAll z (zigL A A.length) = addAll z (vals A) := bits_many z (by omega) _ _ (fun m => (zig_all A m).symm)
      rw [hzz] at hS
      have hcf : cntB (addAll z (vals A)) ≤ 4 * A.length := by
        have := cnt_addAll n (by omega) (vals A)
        rw [HZ.out, vals_length] at this
        exact this
      have hcl := cntB_le (addAll z (vals A))
      have hFl : (addAll z (vals A)).length = n := by rw [addAll_length, hzl]
      rw [hFl] at hcl
      obtain ⟨F, hF⟩ : ∃ F, addAll z (vals A) = F := ⟨_, rfl⟩
      rw [hF] at hR hS hcf hcl hFl
      have b1 := fun X (hX : Below wr.heap.size wr X) => lawbytes_any kf vf F X (hR.below hX) (by omega)
      have b2 := fun X (hX : Below wr.heap.size wr X) => lawbytes_any kg vg F X (hS.below hX) (by omega)
      have b3 := fun X (hX : Below wr.heap.size wr X) => bcount_any kf vf F X (hR.below hX) (by omega)
      have b4 := fun X (hX : Below wr.heap.size wr X) => bbits_any kf vf F X (hR.below hX) (by omega)
      have c2 := fun X (hX : Below wr.heap.size wr X) => (HX.out.kept (hX.block _ HX.out.lt)).c2
      rw [hFl] at b4
      obtain ⟨cf, hcfd⟩ : ∃ cf, cntB F = cf := ⟨_, rfl⟩
      rw [hcfd] at b3 hcf hcl
      obtain ⟨bl, hbl⟩ : ∃ bl, 8 * n = bl := ⟨_, rfl⟩
      rw [hbl] at b4 hcl
      obtain ⟨bs, hbs⟩ : ∃ bs, fltB F = bs := ⟨_, rfl⟩
      rw [hbs] at b1 b2
      have s1 : decide ((cf : Int) ≤ 4 * (A.length : Int)) = true := decide_eq_true (by omega)
      have s2 : decide ((cf : Int) ≤ (bl : Int)) = true := decide_eq_true (by omega)
      have s3 : decide (cf ≤ bl) = true := decide_eq_true (by omega)
      have s4 : IntKind.i64.wrap (4 * (A.length : Int)) = 4 * (A.length : Int) := by rw [IntKind.wrap_i64]; omega
      have B1 := Lib.hid b1
      have B2 := Lib.hid b2
      have B3 := Lib.hid b3
      have B4 := Lib.hid b4
      have HW2 := Lib.hid HW.out
      clear b1 b2 b3 b4 hR hS hzz hF hFl hcfd hbl hbs HR HS HX
      go_wp2_with fail
      refine wp_region_calm_lit (by kernel_rfl) (by kernel_rfl) ?_
      repeat
        first
        | (apply calm_want
           · first | rfl | (go_simp; done)
           · intro X hX
             go_simp
             first
               | done
               | rfl
               | (refine ⟨trivial, ?_⟩; (first | with_reducible exact calls_calm hX (B1.out X hX) | with_reducible exact calls_calm hX (B2.out X hX) | with_reducible exact calls_calm_same hX (B3.out X hX) | with_reducible exact calls_calm_same hX (B4.out X hX)); done)
               | ((first | with_reducible exact calls_calm hX (B1.out X hX) | with_reducible exact calls_calm hX (B2.out X hX) | with_reducible exact calls_calm_same hX (B3.out X hX) | with_reducible exact calls_calm_same hX (B4.out X hX)); done)
           intro K hK
           go_simp
           refine hK _ ?_
           clear hK K)
        | (apply calm_skip
           · first | rfl | (go_simp; done)
           intro K hK
           go_simp
           refine hK _ ?_
           clear hK K)
      refine wpQuiet_nil ?_
      intro X hX
      have hfin := HW2.out.trans (hX.mono HW2.out.size)
      clear c2
      go_wp2_with fail
      go_ret
      exact ⟨rfl, hfin⟩
end Go.Proofs.Ytehfinjcfjobeaa
