/- The document's answers of law 11: sameness, places, sketches.
   Conditions: those that each theorem names. -/
import Derived.Test.YtkdbbdlkfpjdfaaIbB
import Derived.Test.YtkdbbdlkfpjdfaaIbC
import Derived.Test.YtkdbbdlkfpjdfaaRef10
import Derived.Test.YtkdbbdlkfpjdfaaNeq
namespace Go.Proofs.Ytkdbbdlkfpjdfaa
set_option maxRecDepth 100000
set_option linter.unusedVariables false
set_option linter.unusedSimpArgs false
open Go.RowKit Go.Rg
attribute [local go_sem] Rg.q_add Rg.q_add' Rg.q_xor Rg.q_or Rg.q_and markV cellV
def sameB (a b : List Ce) : Bool := decide (a.length = b.length) && (List.range a.length).all fun i => (a.getD i Ce.zero).eq (b.getD i Ce.zero)
theorem sameB_iff (a b : List Ce) : sameB a b = true ↔ a = b := by
  unfold sameB
  rw [Bool.and_eq_true, decide_eq_true_iff, List.all_eq_true]
  constructor
  · rintro ⟨hl, h⟩
    apply List.ext_getElem hl
    intro i h1 h2
    have := (Ce.eq_iff _ _).1 (h i (List.mem_range.2 h1))
    rw [List.getD_eq_getElem?_getD, List.getD_eq_getElem?_getD, List.getElem?_eq_getElem h1, List.getElem?_eq_getElem h2] at this
    exact this
  · rintro rfl
    exact ⟨rfl, fun i _ => Ce.eq_self _⟩
theorem sameB_self (a : List Ce) : sameB a a = true := (sameB_iff a a).2 rfl
theorem CellsAt.get' {w : World} {p : Option Addr} {n cap : Nat} {cs : List Ce} (h : CellsAt w (.slice p n cap) cs) {i : Nat} {c : Ce} (hi : cs[i]? = some c) : ∃ g o, p = some ⟨g, o, none⟩ ∧ g < w.heap.size ∧ w.rangeAt g (o + i * 18) c.vals := by
  obtain ⟨q, cap', e, _, hf⟩ := h
  cases e
  exact hf i c hi
set_option maxHeartbeats 2000000 in
theorem refsame_any (va vb : Value) (a b : List Ce) (w : World) (ha : CellsAt w va a) (hb : CellsAt w vb b) (hka : Oks a) (hkb : Oks b) (hn : a.length ≤ 1000000) (hn2 : b.length ≤ 1000000) :
    Calls Try.prog 43 #[va, vb] w fun e w' => e = .returned (.bool (sameB a b)) ∧ Below w.heap.size w w' := by
  obtain ⟨pa, ca, rfl, hca, _⟩ := id ha
  obtain ⟨pb, cb, rfl, hcb, _⟩ := id hb
  have HA := Lib.hid ha
  have HB := Lib.hid hb
  have KA := Lib.hid hka
  have KB := Lib.hid hkb
  clear ha hb hka hkb
  by_cases hl : a.length = b.length
  rotate_left
  · have e1 : ((a.length : Int) != (b.length : Int)) = true := by simp; omega
    have e2 : (a.length != b.length) = true := by simp; omega
    have hs : sameB a b = false := by unfold sameB; rw [decide_eq_false hl, Bool.false_and]
    have HS := Lib.hid hs
    clear hs hl
    go_enter Try.func43, Try.ntmps43
    go_wp2_with fail
    go_ret
    exact ⟨by rw [HS.out]; rfl, Below.refl _ _⟩
  have e1 : ((a.length : Int) != (b.length : Int)) = false := by simp; omega
  have e2 : (a.length != b.length) = false := by simp; omega
  have HL := Lib.hid hl
  clear hl
  go_enter Try.func43, Try.ntmps43
  go_wp2_with fail
  go_loopw [5, 13] (fun _ c wr => ∃ i : Nat, i ≤ a.length ∧ c = .int .i64 i ∧ Hid (∀ j, j < i → (a.getD j Ce.zero).eq (b.getD j Ce.zero) = true) ∧ Hid (Below w.heap.size w wr)) (fun _ c _ => a.length - (intOf c).toNat)
  case atStart => exact ⟨0, by omega, rfl, Lib.hid (fun j hj => by omega), Lib.hid (Below.refl _ _)⟩
  case round =>
    obtain ⟨i, hi, rfl, HJ, HW⟩ := hrel
    by_cases hil : i < a.length
    · have d1 : decide ((i : Int) < (a.length : Int)) = true := decide_eq_true (by omega)
      have i1 : (i : Int) < (a.length : Int) := by omega
      have i2 : (i : Int) < (b.length : Int) := by have := HL.out; omega
      have wi : IntKind.i64.wrap (i : Int) = (i : Int) := by rw [IntKind.wrap_i64]; omega
      have hib : i < b.length := by have := HL.out; omega
      obtain ⟨x, hx⟩ : ∃ x, a[i]? = some x := ⟨_, List.getElem?_eq_getElem hil⟩
      obtain ⟨y, hy⟩ : ∃ y, b[i]? = some y := ⟨_, List.getElem?_eq_getElem hib⟩
      have xok := KA.out x (List.mem_of_getElem? hx)
      have yok := KB.out y (List.mem_of_getElem? hy)
      obtain ⟨g, o, hpe, hg, hr⟩ := (HA.out.below HW.out).get' hx
      subst hpe
      obtain ⟨g2, o2, hpe, hg2, hr2⟩ := (HB.out.below HW.out).get' hy
      subst hpe
      have l1 := fun X (hX : Below wr.heap.size wr X) => cell_load (rangeAt_below hr hX hg) xok.m
      have l2 := fun X (hX : Below wr.heap.size wr X) => cell_load (rangeAt_below hr2 hX hg2) yok.m
      have ne := fun (p q : Operand) X => neqv_cell x y xok.m yok.m p q X
      unfold cellV at ne
      have hxy : (a.getD i Ce.zero).eq (b.getD i Ce.zero) = x.eq y := by rw [List.getD_eq_getElem?_getD, List.getD_eq_getElem?_getD, hx, hy]; rfl
      have L1 := Lib.hid l1
      have L2 := Lib.hid l2
      have NE := Lib.hid ne
      have HXY := Lib.hid hxy
      clear l1 l2 ne hxy hr hr2 hg hg2 hx hy
      go_wp2_with fail
      refine wp_region_calm_lit (by kernel_rfl) (by kernel_rfl) ?_
      repeat
        first
        | (apply calm_want
           · first | rfl | (go_simp; done)
           · intro X hX
             first
             | exact calm_load rfl rfl (L1.out X hX) hX
             | exact calm_load rfl rfl (L2.out X hX) hX
             | exact calm_bin rfl rfl rfl (NE.out _ _ X) hX
             | (go_simp
                first
                  | done
                  | rfl
                  | (refine ⟨trivial, ?_⟩; (fail); done)
                  | ((fail); done))
           intro K hK
           go_simp
           refine hK _ ?_
           clear hK K)
        | (apply calm_skip
           · first | rfl | (go_simp; done)
           intro K hK
           go_simp
           refine hK _ ?_
           clear hK K)
      refine wpQuiet_nil ?_
      intro X hX
      have W2 := Lib.hid (HW.out.trans (hX.mono HW.out.size))
      clear hX L1 L2 NE
      cases hz : x.eq y with
      | true =>
        have J2 := Lib.hid (fun j (hj : j < i + 1) => show (a.getD j Ce.zero).eq (b.getD j Ce.zero) = true by
          by_cases e : j = i
          · rw [e, HXY.out, hz]
          · exact HJ.out j (by omega))
        clear hz
        go_wp2_with fail
        go_roundw
        case rel => exact ⟨i + 1, by omega, by go_num, J2, W2⟩
        case measure => simp [intOf]; omega
      | false =>
        have hs : sameB a b = false := by
          cases h : sameB a b with
          | false => rfl
          | true =>
            have := (sameB_iff a b).1 h
            subst this
            have := HXY.out
            rw [Ce.eq_self, hz] at this
            cases this
        have HS := Lib.hid hs
        clear hz hs
        go_wp2_with fail
        go_ret
        exact ⟨by rw [HS.out]; rfl, W2.out⟩
    · have d1 : decide ((i : Int) < (a.length : Int)) = false := decide_eq_false (by omega)
      have hs : sameB a b = true := by
        unfold sameB
        rw [decide_eq_true HL.out, Bool.true_and, List.all_eq_true]
        exact fun j hj => HJ.out j (by have := List.mem_range.1 hj; omega)
      have HS := Lib.hid hs
      clear hs
      go_wp2_with fail
      go_ret
      exact ⟨by rw [HS.out]; rfl, HW.out⟩
/-! ### Places -/
def hI (h : UInt64) (i : Nat) : UInt64 := UInt64.ofNat (h.toNat / 2 ^ (21 * i))
theorem hI_toNat (h : UInt64) (i : Nat) : (hI h i).toNat = h.toNat / 2 ^ (21 * i) := by
  unfold hI
  rw [UInt64.toNat_ofNat', Nat.mod_eq_of_lt (Nat.lt_of_le_of_lt (Nat.div_le_self _ _) h.toNat_lt)]
theorem hI_zero (h : UInt64) : hI h 0 = h := by apply UInt64.toNat_inj.1; rw [hI_toNat]; simp
theorem hI_succ (h : UInt64) (i : Nat) : U (hI h i) / 2097152 = U (hI h (i + 1)) := by
  unfold U
  rw [hI_toNat, hI_toNat, show 21 * (i + 1) = 21 * i + 21 by omega, Nat.pow_add, ← Nat.div_div_eq_div_mul]
  rfl
set_option maxHeartbeats 2000000 in
theorem refplaces_any (t : Nat) (hn : fitsC ((3 * t : Nat) : Int)) (m : List UInt8) (hm : m.length = 16) (w : World) : Calls Try.prog 41 #[.int .i64 ((3 * t : Nat) : Int), markV m] w fun e w' => e = .returned (.agg (pcV (hash4 m) t).toArray) ∧ Below w.heap.size w w' := by
  unfold markV
  have t1 : 1 ≤ t := by have := hn.1; omega
  have t2 : t ≤ 512 := by have := hn.2.1; omega
  have hq : ((3 * t : Nat) : Int) / 3 = (t : Int) := by omega
  have n0 : (0 : Int) ≤ ((3 * t : Nat) : Int) := by omega
  have n1 : ((3 * t : Nat) : Int) ≤ 1536 := hn.2.1
  generalize ((3 * t : Nat) : Int) = N at *
  have HQ := Lib.hid hq
  clear hn hq
  go_enter Try.func41, Try.ntmps41
  go_wp2_with fail
  obtain ⟨w1, hw1⟩ : ∃ w1, w1 = (w.alloc (.cells (m.map byteV).toArray 23)).alloc (.cells (arr3 (pcN (hash4 m) t) 0).toArray 64) := ⟨_, rfl⟩
  change Code.wp _ _ _ _ ((w.alloc (.cells (m.map byteV).toArray 23)).alloc (.cells (arr3 (pcN (hash4 m) t) 0).toArray 64))
  rw [← hw1]
  have h0 : w1.heap[w.heap.size]? = some (.cells (m.map byteV).toArray 23 (0, 0)) := by
    rw [hw1]
    exact (Below.heap_alloc _ _ _ (by simp)).trans (World.alloc_heap_new _ _)
  have h1 : w1.heap[w.heap.size + 1]? = some (.cells (arr3 (pcN (hash4 m) t) 0).toArray 64 (0, 0)) := by
    rw [hw1, show w.heap.size + 1 = (w.alloc (.cells (m.map byteV).toArray 23)).heap.size by simp]
    exact World.alloc_heap_new _ _
  have hB : Below w.heap.size w w1 := by
    rw [hw1]
    exact ((Below.refl _ _).alloc (Nat.le_refl _) _).alloc (by simp) _
  have hcv : ∀ X, Below w1.heap.size w1 X → (convert 41 9 (.slice (some ⟨w.heap.size, 0, none⟩) 16 16)).run Try.prog X = .ok (str m) X := fun X hX => by
    have hby := mark_bytes (o := 0) ((hX.block _ (blk_lt h0)).trans h0) (m := m) (fun j hj => by rw [Nat.zero_add, List.getElem?_map, List.getElem?_eq_getElem hj]; rfl) 16
    rw [hm] at hby
    exact conv_bytes hby
  have r1 := fun X => plain_seed_any 4 X
  have r2 := fun X => plain_hash_any (sA 4) (sB 4) m X (by omega)
  rw [← hash_eq] at r2
  obtain ⟨h, hh⟩ : ∃ h, hashS (sA 4) (sB 4) m = h := ⟨_, rfl⟩
  have hh4 : hash4 m = h := hh
  rw [hh] at r2
  rw [hh4] at h1
  have R1 := Lib.hid r1
  have R2 := Lib.hid r2
  have H1 := Lib.hid h1
  have HB := Lib.hid hB
  have HH := Lib.hid hh4
  clear hB h0 h1 hm hw1 r1 r2 hh hh4
  refine wp_region_calm_lit (by kernel_rfl) (by kernel_rfl) ?_
  repeat
    first
    | (apply calm_want
       · first | rfl | (go_simp; done)
       · intro X hX
         go_simp
         first
           | done
           | rfl
           | (refine ⟨trivial, ?_⟩; (first | exact calls_calm hX (R1.out X) | exact calls_calm hX (R2.out X)); done)
           | ((first | exact calls_calm hX (R1.out X) | exact calls_calm hX (R2.out X)); done)
       intro K hK
       go_simp
       refine hK _ ?_
       clear hK K)
    | (apply calm_skip
       · first | rfl | (go_simp; done)
       intro K hK
       go_simp
       refine hK _ ?_
       clear hK K)
  refine wpQuiet_nil ?_
  intro X hX
  have hBw := HB.out.trans (hX.mono HB.out.size)
  have j1 := (hX.block _ (blk_lt H1.out)).trans H1.out
  clear hcv
  obtain ⟨w2, hw2⟩ : ∃ w2, w2 = X.alloc (.cells (arr3 (pcN h t) 0).toArray 64) := ⟨_, rfl⟩
  have k2 : w2.heap[X.heap.size]? = some (.cells (arr3 (pcN h t) 0).toArray 64 (0, 0)) := by rw [hw2]; exact World.alloc_heap_new _ _
  have k1 : w2.heap[w.heap.size + 1]? = some (.cells (arr3 (pcN h t) 0).toArray 64 (0, 0)) := by rw [hw2]; exact (Below.heap_alloc _ _ _ (blk_lt j1)).trans j1
  have kb : Below w.heap.size w w2 := by rw [hw2]; exact hBw.alloc hBw.size _
  have hne : w.heap.size + 1 ≠ X.heap.size := by have := blk_lt j1; omega
  have hwX : w.heap.size ≤ X.heap.size := hBw.size
  have K1 := Lib.hid k1
  have K2 := Lib.hid k2
  have KB := Lib.hid kb
  have HW2 := Lib.hid hw2
  clear hX hBw j1 k1 k2 kb hw2 H1 HB
  go_wp2_with fail
  change Code.wp _ _ _ _ (X.alloc (.cells (arr3 (pcN h t) 0).toArray 64))
  rw [← HW2.out]
  clear HW2
  generalize X.heap.size = kx at *
  go_loopw [5, 7] (fun u c wr => ∃ i : Nat, i ≤ 3 ∧ c = .int .i64 i ∧ u = .int .u64 (U (hI h i)) ∧ Hid (wr.heap[kx]? = some (.cells (arr3 (pcN h t) i).toArray 64 (0, 0))) ∧ Hid (wr.heap[w.heap.size + 1]? = some (.cells (arr3 (pcN h t) 0).toArray 64 (0, 0))) ∧ Hid (Below w.heap.size w wr)) (fun _ c _ => 3 - (intOf c).toNat)
  case atStart => exact ⟨0, by omega, rfl, by rw [hI_zero], K2, K1, KB⟩
  case round =>
    obtain ⟨i, hi, rfl, rfl, HA, HZ, HB⟩ := hrel
    by_cases hil : i < 3
    · have e1 : decide ((i : Int) < 3) = true := decide_eq_true (by omega)
      have e16 : (i : Int) < 3 := by omega
      have nn : (0 : Int) < (t : Int) := by omega
      have nb : (t : Int) ≤ 512 := by omega
      have hqt := HQ.out
      obtain ⟨x, hx⟩ : ∃ x, h.toNat / 2 ^ (21 * i) % 2097152 = x := ⟨_, rfl⟩
      have x0 : (0 : Int) ≤ (x : Int) := Int.natCast_nonneg _
      have x1 : (x : Int) < 2097152 := by omega
      have f1 : U (hI h i) % 2097152 = (x : Int) := by unfold U; rw [hI_toNat, ← hx]; exact (Int.natCast_emod _ _).symm
      have f6 : U (hI h i) / 2097152 = U (hI h (i + 1)) := hI_succ h i
      have u0 : (0 : Int) ≤ U (hI h i) := Int.natCast_nonneg _
      have u1 : U (hI h i) < 18446744073709551616 := by unfold U; have := (hI h i).toNat_lt; omega
      obtain ⟨y, hy⟩ : ∃ y, x % t = y := ⟨_, rfl⟩
      have hyt : y < t := by rw [← hy]; exact Nat.mod_lt _ (by omega)
      have f2 : (x : Int) % (t : Int) = (y : Int) := by rw [← hy]; exact (Int.natCast_emod _ _).symm
      obtain ⟨q, hq⟩ : ∃ q, i * t = q := ⟨_, rfl⟩
      have hq1 : q ≤ 2 * 512 := by rw [← hq]; exact Nat.mul_le_mul (by omega) t2
      have f3 : (i : Int) * (t : Int) = (q : Int) := by rw [← hq, Int.natCast_mul]
      have f4 : (q : Int) + (y : Int) ≤ 2000 := by omega
      have hpc : pcN h t i = q + y := by unfold pcN; rw [hx, hy, hq]
      have hcl := cell_at HA.out i
      have hgt : (arr3 (pcN h t) i)[i]? = some (.int .i64 0) := by unfold arr3; rw [List.getElem?_map, List.getElem?_range hil]; simp
      rw [hgt] at hcl
      have hf := free_of HA.out i
      have K0 := set_cell i (.int .i64 ((pcN h t i : Nat) : Int)) HA.out
      rw [arr3_set _ _ hil] at K0
      have K1 := (Below.heap_setCell wr ⟨kx, i, none⟩ (.int .i64 ((pcN h t i : Nat) : Int)) (w.heap.size + 1) hne).trans HZ.out
      have K2 := HB.out.setCell (p := ⟨kx, i, none⟩) (by dsimp only; omega) (.int .i64 ((pcN h t i : Nat) : Int))
      rw [hpc, Int.natCast_add] at K0 K1 K2
      obtain ⟨hv, hhv⟩ : ∃ hv, U (hI h i) = hv := ⟨_, rfl⟩
      obtain ⟨hv2, hhv2⟩ : ∃ hv2, U (hI h (i + 1)) = hv2 := ⟨_, rfl⟩
      rw [hhv, hhv2] at f6
      rw [hhv] at f1 u0 u1 ⊢
      have KK0 := Lib.hid K0
      have KK1 := Lib.hid K1
      have KK2 := Lib.hid K2
      have HV2 := Lib.hid hhv2
      have F6 := Lib.hid f6
      clear f6 K0 K1 K2 hx hgt hy hq hpc hhv hhv2
      go_wp2_with fail
      go_roundw
      case rel => exact ⟨i + 1, by omega, by go_num, by rw [HV2.out, F6.out], KK0, KK1, KK2⟩
      case measure => simp [intOf]; omega
    · have e1 : decide ((i : Int) < 3) = false := decide_eq_false (by omega)
      obtain rfl : i = 3 := by omega
      have hp : arr3 (pcN h t) 3 = pcV h t := rfl
      have HA' := HA.out
      rw [hp] at HA'
      have hl := run_loadAt_mid wr kx 0 64 (pcV h t) _ (blk_all HA') Try.underlying64 rfl (by kernel_rfl)
      have hs := run_storeAt_mid (P := Try.prog) wr (w.heap.size + 1) 0 64 (pcV h t).toArray (blk_there HZ.out _ _ (by simp [arr3, pcV])) (by kernel_rfl) (all_oneCell_toArray (by intro v hv; simp only [pcV, List.mem_cons, List.not_mem_nil, or_false] at hv; rcases hv with rfl | rfl | rfl <;> rfl))
      have hz := heap_setCells (w.heap.size + 1) 64 (0, 0) (pcV h t) 0 _ wr HZ.out (by simp [arr3, pcV])
      rw [splice_all (by simp [arr3, pcV])] at hz
      have hB' := Below.setCells HB.out (w.heap.size + 1) 0 (pcV h t) (by omega)
      have HZ2 := Lib.hid hz
      clear hz HA'
      go_wp2_with (first | (refine wpList_load_at rfl _ _ rfl rfl (hl) ?_) | (refine wpList_store_at rfl _ _ _ rfl rfl rfl (hs) ?_))
      exact bodyPost_ret (v := .agg (pcV h t).toArray) (results_cell_row rfl _ _ (w.heap.size + 1) 64 (pcV h t).toArray (0, 0) _ rfl HZ2.out Try.underlying64 rfl (by kernel_rfl)) rfl ⟨by rw [HH.out], hB'⟩
/-! ### A mark put into cells -/
theorem OwnC.load {v : Value} {g n c : Nat} {cs : List Ce} {X : World} (h : OwnV 26 18 X v (rawC cs)) (hv : v = .slice (some ⟨g, 0, none⟩) n c) (hk : Oks cs) {p : Nat} {x : Ce} (hp : cs[p]? = some x) : (Instr.loadAt 26 (.pointer (some ⟨g, p * 18, none⟩))).run Try.prog X = .ok (.agg x.vals.toArray) X := by
  have hat := cellsAt_iff.2 h.at
  rw [hv] at hat
  obtain ⟨g', o, e, _, hr⟩ := hat.get' hp
  cases e
  have := cell_load hr (hk x (List.mem_of_getElem? hp)).m
  rwa [Nat.zero_add] at this
theorem OwnC.store {v : Value} {g n c : Nat} {cs : List Ce} {X : World} (h : OwnV 26 18 X v (rawC cs)) (hv : v = .slice (some ⟨g, 0, none⟩) n c) {p : Nat} (hp : p < cs.length) {x : Ce} (hx : x.ok) :
    (Instr.storeAt 26 (.pointer (some ⟨g, p * 18, none⟩)) (.agg x.vals.toArray)).run Try.prog X = .ok () (X.setCells g (p * 18) x.vals) ∧ OwnV 26 18 (X.setCells g (p * 18) x.vals) v (rawC (cs.set p x)) := by
  obtain ⟨_, hg, ht, ho⟩ := h.store hv (i := p) (by rw [rawC_length]; exact hp) (c := x.vals) (x.vals_length hx.m) x.one
  have h18 := x.vals_length hx.m
  refine ⟨run_storeAt_mid X g (p * 18) 26 x.vals.toArray (by rw [List.size_toArray, h18]; exact ht) (by rw [List.size_toArray, h18]; kernel_rfl) (all_oneCell_toArray x.one), ?_⟩
  rw [rawC_set]; exact ho
theorem putP_ok {f : Ce → Ce → Ce} (hf : ∀ a b : Ce, a.ok → b.ok → (f a b).ok) {cs : List Ce} {x : Ce} (h : Oks cs) (hx : x.ok) (hh : UInt64) (t : Nat) : ∀ i, Oks (putP f cs x hh t i)
  | 0 => h
  | i + 1 => by
    rw [putP_succ]
    have ih := putP_ok hf h hx hh t i
    intro c hc
    rcases List.mem_or_eq_of_mem_set hc with h' | rfl
    · exact ih c h'
    · refine hf _ _ ?_ hx
      rw [List.getD_eq_getElem?_getD]
      cases he : (putP f cs x hh t i)[pcN hh t i]? with
      | none => exact Ce.zero_ok
      | some y => exact ih y (List.mem_of_getElem? he)
theorem putC_ok {f : Ce → Ce → Ce} (hf : ∀ a b : Ce, a.ok → b.ok → (f a b).ok) {cs : List Ce} {m : List UInt8} (h : Oks cs) (hm : m.length = 16) : Oks (putC f cs m) := putP_ok hf h (Ce.of_ok hm) _ _ 3
set_option maxHeartbeats 4000000 in
theorem refput_any (s : Int) (v : Value) (cs : List Ce) (m : List UInt8) (w : World) (h : CellsAt w v cs) (hk : Oks cs) (hf : fitsC (cs.length : Int)) (hm : m.length = 16) :
    Calls Try.prog 52 #[v, markV m, .int .i64 s] w fun e w' => ∃ v', e = .returned v' ∧ OwnV 26 18 w' v' (rawC (putC (fun a b => a.radd b s) cs m)) ∧ (∀ g, v'.ownBlock = some g → w.heap.size ≤ g) ∧ Below w.heap.size w w' := by
  obtain ⟨t, ht⟩ : ∃ t, cs.length = 3 * t := ⟨cs.length / 3, by have := hf.2.2; omega⟩
  have t1 : 1 ≤ t := by have := hf.1; omega
  have t2 : t ≤ 512 := by have := hf.2.1; omega
  obtain ⟨p, cap, rfl, hcap, hfr⟩ := id h
  obtain ⟨ad, rfl⟩ : ∃ ad, p = some ad := by
    obtain ⟨g, o, e, _⟩ := hfr 0 cs[0] (List.getElem?_eq_getElem (by omega))
    exact ⟨_, e⟩
  have hput : putC (fun a b => a.radd b s) cs m = putP (fun a b => a.radd b s) cs (Ce.of m) (hash4 m) t 3 := by unfold putC; rw [ht, show 3 * t / 3 = t by omega]
  have hf3 : fitsC ((3 * t : Nat) : Int) := by rw [← ht]; exact hf
  have hz := rawC_sized (Oks.all16 hk)
  obtain ⟨i0, hi0, hz0, hz1, hz2⟩ := info_parts infoCe
  have HT := Lib.hid ht
  have HH := Lib.hid h
  have HK := Lib.hid hk
  have HMM := Lib.hid hm
  have HPUT := Lib.hid hput
  clear h hk hput hf ht hm hfr
  unfold markV
  obtain ⟨w1, hw1⟩ : ∃ w1, w1 = (w.alloc (.cells (m.map byteV).toArray 23)).alloc (.cells #[] 26) := ⟨_, rfl⟩
  have hb : w1.heap[w.heap.size]? = some (.cells (m.map byteV).toArray 23 (0, 0)) := by rw [hw1]; exact (Below.heap_alloc _ _ _ (by simp)).trans (World.alloc_heap_new _ _)
  have hB : Below w.heap.size w w1 := by rw [hw1]; exact ((Below.refl _ _).alloc (Nat.le_refl _) _).alloc (by simp) _
  have hr : w1.ownsRow w.heap.size 26 18 (.slice (some ⟨w.heap.size + 1, 0, none⟩) 0 0) 0 [] := by
    have := World.ownsRow_made (base := w.heap.size) (e := 26) (size := 18) (w.alloc (.cells (m.map byteV).toArray 23)) #[] 0 (by simp) (Nat.zero_le _) rfl
    rw [World.size_alloc] at this
    rw [hw1]; exact this
  have hs1 := (cellsAt_iff.1 HH.out).below hB
  rw [← rawC_length] at hs1
  have hcells := hs1.cells hz
  have hl : (rawC cs).flatten.length = cs.length * 18 := by rw [hz.flat, rawC_length]
  have hm1 : 0 + cs.length ≤ maxLen := by unfold maxLen; have := HT.out; omega
  have hm2 : (0 + cs.length) * 32 ≤ 140737488355328 := by have := HT.out; omega
  have hone := hz.one
  have HW1 := Lib.hid hw1
  have HBX := Lib.hid hb
  have HB := Lib.hid hB
  rw [hw1] at hr hcells
  have HR := Lib.hid hr
  have HC := Lib.hid hcells
  have HZ := Lib.hid hz
  have hle : w.heap.size ≤ ((w.alloc (.cells (m.map byteV).toArray 23)).alloc (.cells #[] 26)).heap.size := by simp; omega
  clear hs1 hb hB hw1 hr hcells hz
  go_enter Try.func52, Try.ntmps52
  go_wp2_with (at_builtin; refine wpList_append_own_at _ rfl _ _ 27 rfl w.heap.size 26 i0 (.agg zeroCells) 18 32 Try.underlying27 hi0 hz0 hz1 hz2 rfl (by decide) _ 0 [] rfl HR.out ad cs.length cap (rawC cs).flatten rfl hl HC.out hone hm1 hm2 hle ?_)
  intro v1 w2 ho hg hni hat
  rw [← HW1.out] at hg
  have hB2 : Below w.heap.size w w2 := HB.out.grown hg HB.out.size (fun k hk => (by
    have hk' : w.heap.size + 1 = k := by simpa [Value.ownBlock] using hk
    omega))
  have o2 : OwnV 26 18 w2 v1 (rawC cs) := by
    have h0 := OwnV.mk (css := []) (dss := rawC cs) (n := 0 + cs.length) (by simpa using ho) (Sized.nil _) HZ.out (by simp [rawC_length])
    simpa using h0
  obtain ⟨p2, c2, rfl, hc2, hp2, hp3⟩ := o2.shape
  rw [rawC_length] at hc2 o2 ho hat hni ⊢
  obtain ⟨g, rfl⟩ : ∃ g, p2 = some ⟨g, 0, none⟩ := by
    cases p2 with
    | none => have e := congrArg List.length (hp2 rfl).1; rw [rawC_length] at e; simp only [List.length_nil] at e; have := HT.out; omega
    | some a => obtain ⟨g, rfl⟩ := hp3 a rfl; exact ⟨g, rfl⟩
  have hgw : w.heap.size < g := by
    rcases hat with e | e
    · have e' : g = w.heap.size + 1 := by simpa [Value.ownBlock] using e
      omega
    · simp only [World.size_alloc, Value.ownBlock, Option.some.injEq] at e; omega
  have hbx2 := (hg.block w.heap.size (blk_lt HBX.out) (fun e => (by simp [Value.ownBlock] at e))).trans HBX.out
  have lm := mark_whole hbx2 HMM.out
  have a3 := refplaces_any t hf3 m HMM.out w2
  rw [← HT.out] at a3
  unfold markV at a3
  obtain ⟨hh, hhd⟩ : ∃ hh, hash4 m = hh := ⟨_, rfl⟩
  rw [hhd] at a3
  have A3 := Lib.hid a3
  have HHD := Lib.hid hhd
  have O2 := Lib.hid o2
  have B2 := Lib.hid hB2
  have BX2 := Lib.hid hbx2
  clear a3 hhd o2 hB2 hbx2 ho hg hni hat hp2 hp3 HR HC HB HBX HW1 hone hl hm1 hm2 hle hf3
  go_wp2_with (first | (refine wpList_load_at rfl _ _ rfl rfl (lm) ?_))
  refine A3.out.mono ?_
  rintro e w3 ⟨rfl, hB3⟩
  have O3 := Lib.hid (O2.out.below hB3)
  have B3 := Lib.hid (B2.out.trans (hB3.mono B2.out.size))
  have BX3 := Lib.hid ((hB3.block _ (blk_lt BX2.out)).trans BX2.out)
  obtain ⟨x, hx⟩ : ∃ x, Ce.of m = x := ⟨_, rfl⟩
  have xok : x.ok := hx ▸ Ce.of_ok HMM.out
  have HX := Lib.hid hx
  clear hB3 A3 lm O2 B2 BX2 hx
  have hfok : ∀ a b : Ce, a.ok → b.ok → (a.radd b s).ok := fun a b ha hb => Ce.radd_ok ha hb s
  have HFOK := Lib.hid hfok
  clear hfok
  go_wp2_with fail
  go_loopw [9, 17] (fun _ cc wr => ∃ i : Nat, i ≤ 3 ∧ cc = .int .i64 i ∧ Hid (OwnV 26 18 wr (.slice (some ⟨g, 0, none⟩) cs.length c2) (rawC (putP (fun a b => a.radd b s) cs x hh t i))) ∧ Hid (wr.heap[w.heap.size]? = some (.cells (m.map byteV).toArray 23 (0, 0))) ∧ Hid (Below w.heap.size w wr)) (fun _ cc _ => 3 - (intOf cc).toNat)
  case atStart => exact ⟨0, by omega, rfl, O3, BX3, B3⟩
  case round =>
    obtain ⟨i, hi, rfl, HA, HM, HW⟩ := hrel
    by_cases hil : i < 3
    · have e1 : decide ((i : Int) < 3) = true := decide_eq_true (by omega)
      have e3 : (i : Int) < 3 := by omega
      have ix := idx3 hh t i hil wr
      have hpl := pcN_lt hh t i (by omega) hil
      have hlen := putP_length (fun a b => a.radd b s) cs x hh t i
      have hsu := putP_succ (fun a b => a.radd b s) cs x hh t i
      have hok := putP_ok HFOK.out HK.out xok hh t i
      obtain ⟨pp, hp⟩ : ∃ pp, pcN hh t i = pp := ⟨_, rfl⟩
      rw [hp] at ix hpl hsu
      rw [← HT.out] at hpl
      obtain ⟨L, hL⟩ : ∃ L, putP (fun a b => a.radd b s) cs x hh t i = L := ⟨_, rfl⟩
      rw [hL] at HA hlen hsu hok
      obtain ⟨y, hy⟩ : ∃ y, L[pp]? = some y := ⟨_, List.getElem?_eq_getElem (by omega)⟩
      rw [List.getD_eq_getElem?_getD, hy] at hsu
      have yok := hok y (List.mem_of_getElem? hy)
      have zok := Ce.radd_ok yok xok s
      have pi : (pp : Int) < (cs.length : Int) := by omega
      have p0 : (0 : Int) ≤ (pp : Int) := by omega
      have wp : IntKind.i64.wrap (pp : Int) = (pp : Int) := by have := HT.out; rw [IntKind.wrap_i64]; omega
      have l1 := fun X (hX : Below wr.heap.size wr X) => OwnC.load (HA.out.below hX) rfl hok hy
      have l2 := fun X (hX : Below wr.heap.size wr X) => mark_whole ((hX.block _ (blk_lt HM.out)).trans HM.out) HMM.out
      have of := fun X => refof_any m HMM.out X
      rw [HX.out] at of
      have ad := fun X => refadd_any y x s yok xok X
      have st := fun X (hX : Below wr.heap.size wr X) => OwnC.store (HA.out.below hX) rfl (p := pp) (by omega) zok
      unfold cellV at ad of
      unfold markV at of
      have L1 := Lib.hid l1
      have L2 := Lib.hid l2
      have OF := Lib.hid of
      have AD := Lib.hid ad
      have ST := Lib.hid st
      have HSU := Lib.hid hsu
      clear l1 l2 of ad st hsu hy hL hlen hp hok HA
      go_wp2_with fail
      refine wp_region_calm_tail 11 (by kernel_rfl) (by kernel_rfl) ?_
      simp only [List.take_succ_cons, List.take_zero, List.drop_succ_cons, List.drop_zero]
      repeat
        first
        | (apply calm_want
           · first | rfl | (go_simp; done)
           · intro X hX
             first
             | exact calm_load rfl rfl (L1.out X hX) hX
             | exact calm_load rfl rfl (L2.out X hX) hX
             | (go_simp
                first
                  | done
                  | rfl
                  | (refine ⟨trivial, ?_⟩; (first | with_reducible exact calls_calm hX (OF.out X) | with_reducible exact calls_calm hX (AD.out X)); done)
                  | ((first | with_reducible exact calls_calm hX (OF.out X) | with_reducible exact calls_calm hX (AD.out X)); done))
           intro K hK
           go_simp
           refine hK _ ?_
           clear hK K)
        | (apply calm_skip
           · first | rfl | (go_simp; done)
           intro K hK
           go_simp
           refine hK _ ?_
           clear hK K)
      refine wpQuiet_nil ?_
      intro X hX
      obtain ⟨s1, s2⟩ := ST.out X hX
      have M2 := Lib.hid ((heap_setCells_ne g (y.radd x s).vals (pp * 18) X w.heap.size (by omega)).trans ((hX.block _ (blk_lt HM.out)).trans HM.out))
      have W2 := Lib.hid (Below.setCells (HW.out.trans (hX.mono HW.out.size)) g (pp * 18) (y.radd x s).vals (by omega))
      have S2 := Lib.hid s2
      clear s2 ST L1 L2 AD OF
      go_wp2_with (first | (refine wpList_store_at rfl _ _ _ rfl rfl rfl (s1) ?_))
      go_roundw
      case rel => exact ⟨i + 1, by omega, by go_num, by rw [HSU.out]; exact S2, M2, W2⟩
      case measure => simp [intOf]; omega
    · have e1 : decide ((i : Int) < 3) = false := decide_eq_false (by omega)
      obtain rfl : i = 3 := by omega
      go_wp2_with fail
      go_ret
      have hfin := HA.out
      rw [← HX.out, ← HHD.out, ← HPUT.out] at hfin
      exact ⟨_, rfl, hfin, (fun k hk => (by
        have hk' : g = k := by simpa [Value.ownBlock] using hk
        omega)), HW.out⟩
end Go.Proofs.Ytkdbbdlkfpjdfaa
