/- Cells: differences, sums, purity.
   Conditions: those that each theorem names. -/
import Derived.Test.YtkdbbdlkfpjdfaaCelA
namespace Go.Proofs.Ytkdbbdlkfpjdfaa
set_option maxRecDepth 100000
set_option linter.unusedVariables false
set_option linter.unusedSimpArgs false
open Go.RowKit Go.Rg
attribute [local go_sem] Rg.q_add Rg.q_add' Rg.q_xor Rg.q_or Rg.q_and markV cellV
/-- A slice of cells that can be read. -/
def CellsAt (w : World) (v : Value) (cs : List Ce) : Prop :=
  ∃ p cap, v = .slice p cs.length cap ∧ cs.length ≤ cap ∧ ∀ i c, cs[i]? = some c → ∃ g o, p = some ⟨g, o, none⟩ ∧ g < w.heap.size ∧ w.rangeAt g (o + i * 18) c.vals
theorem rangeAt_below {n g o : Nat} {cs : List Value} {X Y : World} (h : X.rangeAt g o cs) (hB : Below n X Y) (hg : g < n) : Y.rangeAt g o cs := fun j v hv => (hB.cell (p := ⟨g, o + j, none⟩) hg).trans (h j v hv)
theorem CellsAt.below {w w' : World} {v : Value} {l : List Ce} (h : CellsAt w v l) (hB : Below w.heap.size w w') : CellsAt w' v l := by
  obtain ⟨p, cap, rfl, hc, hf⟩ := h
  refine ⟨p, cap, rfl, hc, fun i c hi => ?_⟩
  obtain ⟨g, o, e, hg, hr⟩ := hf i c hi
  exact ⟨g, o, e, Nat.lt_of_lt_of_le hg hB.size, rangeAt_below hr hB hg⟩
theorem cell_load {g o : Nat} {c : Ce} {X : World} (h : X.rangeAt g o c.vals) (hm : c.m.length = 16) : (Instr.loadAt 26 (.pointer (some ⟨g, o, none⟩))).run Try.prog X = .ok (.agg c.vals.toArray) X :=
  run_loadAt_mid X g o 26 c.vals _ h Try.underlying26 rfl (by rw [c.vals_length hm]; kernel_rfl)
def sumC (cs : List Ce) : Ce := cs.foldl Ce.add Ce.zero
theorem sumC_snoc (cs : List Ce) (c : Ce) : sumC (cs ++ [c]) = (sumC cs).add c := by simp [sumC]
theorem sumC_ok : ∀ cs : List Ce, (∀ c ∈ cs, c.ok) → (sumC cs).ok := by
  have : ∀ (cs : List Ce) (a : Ce), a.ok → (∀ c ∈ cs, c.ok) → (cs.foldl Ce.add a).ok := by
    intro cs
    induction cs with
    | nil => intro a ha _; exact ha
    | cons c t ih => intro a ha h; exact ih _ (Ce.add_ok ha (h c (by simp))) (fun x hx => h x (by simp [hx]))
  intro cs h
  exact this cs _ Ce.zero_ok h
set_option maxHeartbeats 1000000 in
theorem sum_cells (v : Value) (cs : List Ce) (w : World) (h : CellsAt w v cs) (hk : ∀ c ∈ cs, c.ok) (hn : cs.length ≤ 1000000000) : Calls Try.prog 20 #[v] w fun e w' => e = .returned (cellV (sumC cs)) ∧ Below w.heap.size w w' := by
  have HH := Lib.hid h
  obtain ⟨p, cap, rfl, hcap, hf⟩ := h
  have HK := Lib.hid hk
  clear hk hf
  go_enter Try.func20, Try.ntmps20
  go_wp2_with fail
  obtain ⟨w1, hw1⟩ : ∃ w1, w1 = (w.alloc (.cells zeroCells 26)).alloc (.cells zeroCells 26) := ⟨_, rfl⟩
  rw [← hw1]
  have h0 : CellAt w.heap.size 26 Ce.zero w1 := by
    rw [hw1]
    exact (Below.heap_alloc _ _ _ (by simp)).trans (World.alloc_heap_new _ _)
  have h1 : CellAt (w.heap.size + 1) 26 (sumC (cs.take 0)) w1 := by
    rw [hw1, show w.heap.size + 1 = (w.alloc (.cells zeroCells 26)).heap.size by simp]
    exact World.alloc_heap_new _ _
  have hB : Below w.heap.size w w1 := by
    rw [hw1]
    exact ((Below.refl _ _).alloc (Nat.le_refl _) _).alloc (by simp) _
  clear hw1
  have H0 := Lib.hid h0
  have H1 := Lib.hid h1
  clear h0 h1
  go_loopw [5, 8] (fun _ c wr => ∃ i : Nat, i ≤ cs.length ∧ c = .int .i64 i ∧ Hid (CellAt w.heap.size 26 Ce.zero wr) ∧ Hid (CellAt (w.heap.size + 1) 26 (sumC (cs.take i)) wr) ∧ Below w.heap.size w wr) (fun _ c _ => cs.length - (intOf c).toNat)
  case atStart => exact ⟨0, by omega, rfl, H0, H1, hB⟩
  case round =>
    obtain ⟨i, hi, rfl, H0, H1, hB⟩ := hrel
    by_cases hil : i < cs.length
    · have e1 : decide ((i : Int) < (cs.length : Int)) = true := decide_eq_true (by omega)
      obtain ⟨c, hc⟩ : ∃ c, cs[i]? = some c := ⟨_, List.getElem?_eq_getElem hil⟩
      have hcm := HK.out c (List.mem_of_getElem? hc)
      have HX := HH.out.below hB
      obtain ⟨q, cap', e, _, hf⟩ := HX
      cases e
      obtain ⟨g, o, rfl, hg, hr⟩ := hf i c hc
      have hL := cell_load hr hcm.m
      have hz := H1.out.below (Below.refl _ _) (blk_lt H1.out)
      obtain ⟨a1, a2⟩ := (zero_at (w := wr) (T := 26)).store (c := c) rfl hcm.m
      have hlt := blk_lt H1.out
      have hA : ∀ k, k < wr.heap.size → ((wr.alloc (.cells zeroCells 26)).setCells wr.heap.size 0 c.vals).heap[k]? = wr.heap[k]? := fun k hk => (heap_setCells_ne _ _ _ _ _ (by omega)).trans (Below.heap_alloc _ _ _ hk)
      have m0 : CellAt _ _ _ _ := (hA _ (blk_lt H0.out)).trans H0.out
      have m1 : CellAt _ _ _ _ := (hA _ hlt).trans H1.out
      have hok := sumC_ok (cs.take i) (fun x hx => HK.out x (List.mem_of_mem_take hx))
      have hb3 := Below.setCells (hB.alloc hB.size (.cells zeroCells 26)) wr.heap.size 0 c.vals (by omega)
      have L2 := m1.whole hok.m
      have L3 := a2.whole hcm.m
      have hsn := sumC_snoc (cs.take i) c
      rw [show cs.take i ++ [c] = cs.take (i + 1) by rw [List.take_add_one, hc]; rfl] at hsn
      have HS := Lib.hid hsn
      have HC := Lib.hid hc
      clear hsn hc hf hz hr
      go_wp2_with (first | (refine wpList_load_at rfl _ _ rfl rfl (hL) ?_) | (refine wpList_store_at rfl _ _ _ rfl rfl rfl (a1) ?_) | (refine wpList_load_at rfl _ _ rfl rfl (L2) ?_) | (refine wpList_load_at rfl _ _ rfl rfl (L3) ?_))
      refine (add_any (sumC (cs.take i)) c hok hcm _).mono ?_
      rintro e w4 ⟨rfl, hB4⟩
      have hz4 : wr.heap.size + 1 ≤ w4.heap.size := by have := hB4.size; rw [size_setCells] at this; simpa using this
      have n0 := m0.below hB4 (by rw [size_setCells]; simp; have := blk_lt H0.out; omega)
      have n1 := m1.below hB4 (by rw [size_setCells]; simp; omega)
      rw [← HS.out]
      have hok' := sumC_ok (cs.take (i + 1)) (fun x hx => HK.out x (List.mem_of_mem_take hx))
      obtain ⟨b1, b2⟩ := n1.store (c := sumC (cs.take (i + 1))) hok.m hok'.m
      have k0 : CellAt _ _ _ _ := (heap_setCells_ne (w.heap.size + 1) (sumC (cs.take (i + 1))).vals 0 w4 w.heap.size (by omega)).trans n0
      have hb4 := Below.setCells (hb3.trans (hB4.mono hb3.size)) (w.heap.size + 1) 0 (sumC (cs.take (i + 1))).vals (by omega)
      have K0 := Lib.hid k0
      have B2 := Lib.hid b2
      have HB4 := Lib.hid hb4
      clear n0 n1 k0 b2 hb3 hb4 m0 m1 L2 L3 hA hB4 a1 a2 hL
      go_wp2_with (first | (refine wpList_store_at rfl _ _ _ rfl rfl rfl (b1) ?_))
      clear b1
      go_roundw
      case rel => exact ⟨i + 1, by omega, by go_num, K0, B2, HB4.out⟩
      case measure => simp [intOf]; omega
    · have e1 : decide ((i : Int) < (cs.length : Int)) = false := decide_eq_false (by omega)
      have hok := sumC_ok cs HK.out
      have k1 := H1.out
      rw [List.take_of_length_le (by omega)] at k1
      have L2 := k1.whole hok.m
      obtain ⟨b1, b2⟩ := H0.out.store (c := sumC cs) rfl hok.m
      have hb4 := Below.setCells hB w.heap.size 0 (sumC cs).vals (by omega)
      clear k1
      go_wp2_with (first | (refine wpList_load_at rfl _ _ rfl rfl (L2) ?_) | (refine wpList_store_at rfl _ _ _ rfl rfl rfl (b1) ?_))
      exact bodyPost_ret (v := cellV (sumC cs)) (b2.ret hok.m rfl rfl) rfl ⟨rfl, hb4⟩
def Ce.pure (c : Ce) : Int := if (c.n = 1 ∨ c.n = -1) ∧ c.h = check c.m then c.n else 0
theorem U_inj {a b : UInt64} : (U a == U b) = (a == b) := by
  have h : (U a = U b) = (a = b) := propext ⟨fun h => UInt64.toNat_inj.1 (by unfold U at h; omega), fun h => by rw [h]⟩
  rw [Bool.eq_iff_iff, beq_iff_eq, beq_iff_eq, h]
set_option maxHeartbeats 1000000 in
theorem pure_any (c : Ce) (hc : c.ok) (w : World) : Calls Try.prog 21 #[cellV c] w fun e w' => e = .returned (.int .i64 c.pure) ∧ Below w.heap.size w w' := by
  unfold cellV
  go_enter Try.func21, Try.ntmps21
  have h0 : CellAt w.heap.size 26 c (w.alloc (.cells c.vals.toArray 26)) := World.alloc_heap_new _ _
  have hB : Below w.heap.size w (w.alloc (.cells c.vals.toArray 26)) := (Below.refl _ _).alloc (Nat.le_refl _) _
  go_wp2_with fail
  generalize w.alloc (.cells c.vals.toArray 26) = w1 at *
  have l0 := fun X (hX : Below w1.heap.size w1 X) => (h0.below hX (blk_lt h0)).n
  have l2 := fun X (hX : Below w1.heap.size w1 X) => (h0.below hX (blk_lt h0)).h hc.m
  have l4 := fun X (hX : Below w1.heap.size w1 X) => (h0.below hX (blk_lt h0)).mark hc.m
  have HC := Lib.hid hc
  have HB := Lib.hid hB
  have H0 := Lib.hid h0
  clear hc hB h0
  obtain ⟨q, hq⟩ : ∃ q, (c.h == check c.m) = q := ⟨_, rfl⟩
  have hu : (U c.h == U (check c.m)) = q := U_inj.trans hq
  have hp : c.pure = if (c.n = 1 ∨ c.n = -1) ∧ q = true then c.n else 0 := by
    unfold Ce.pure
    rw [← hq]; simp
  have HP := Lib.hid hp
  clear hp hq
  by_cases e1 : c.n = 1
  · have b1 : (c.n == 1) = true := by simp [e1]
    have HE := Lib.hid e1
    clear e1
    refine wp_region_calm_lit (by kernel_rfl) (by kernel_rfl) ?_
    repeat
      first
      | (apply calm_want
         · first | rfl | (go_simp; done)
         · intro X hX
           first
           | exact calm_load rfl rfl (l4 X hX) hX
           | (go_simp
              first
                | done
                | rfl
                | (refine ⟨trivial, ?_⟩; (exact calls_calm hX (check_any c.m HC.out.m X)); done)
                | ((exact calls_calm hX (check_any c.m HC.out.m X)); done))
         intro K hK
         go_simp
         refine hK _ ?_
         clear hK K)
      | (apply calm_skip
         · first | rfl | (go_simp; done)
         intro K hK
         go_simp
         refine hK _ ?_
         clear hK K)
    refine wpQuiet_nil ?_
    intro X hX
    have hBw := HB.out.trans (hX.mono HB.out.size)
    have c0 := l0 X hX
    clear l0 l2 l4
    cases q
    · go_wp2_with fail
      go_ret
      exact ⟨by rw [HP.out]; simp, hBw⟩
    · go_wp2_with fail
      go_ret
      exact ⟨by rw [HP.out]; simp [HE.out], hBw⟩
  · have b1 : (c.n == 1) = false := by simp [e1]
    by_cases e2 : c.n = -1
    · have b2 : (c.n == -1) = true := by simp [e2]
      have HE := Lib.hid e2
      clear e1 e2
      refine wp_region_calm_lit (by kernel_rfl) (by kernel_rfl) ?_
      repeat
        first
        | (apply calm_want
           · first | rfl | (go_simp; done)
           · intro X hX
             first
             | exact calm_load rfl rfl (l4 X hX) hX
             | (go_simp
                first
                  | done
                  | rfl
                  | (refine ⟨trivial, ?_⟩; (exact calls_calm hX (check_any c.m HC.out.m X)); done)
                  | ((exact calls_calm hX (check_any c.m HC.out.m X)); done))
           intro K hK
           go_simp
           refine hK _ ?_
           clear hK K)
        | (apply calm_skip
           · first | rfl | (go_simp; done)
           intro K hK
           go_simp
           refine hK _ ?_
           clear hK K)
      refine wpQuiet_nil ?_
      intro X hX
      have hBw := HB.out.trans (hX.mono HB.out.size)
      have c0 := l0 X hX
      clear l0 l2 l4
      cases q
      · go_wp2_with fail
        go_ret
        exact ⟨by rw [HP.out]; simp, hBw⟩
      · go_wp2_with fail
        go_ret
        exact ⟨by rw [HP.out]; simp [HE.out], hBw⟩
    · have b2 : (c.n == -1) = false := by simp [e2]
      have HE := Lib.hid e1
      have HE2 := Lib.hid e2
      clear e1 e2
      refine wp_region_calm_lit (by kernel_rfl) (by kernel_rfl) ?_
      repeat
        first
        | (apply calm_want
           · first | rfl | (go_simp; done)
           · intro X hX
             go_simp
             first
               | done
               | rfl
               | (refine ⟨trivial, ?_⟩; (fail); done)
               | ((fail); done)
           intro K hK
           go_simp
           refine hK _ ?_
           clear hK K)
        | (apply calm_skip
           · first | rfl | (go_simp; done)
           intro K hK
           go_simp
           refine hK _ ?_
           clear hK K)
      refine wpQuiet_nil ?_
      intro X hX
      have hBw := HB.out.trans (hX.mono HB.out.size)
      clear l0 l2 l4
      go_wp2_with fail
      go_ret
      exact ⟨by rw [HP.out]; simp [HE.out, HE2.out], hBw⟩
theorem right_any (c : Ce) (hc : c.ok) (w : World) : Calls Try.prog 23 #[cellV c] w fun e w' => e = .returned (.bool (decide (-1048576 ≤ c.n ∧ c.n ≤ 1048576))) ∧ Below w.heap.size w w' := by
  unfold cellV
  go_enter Try.func23, Try.ntmps23
  have h0 : CellAt w.heap.size 26 c (w.alloc (.cells c.vals.toArray 26)) := World.alloc_heap_new _ _
  have c0 := h0.n
  have hB : Below w.heap.size w (w.alloc (.cells c.vals.toArray 26)) := (Below.refl _ _).alloc (Nat.le_refl _) _
  by_cases e1 : -1048576 ≤ c.n <;> by_cases e2 : c.n ≤ 1048576
  rotate_right
  · omega
  all_goals
    go_wp2_with fail
    refine bodyPost_ret (results_tmp rfl _ _ _) rfl ?_
    refine ⟨?_, hB⟩
    simp
    omega
end Go.Proofs.Ytkdbbdlkfpjdfaa
