/- The walk of the law CellOrder.
   Conditions: those that the theorem names. -/
import Derived.Test.YtkdbbdlkfpjdfaaC10A
import Derived.Test.YtkdbbdlkfpjdfaaCelE
import Derived.Test.YtkdbbdlkfpjdfaaCelS
import Derived.Test.YtkdbbdlkfpjdfaaCelL
namespace Go.Proofs.Ytkdbbdlkfpjdfaa
set_option maxRecDepth 100000
set_option linter.unusedVariables false
set_option linter.unusedSimpArgs false
open Go.RowKit Go.Rg
attribute [local go_sem] Rg.q_add Rg.q_add' Rg.q_xor Rg.q_or Rg.q_and markV cellV max_two max2_int min_two min2_int
def backL (cs : List Ce) (i : Nat) : List Ce := List.replicate (cs.length - i) Ce.zero ++ (cs.take i).reverse
theorem backL_zero (cs : List Ce) : backL cs 0 = List.replicate cs.length Ce.zero := by simp [backL]
theorem backL_all (cs : List Ce) : backL cs cs.length = cs.reverse := by simp [backL]
theorem backL_length (cs : List Ce) (i : Nat) (h : i ≤ cs.length) : (backL cs i).length = cs.length := by simp [backL]; omega
theorem backL_set (cs : List Ce) (i : Nat) (c : Ce) (h : cs[i]? = some c) : (backL cs i).set (cs.length - 1 - i) c = backL cs (i + 1) := by
  have hi := (List.getElem?_eq_some_iff.1 h).1
  unfold backL
  rw [show cs.length - i = (cs.length - 1 - i) + 1 by omega, List.replicate_succ', List.append_assoc, List.set_append_right _ _ (by rw [List.length_replicate]; exact Nat.le_refl _), List.length_replicate, Nat.sub_self, List.singleton_append, List.set_cons_zero,
    List.take_add_one, h, show cs.length - (i + 1) = cs.length - 1 - i by omega]
  simp
set_option maxHeartbeats 4000000 in
theorem order_walk (v : Value) (cs : List Ce) (at0 : Int) (w : World) (h : CellsAt w v cs) (hk : ∀ c ∈ cs, c.ok) (hat : -9223372036854775808 ≤ at0 ∧ at0 ≤ 9223372036854775807) :
    Calls Try.prog 5 #[v, .int .i64 at0] w fun e w' => e = .returned (.bool true) ∧ Below w.heap.size w w' := by
  have HH := Lib.hid h
  obtain ⟨p, cap, rfl, hcap, _⟩ := h
  have HK := Lib.hid hk
  clear hk
  go_enter Try.func5, Try.ntmps5
  go_wp2_with fail
  refine (first10 w).mono ?_
  rintro e w1 ⟨rfl, hB1⟩
  by_cases h1 : 60 < cs.length
  · have e1 : decide ((60 : Int) < (cs.length : Int)) = true := decide_eq_true (by omega)
    go_wp2_with fail
    go_ret
    exact ⟨rfl, hB1⟩
  have e1 : decide ((60 : Int) < (cs.length : Int)) = false := decide_eq_false (by omega)
  have HH1 := Lib.hid (HH.out.below hB1)
  have mk := make_cells cs.length (by omega) w1
  have e7 : ∀ n, n = cs.length → True := fun _ _ => trivial
  go_wp2_with (first | (refine wpList_make_at rfl rfl rfl rfl mk ?_))
  have hb := RowC.new w1 (backL cs 0) (by rw [backL_zero]; exact All16.zeros _)
  rw [backL_zero] at hb
  obtain ⟨k, hkk, hkl⟩ : ∃ k : Nat, max 0 (min at0 (cs.length : Int)) = (k : Int) ∧ k ≤ cs.length := ⟨(max 0 (min at0 (cs.length : Int))).toNat, by omega, by omega⟩
  rw [hkk]
  have HB1 := Lib.hid hB1
  have hA := Lib.hid ((Below.refl w1.heap.size w1).alloc (Nat.le_refl _) (.cells (flatC (List.replicate cs.length Ce.zero)).toArray 26))
  rw [← backL_zero] at hb hA ⊢
  have HBK := Lib.hid hb
  clear mk e7 hb hkk hB1
  generalize w1.alloc (.cells (flatC (backL cs 0)).toArray 26) = w2 at *
  go_loopw [7, 8, 25] (fun _ _ c wr => ∃ i : Nat, i ≤ cs.length ∧ c = .int .i64 (i : Int) ∧ Hid (RowC w1.heap.size (backL cs i) wr) ∧ Hid (Below w1.heap.size w1 wr)) (fun _ _ c _ => cs.length - (intOf c).toNat)
  case atStart => exact ⟨0, by omega, rfl, HBK, hA⟩
  case round =>
    obtain ⟨i, hi, rfl, HR, HB⟩ := hrel
    by_cases hil : i < cs.length
    · have e1 : decide ((i : Int) < (cs.length : Int)) = true := decide_eq_true (by omega)
      obtain ⟨c, hc⟩ : ∃ c, cs[i]? = some c := ⟨_, List.getElem?_eq_getElem hil⟩
      have hcm := (HK.out c (List.mem_of_getElem? hc)).m
      obtain ⟨q, cap', e, _, hf⟩ := HH1.out.below HB.out
      cases e
      obtain ⟨g, o, rfl, hg, hr⟩ := hf i c hc
      have hL := cell_load hr hcm
      obtain ⟨a1, a2⟩ := (zero_at (w := wr) (T := 26)).store (c := c) rfl hcm
      have hlt := HR.out.lt
      have hA : ∀ k, k < wr.heap.size → ((wr.alloc (.cells zeroCells 26)).setCells wr.heap.size 0 c.vals).heap[k]? = wr.heap[k]? := fun k hk => (heap_setCells_ne _ _ _ _ _ (by omega)).trans (Below.heap_alloc _ _ _ hk)
      have m1 := HR.out.other (hA _ hlt)
      have L2 := a2.whole hcm
      have hj : ((cs.length : Int) - 1 - (i : Int)) = ((cs.length - 1 - i : Nat) : Int) := by omega
      have hbl := backL_length cs i hi
      obtain ⟨b1, b2⟩ := m1.store (i := cs.length - 1 - i) (by rw [hbl]; omega) hcm
      rw [backL_set cs i c hc] at b2
      have hB4 := Below.setCells (Below.setCells (HB.out.alloc HB.out.size (.cells zeroCells 26)) wr.heap.size 0 c.vals HB.out.size) w1.heap.size ((cs.length - 1 - i) * 18) c.vals (Nat.le_refl _)
      have hjl : cs.length - 1 - i < cs.length := by omega
      have B2 := Lib.hid b2
      have HB4 := Lib.hid hB4
      have HC := Lib.hid hc
      clear hc hf hr hA b2 hB4 m1 a2 hbl
      generalize hjj : cs.length - 1 - i = j at *
      have HJ := Lib.hid hjj
      clear hjj
      go_wp2_with (first | (refine wpList_load_at rfl _ _ rfl rfl (hL) ?_) | (refine wpList_store_at rfl _ _ _ rfl rfl rfl (a1) ?_) | (refine wpList_load_at rfl _ _ rfl rfl (L2) ?_) | (refine wpList_store_at rfl _ _ _ rfl rfl rfl (b1) ?_))
      go_roundw
      case rel => exact ⟨i + 1, by omega, by go_num, B2, HB4⟩
      case measure => simp [intOf]; omega
    · have e1 : decide ((i : Int) < (cs.length : Int)) = false := decide_eq_false (by omega)
      obtain rfl : i = cs.length := by omega
      have HR' := HR.out
      rw [backL_all] at HR'
      have HRR := Lib.hid HR'
      have hlt := HR'.lt
      clear HR'
      go_wp2_with fail
      refine (sum_cells _ cs wr (HH1.out.below HB.out) HK.out (by omega)).mono ?_
      rintro e w3 ⟨rfl, hB3⟩
      obtain ⟨S, hS⟩ : ∃ S, sumC cs = S := ⟨_, rfl⟩
      have hSok : S.ok := hS ▸ sumC_ok cs HK.out
      have hTok : ∀ c ∈ cs.take k, c.ok := fun c hc => HK.out c (List.mem_of_mem_take hc)
      have hDok : ∀ c ∈ cs.drop k, c.ok := fun c hc => HK.out c (List.mem_of_mem_drop hc)
      have hRok : ∀ c ∈ cs.reverse, c.ok := fun c hc => HK.out c (List.mem_reverse.1 hc)
      have hTD : (sumC (cs.take k)).add (sumC (cs.drop k)) = S := by rw [← sumC_append _ _ hTok hDok, List.take_append_drop, hS]
      have hRS : sumC cs.reverse = S := (sumC_reverse cs HK.out).trans hS
      have hSD : S.sub (sumC (cs.drop k)) = sumC (cs.take k) := by rw [← hTD]; exact sub_add _ _ (sumC_ok _ hTok) (sumC_ok _ hDok)
      rw [hS]
      obtain ⟨a1, a2⟩ := (zero_at (w := w3) (T := 26)).store (c := S) rfl hSok.m
      have hB4 : Below w1.heap.size w1 ((w3.alloc (.cells zeroCells 26)).setCells w3.heap.size 0 S.vals) := Below.setCells (((HB.out.trans (hB3.mono HB.out.size))).alloc (Nat.le_trans HB.out.size hB3.size) _) _ _ _ (Nat.le_trans HB.out.size hB3.size)
      have hr3 := HRR.out.below hB3 hlt
      have hlt3 := hr3.lt
      have hr4 := hr3.other (Y := (w3.alloc (.cells zeroCells 26)).setCells w3.heap.size 0 S.vals) ((heap_setCells_ne _ _ _ _ _ (by omega)).trans (Below.heap_alloc _ _ _ hlt3))
      have HB4 := Lib.hid hB4
      clear hB4 hB3 hr3 hS
      go_wp2_with (first | (refine wpList_store_at rfl _ _ _ rfl rfl rfl (a1) ?_))
      generalize (w3.alloc (.cells zeroCells 26)).setCells w3.heap.size 0 S.vals = w4 at *
      obtain ⟨A, hA⟩ : ∃ A, (if cap = k then p else p.map (fun x => x.add (k * 18))) = A := ⟨_, rfl⟩
      have hL4 := fun X (hX : Below w4.heap.size w4 X) => CellAt.whole (CellAt.below a2 hX (blk_lt a2)) hSok.m
      have hC4 := fun X (hX : Below w4.heap.size w4 X) => HH1.out.below (HB4.out.trans (hX.mono HB4.out.size))
      have hR4 := fun X (hX : Below w4.heap.size w4 X) => (hr4.below hX hr4.lt).at cs.length (by simp)
      have hD4 := fun X (hX : Below w4.heap.size w4 X) => (hC4 X hX).drop k hkl
      rw [hA] at hD4
      have sR := fun X (hX : Below w4.heap.size w4 X) => sum_cells _ cs.reverse X (hR4 X hX) hRok (by simp; omega)
      have sT := fun X (hX : Below w4.heap.size w4 X) => sum_cells _ (cs.take k) X ((hC4 X hX).take k hkl) hTok (by simp; omega)
      have sD := fun X (hX : Below w4.heap.size w4 X) => sum_cells _ (cs.drop k) X (hD4 X hX) hDok (by simp; omega)
      rw [hRS, List.length_reverse] at sR
      obtain ⟨T, hT⟩ : ∃ T, sumC (cs.take k) = T := ⟨_, rfl⟩
      obtain ⟨D, hD⟩ : ∃ D, sumC (cs.drop k) = D := ⟨_, rfl⟩
      have hTok' : T.ok := hT ▸ sumC_ok _ hTok
      have hDok' : D.ok := hD ▸ sumC_ok _ hDok
      rw [hT] at sT hTD hSD
      rw [hD] at sD hTD hSD
      have aTD := fun X => add_any T D hTok' hDok' X
      have aSD := fun X => sub_any S D hSok hDok' X
      rw [hTD] at aTD
      rw [hSD] at aSD
      unfold cellV at sR sT sD aTD aSD
      have ec : ∀ (c : Ce) (x y : Operand), c.ok → ∀ X, (do eqGuard .eql 26 x y (.agg c.vals.toArray) (.agg c.vals.toArray); binOp .eql 26 (.agg c.vals.toArray) (.agg c.vals.toArray) : Sem Value).run Try.prog X = .ok (.bool true) X := fun c x y hc X => by
        have h := eqv_cell c c hc.m hc.m x y X
        rw [Ce.eq_self] at h
        exact h
      have k1 : (k : Int) ≤ (cs.length : Int) := by omega
      have k2 : (k : Int) ≤ (cap : Int) := by omega
      have HL := Lib.hid hL4
      have SR := Lib.hid sR
      have ST := Lib.hid sT
      have SD := Lib.hid sD
      have AT := Lib.hid aTD
      have AS := Lib.hid aSD
      have EC := Lib.hid ec
      clear hL4 hC4 hR4 hD4 sR sT sD aTD aSD ec hRS hTD hSD hT hD hTok hDok hRok a2 hr4 hlt hlt3 HRR
      refine wp_region_calm_lit (by kernel_rfl) (by kernel_rfl) ?_
      repeat
        first
        | (apply calm_want
           · first | rfl | (go_simp; done)
           · intro X hX
             first
             | exact calm_load rfl rfl (HL.out X hX) hX
             | exact calm_bin rfl rfl rfl (EC.out S _ _ hSok X) hX
             | exact calm_bin rfl rfl rfl (EC.out T _ _ hTok' X) hX
             | (go_simp
                first
                  | done
                  | rfl
                  | (refine ⟨trivial, ?_⟩; (first | with_reducible exact calls_calm hX (SR.out X hX) | with_reducible exact calls_calm hX (ST.out X hX) | with_reducible exact calls_calm hX (SD.out X hX) | with_reducible exact calls_calm hX (AT.out X) | with_reducible exact calls_calm hX (AS.out X)); done)
                  | ((first | with_reducible exact calls_calm hX (SR.out X hX) | with_reducible exact calls_calm hX (ST.out X hX) | with_reducible exact calls_calm hX (SD.out X hX) | with_reducible exact calls_calm hX (AT.out X) | with_reducible exact calls_calm hX (AS.out X)); done))
           intro K hK
           go_simp
           refine hK _ ?_
           clear hK K)
        | (apply calm_skip
           · first | rfl | (go_simp; done)
           intro K hK
           go_simp
           refine hK _ ?_
           clear hK K)
      refine wpQuiet_nil ?_
      intro X hX
      have hfin := HB1.out.trans ((HB4.out.trans (hX.mono HB4.out.size)).mono HB1.out.size)
      go_wp2_with fail
      go_ret
      exact ⟨rfl, hfin⟩
end Go.Proofs.Ytkdbbdlkfpjdfaa
