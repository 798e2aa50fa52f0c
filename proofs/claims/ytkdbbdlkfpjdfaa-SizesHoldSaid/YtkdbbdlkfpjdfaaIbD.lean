/- Sketches: differences, single cells.
   Conditions: those that each theorem names. -/
import Derived.Test.YtkdbbdlkfpjdfaaIbC
namespace Go.Proofs.Ytkdbbdlkfpjdfaa
set_option maxRecDepth 100000
set_option linter.unusedVariables false
set_option linter.unusedSimpArgs false
open Go.RowKit Go.Rg
attribute [local go_sem] Rg.q_add Rg.q_add' Rg.q_xor Rg.q_or Rg.q_and markV cellV
def subI (a b : List Ce) (i : Nat) : List Ce := (List.range a.length).map fun j => if j < i then (a.getD j Ce.zero).sub (b.getD j Ce.zero) else a.getD j Ce.zero
def subL (a b : List Ce) : List Ce := subI a b a.length
theorem subI_length (a b : List Ce) (i : Nat) : (subI a b i).length = a.length := by simp [subI]
theorem subL_length (a b : List Ce) : (subL a b).length = a.length := subI_length _ _ _
theorem subI_get (a b : List Ce) (i j : Nat) (hj : j < a.length) : (subI a b i)[j]? = some (if j < i then (a.getD j Ce.zero).sub (b.getD j Ce.zero) else a.getD j Ce.zero) := by
  unfold subI
  rw [List.getElem?_map, List.getElem?_range hj]; rfl
theorem subI_zero (a b : List Ce) : subI a b 0 = a := by
  apply List.ext_getElem?
  intro j
  by_cases hj : j < a.length
  · rw [subI_get a b 0 j hj, if_neg (by omega), List.getD_eq_getElem?_getD, List.getElem?_eq_getElem hj]; rfl
  · rw [List.getElem?_eq_none (by rw [subI_length]; omega), List.getElem?_eq_none (by omega)]
theorem subI_set (a b : List Ce) (i : Nat) (hi : i < a.length) : (subI a b i).set i ((a.getD i Ce.zero).sub (b.getD i Ce.zero)) = subI a b (i + 1) := by
  apply List.ext_getElem?
  intro j
  by_cases hj : j < a.length
  · rw [subI_get a b (i + 1) j hj]
    by_cases e : i = j
    · subst e
      rw [List.getElem?_set_self (by rw [subI_length]; exact hi), if_pos (by omega)]
    · rw [List.getElem?_set_ne e, subI_get a b i j hj]
      by_cases e2 : j < i
      · rw [if_pos e2, if_pos (by omega)]
      · rw [if_neg e2, if_neg (by omega)]
  · rw [List.getElem?_eq_none (by rw [List.length_set, subI_length]; omega), List.getElem?_eq_none (by rw [subI_length]; omega)]
theorem csub_nil (v : Value) (w : World) : Calls Try.prog 45 #[.pointer none, v] w fun e w' => e = .returned (.tuple #[.pointer none, .int .i64 1]) ∧ w = w' := by
  go_enter Try.func45, Try.ntmps45
  go_wp2_with fail
  go_ret2
  exact ⟨rfl, rfl⟩
theorem csub_nil2 (k : Nat) (w : World) : Calls Try.prog 45 #[ptr k, .pointer none] w fun e w' => e = .returned (.tuple #[.pointer none, .int .i64 1]) ∧ w = w' := by
  go_enter Try.func45, Try.ntmps45
  go_wp2_with fail
  go_ret2
  exact ⟨rfl, rfl⟩
set_option maxHeartbeats 1000000 in
theorem csub_no (k k2 : Nat) (v v2 : Value) (l l2 : List Ce) (w : World) (h : SkAt k v l w) (h2 : SkAt k2 v2 l2 w) (hn : l.length ≠ l2.length) :
    Calls Try.prog 45 #[ptr k, ptr k2] w fun e w' => e = .returned (.tuple #[.pointer none, .int .i64 2]) ∧ Below w.heap.size w w' := by
  obtain ⟨p, c, rfl, hpc⟩ := h.shape
  obtain ⟨p2, c2, rfl, hpc2⟩ := h2.shape
  go_enter Try.func45, Try.ntmps45
  go_wp2_with fail
  have c1 := fun X (hX : Below w.heap.size w X) => (h.below hX).cell
  have d2 := fun X (hX : Below w.heap.size w X) => (h2.below hX).cell
  have hne : ((l.length : Int) != (l2.length : Int)) = true := by simp; omega
  have hne2 : (l.length != l2.length) = true := by simp; omega
  clear h h2 hn
  refine wp_region_calm_lit (by kernel_rfl) (by kernel_rfl) ?_
  repeat
    first
    | (apply calm_want
       · first | rfl | (go_simp; done)
       · intro X hX
         go_simp
         first
           | done
           | rfl
           | (refine ⟨trivial, ?_⟩; (fail); done)
           | ((fail); done)
       intro K hK
       go_simp
       refine hK _ ?_
       clear hK K)
    | (apply calm_skip
       · first | rfl | (go_simp; done)
       intro K hK
       go_simp
       refine hK _ ?_
       clear hK K)
  refine wpQuiet_nil ?_
  intro X hX
  clear c1 d2
  go_wp2_with fail
  go_ret2
  exact ⟨rfl, hX⟩
set_option maxHeartbeats 4000000 in
theorem csub_any (k k2 : Nat) (v v2 : Value) (l l2 : List Ce) (w : World) (h : SkAt k v l w) (h2 : SkAt k2 v2 l2 w) (hn : l.length = l2.length) (h0 : 0 < l.length) (hl : l.length ≤ 1000000) :
    Calls Try.prog 45 #[ptr k, ptr k2] w fun e w' => ∃ k' v', e = .returned (.tuple #[ptr k', .int .i64 0]) ∧ SkAt k' v' (subL l l2) w' ∧ w.heap.size ≤ k' ∧ (∀ g, v'.ownBlock = some g → w.heap.size ≤ g) ∧ Below w.heap.size w w' := by
  have H := Lib.hid h
  have H2 := Lib.hid h2
  obtain ⟨p, c, rfl, hpc⟩ := h.shape
  obtain ⟨p2, c2, rfl, hpc2⟩ := h2.shape
  obtain ⟨g2, rfl, hkg2⟩ := h2.row (by omega)
  go_enter Try.func45, Try.ntmps45
  go_wp2_with fail
  have c1 := fun X (hX : Below w.heap.size w X) => (h.below hX).cell
  have d2 := fun X (hX : Below w.heap.size w X) => (h2.below hX).cell
  have hne : ((l.length : Int) != (l2.length : Int)) = false := by simp; omega
  have hne2 : (l.length != l2.length) = false := by simp; omega
  have HN := Lib.hid hn
  clear h h2 hn
  refine wp_region_calm_lit (by kernel_rfl) (by kernel_rfl) ?_
  repeat
    first
    | (apply calm_want
       · first | rfl | (go_simp; done)
       · intro X hX
         go_simp
         first
           | done
           | rfl
           | (refine ⟨trivial, ?_⟩; (fail); done)
           | ((fail); done)
       intro K hK
       go_simp
       refine hK _ ?_
       clear hK K)
    | (apply calm_skip
       · first | rfl | (go_simp; done)
       intro K hK
       go_simp
       refine hK _ ?_
       clear hK K)
  refine wpQuiet_nil ?_
  intro X hX
  have HXX := Lib.hid hX
  clear c1 d2 hX
  go_wp2_with fail
  refine (cclone_any k _ l X (H.out.below HXX.out) (by omega)).mono ?_
  rintro e w2 ⟨k', v', rfl, ho, hk', hfr, hB2⟩
  obtain ⟨p', c', rfl, hpc'⟩ := ho.shape
  obtain ⟨g', rfl, hkg'⟩ := ho.row h0
  have hfg := hfr g' rfl
  have hBw : Below w.heap.size w w2 := HXX.out.trans (hB2.mono HXX.out.size)
  have hs2 := H2.out.below hBw
  have f2 := hs2.cell
  have hsz2 : w.heap.size ≤ w2.heap.size := hBw.size
  have k2lt : k2 < w.heap.size := H2.out.lt
  have g2lt : g2 < w.heap.size := H2.out.o.lt rfl
  have hfw : w.heap.size ≤ g' := Nat.le_trans HXX.out.size hfg
  have hkw : w.heap.size ≤ k' := Nat.le_trans HXX.out.size hk'
  rw [← subI_zero l l2] at ho
  rw [subI_length] at ho
  have HO := Lib.hid ho
  have HBW := Lib.hid hBw
  clear ho hBw hB2 hs2 hfr
  go_wp2_with fail
  clear f2
  go_loopw [7, 8, 35] (fun _ _ cc wr => ∃ i : Nat, i ≤ l.length ∧ cc = .int .i64 i ∧ Hid (SkAt k' (.slice (some ⟨g', 0, none⟩) l.length c') (subI l l2 i) wr) ∧ Hid (Touch (fun b => b = g') w2 wr)) (fun _ _ cc _ => l.length - (intOf cc).toNat)
  case atStart => exact ⟨0, by omega, rfl, HO, Lib.hid (Touch.refl _ _)⟩
  case round =>
    obtain ⟨i, hi, rfl, HA, HT⟩ := hrel
    by_cases hil : i < l.length
    · have e1 : decide ((i : Int) < (l2.length : Int)) = true := decide_eq_true (by have := HN.out; omega)
      have e1n : decide (i < l2.length) = true := decide_eq_true (by have := HN.out; omega)
      have i1 : (i : Int) < (l2.length : Int) := by have := HN.out; omega
      have i2 : (i : Int) < (l.length : Int) := by omega
      have i3 : i < l2.length := by have := HN.out; omega
      have hx : (subI l l2 i)[i]? = some (l.getD i Ce.zero) := by rw [subI_get _ _ _ _ hil, if_neg (by omega)]
      have hy : l2[i]? = some (l2.getD i Ce.zero) := by rw [List.getD_eq_getElem?_getD, List.getElem?_eq_getElem i3]; rfl
      obtain ⟨x, hxd⟩ : ∃ x, l.getD i Ce.zero = x := ⟨_, rfl⟩
      obtain ⟨y, hyd⟩ : ∃ y, l2.getD i Ce.zero = y := ⟨_, rfl⟩
      have hs := subI_set l l2 i hil
      rw [hxd] at hx hs
      rw [hyd] at hy hs
      have hBr : Below w.heap.size w wr := HBW.out.trans (HT.out.below (n := w.heap.size) (fun j hj => by show w.heap.size ≤ j; rw [hj]; exact hfw) hsz2)
      have s2r := H2.out.below hBr
      have yok := s2r.ok y (List.mem_of_getElem? hy)
      have xok := HA.out.ok x (List.mem_of_getElem? hx)
      have hL := s2r.load hy
      have bc := boxedC wr y yok.m
      have a1 := bc.a1
      have s5 := HA.out.below bc.B
      have t5 := HT.out.trans (Touch.of_below (M := fun b => b = g') bc.B) (fun _ _ h => h)
      have zok := Ce.sub_ok xok yok
      have ad := fun X => sub_any x y xok yok X
      unfold cellV at ad
      have wi : IntKind.i64.wrap (i : Int) = (i : Int) := by rw [IntKind.wrap_i64]; omega
      have A5 := Lib.hid bc.b
      have S5 := Lib.hid s5
      have T5 := Lib.hid t5
      have AD := Lib.hid ad
      have HS := Lib.hid hs
      have HX := Lib.hid hx
      have hgw : g' ≠ wr.heap.size := by have := HA.out.o.lt (k := g') rfl; omega
      clear bc s5 t5 ad hs hx hy hxd hyd s2r hBr HA HT
      go_wp2_with (first | (refine wpList_load_at rfl _ _ rfl rfl (hL) ?_) | (refine wpList_store_at rfl _ _ _ rfl rfl rfl (a1) ?_))
      have hzr : wr.heap.size < ((wr.alloc (.cells zeroCells 26)).setCells wr.heap.size 0 y.vals).heap.size := by rw [size_setCells]; simp
      clear hL a1
      generalize (wr.alloc (.cells zeroCells 26)).setCells wr.heap.size 0 y.vals = w5 at *
      generalize wr.heap.size = ky at *
      have lc : ∀ X, Below w5.heap.size w5 X → X.cell? ⟨k', 0, none⟩ = some (.slice (some ⟨g', 0, none⟩) l.length c') := fun X hX => (S5.out.below hX).cell
      have l1 := fun X (hX : Below w5.heap.size w5 X) => (S5.out.below hX).load HX.out
      have l2' := fun X (hX : Below w5.heap.size w5 X) => (A5.out.below hX (blk_lt A5.out)).whole yok.m
      have st := fun X (hX : Below w5.heap.size w5 X) => (S5.out.below hX).store hkg' (p := i) (by rw [subI_length]; exact hil) zok
      have L1 := Lib.hid l1
      have L2 := Lib.hid l2'
      have ST := Lib.hid st
      clear l1 l2' st
      refine wp_region_calm_tail 15 (by kernel_rfl) (by kernel_rfl) ?_
      simp only [List.take_succ_cons, List.take_zero, List.drop_succ_cons, List.drop_zero]
      repeat
        first
        | (apply calm_want
           · first | rfl | (go_simp; done)
           · intro X hX
             first
             | exact calm_load rfl rfl (L1.out X hX) hX
             | exact calm_load rfl rfl (L2.out X hX) hX
             | (go_simp
                first
                  | done
                  | rfl
                  | (refine ⟨trivial, ?_⟩; (with_reducible exact calls_calm hX (AD.out X)); done)
                  | ((with_reducible exact calls_calm hX (AD.out X)); done))
           intro K hK
           go_simp
           refine hK _ ?_
           clear hK K)
        | (apply calm_skip
           · first | rfl | (go_simp; done)
           intro K hK
           go_simp
           refine hK _ ?_
           clear hK K)
      refine wpQuiet_nil ?_
      intro X hX
      obtain ⟨s1, s2⟩ := ST.out X hX
      rw [HS.out] at s2
      have TT : Touch (fun b => b = g') w2 (X.setCells g' (i * 18) (x.sub y).vals) := (T5.out.trans (Touch.of_below (M := fun b => b = g') hX) (fun _ _ h => h)).setCells _ _ _ (.inl rfl)
      have S2 := Lib.hid s2
      have TTT := Lib.hid TT
      clear s2 TT ST L1 L2 AD lc
      go_wp2_with (first | (refine wpList_store_at rfl _ _ _ rfl rfl rfl (s1) ?_))
      go_roundw
      case rel => exact ⟨i + 1, by omega, by go_num, S2, TTT⟩
      case measure => simp [intOf]; omega
    · have e1 : decide ((i : Int) < (l2.length : Int)) = false := decide_eq_false (by have := HN.out; omega)
      have e1n : decide (i < l2.length) = false := decide_eq_false (by have := HN.out; omega)
      obtain rfl : i = l.length := by omega
      go_wp2_with fail
      go_ret2
      exact ⟨k', _, rfl, HA.out, hkw, fun g hg => by cases hg; exact hfw, HBW.out.trans (HT.out.below (n := w.heap.size) (fun j hj => by show w.heap.size ≤ j; rw [hj]; exact hfw) hsz2)⟩
end Go.Proofs.Ytkdbbdlkfpjdfaa
