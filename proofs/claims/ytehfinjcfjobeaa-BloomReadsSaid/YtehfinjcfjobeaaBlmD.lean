/- Filters: unions.
   Conditions: those that each theorem names. -/
import Derived.Test.YtehfinjcfjobeaaBlmC
namespace Go.Proofs.Ytehfinjcfjobeaa
set_option maxRecDepth 100000
set_option linter.unusedVariables false
set_option linter.unusedSimpArgs false
open Go.RowKit Go.Rg
attribute [local go_sem] Rg.q_add Rg.q_add' Rg.q_xor Rg.q_or Rg.q_and markV
def orI (a b : List UInt8) (i : Nat) : List UInt8 := (List.range a.length).map fun j => if j < i then a.getD j 0 ||| b.getD j 0 else a.getD j 0
def orL (a b : List UInt8) : List UInt8 := orI a b a.length
theorem orI_length (a b : List UInt8) (i : Nat) : (orI a b i).length = a.length := by simp [orI]
theorem orL_length (a b : List UInt8) : (orL a b).length = a.length := orI_length _ _ _
theorem orI_get (a b : List UInt8) (i j : Nat) (hj : j < a.length) : (orI a b i)[j]? = some (if j < i then a.getD j 0 ||| b.getD j 0 else a.getD j 0) := by
  unfold orI
  rw [List.getElem?_map, List.getElem?_range hj]; rfl
theorem orI_zero (a b : List UInt8) : orI a b 0 = a := by
  apply List.ext_getElem?
  intro j
  by_cases hj : j < a.length
  · rw [orI_get a b 0 j hj, if_neg (by omega), List.getD_eq_getElem?_getD, List.getElem?_eq_getElem hj]; rfl
  · rw [List.getElem?_eq_none (by rw [orI_length]; omega), List.getElem?_eq_none (by omega)]
theorem orI_set (a b : List UInt8) (i : Nat) (hi : i < a.length) : (orI a b i).set i (a.getD i 0 ||| b.getD i 0) = orI a b (i + 1) := by
  apply List.ext_getElem?
  intro j
  by_cases hj : j < a.length
  · rw [orI_get a b (i + 1) j hj]
    by_cases e : i = j
    · subst e
      rw [List.getElem?_set_self (by rw [orI_length]; exact hi), if_pos (by omega)]
    · rw [List.getElem?_set_ne e, orI_get a b i j hj]
      by_cases e2 : j < i
      · rw [if_pos e2, if_pos (by omega)]
      · rw [if_neg e2, if_neg (by omega)]
  · rw [List.getElem?_eq_none (by rw [List.length_set, orI_length]; omega), List.getElem?_eq_none (by rw [orI_length]; omega)]
theorem own_some {w : World} {p : Option Addr} {n c : Nat} {l : List UInt8} (h : OwnB w (.slice p n c) l) (h0 : 0 < l.length) : ∃ g, p = some ⟨g, 0, none⟩ := by
  obtain ⟨p', c', e, _, h1, h2⟩ := h.shape
  cases e
  cases p with
  | none => have := (h1 rfl).1; omega
  | some a => obtain ⟨g, rfl⟩ := h2 a rfl; exact ⟨g, rfl⟩
theorem bunion_nil (v : Value) (w : World) : Calls Try.prog 10 #[.pointer none, v] w fun e w' => e = .returned (.tuple #[.pointer none, .int .i64 1]) ∧ w = w' := by
  go_enter Try.func10, Try.ntmps10
  go_wp2_with fail
  go_ret2
  exact ⟨rfl, rfl⟩
set_option maxHeartbeats 1000000 in
theorem bunion_no (k k2 : Nat) (v v2 : Value) (l l2 : List UInt8) (w : World) (h : FltAt k v l w) (h2 : FltAt k2 v2 l2 w) (hn : l.length ≠ l2.length) (hl : l.length ≤ 1000000) (hl2 : l2.length ≤ 1000000) :
    Calls Try.prog 10 #[ptr k, ptr k2] w fun e w' => e = .returned (.tuple #[.pointer none, .int .i64 2]) ∧ Below w.heap.size w w' := by
  obtain ⟨p, c, rfl, hpc, _, _⟩ := h.2.shape
  obtain ⟨p2, c2, rfl, hpc2, _, _⟩ := h2.2.shape
  go_enter Try.func10, Try.ntmps10
  go_wp2_with fail
  have c1 := fun X (hX : Below w.heap.size w X) => (h.below hX).cell
  have d2 := fun X (hX : Below w.heap.size w X) => (h2.below hX).cell
  have hne : ((l.length : Int) != (l2.length : Int)) = true := by simp; omega
  have hne2 : (l.length != l2.length) = true := by simp; omega
  clear h h2 hn
  refine wp_region_calm_lit (by kernel_rfl) (by kernel_rfl) ?_
  repeat
    first
    | (apply calm_want
       · first | rfl | (go_simp; done)
       · intro X hX
         go_simp
         first
           | done
           | rfl
           | (refine ⟨trivial, ?_⟩; (fail); done)
           | ((fail); done)
       intro K hK
       go_simp
       refine hK _ ?_
       clear hK K)
    | (apply calm_skip
       · first | rfl | (go_simp; done)
       intro K hK
       go_simp
       refine hK _ ?_
       clear hK K)
  refine wpQuiet_nil ?_
  intro X hX
  clear c1 d2
  go_wp2_with fail
  go_ret2
  exact ⟨rfl, hX⟩
set_option maxHeartbeats 2000000 in
theorem bunion_any (k k2 : Nat) (v v2 : Value) (l l2 : List UInt8) (w : World) (h : FltAt k v l w) (h2 : FltAt k2 v2 l2 w) (hn : l.length = l2.length) (h0 : 0 < l.length) (hl : l.length ≤ 1000000) :
    Calls Try.prog 10 #[ptr k, ptr k2] w fun e w' => ∃ k' v', e = .returned (.tuple #[ptr k', .int .i64 0]) ∧ FltAt k' v' (orL l l2) w' ∧ w.heap.size ≤ k' ∧ (∀ g, v'.ownBlock = some g → w.heap.size ≤ g) ∧ Below w.heap.size w w' := by
  have H := Lib.hid h
  have H2 := Lib.hid h2
  obtain ⟨p, c, rfl, hpc, _, _⟩ := h.2.shape
  obtain ⟨p2, c2, rfl, hpc2, _, _⟩ := h2.2.shape
  obtain ⟨g2, rfl⟩ := own_some h2.2 (by omega)
  go_enter Try.func10, Try.ntmps10
  go_wp2_with fail
  have c1 := fun X (hX : Below w.heap.size w X) => (h.below hX).cell
  have d2 := fun X (hX : Below w.heap.size w X) => (h2.below hX).cell
  have hne : ((l.length : Int) != (l2.length : Int)) = false := by simp; omega
  have hne2 : (l.length != l2.length) = false := by simp; omega
  have HN := Lib.hid hn
  clear h h2 hn
  refine wp_region_calm_lit (by kernel_rfl) (by kernel_rfl) ?_
  repeat
    first
    | (apply calm_want
       · first | rfl | (go_simp; done)
       · intro X hX
         go_simp
         first
           | done
           | rfl
           | (refine ⟨trivial, ?_⟩; (fail); done)
           | ((fail); done)
       intro K hK
       go_simp
       refine hK _ ?_
       clear hK K)
    | (apply calm_skip
       · first | rfl | (go_simp; done)
       intro K hK
       go_simp
       refine hK _ ?_
       clear hK K)
  refine wpQuiet_nil ?_
  intro X hX
  have cX := c1 X hX
  have HXX := Lib.hid hX
  clear c1 d2 hX
  go_wp2_with fail
  refine (bytes_clone _ l X (H.out.below HXX.out).2.at (by omega)).mono ?_
  rintro e w2 ⟨v', rfl, ho, hfr, hB2⟩
  obtain ⟨p', c', rfl, hpc', _, _⟩ := ho.shape
  obtain ⟨g', rfl⟩ := own_some ho h0
  have hfg := hfr g' rfl
  have hBw : Below w.heap.size w w2 := HXX.out.trans (hB2.mono HXX.out.size)
  have k2lt : k2 < w.heap.size := H2.out.lt
  have g2lt : g2 < w.heap.size := H2.out.2.lt rfl
  have g'lt : g' < w2.heap.size := ho.lt rfl
  have hfw : w.heap.size ≤ g' := Nat.le_trans HXX.out.size hfg
  obtain ⟨w3, hw3⟩ : ∃ w3, w3 = w2.alloc (.cells #[.slice (some ⟨g', 0, none⟩) l.length c'] 60) := ⟨_, rfl⟩
  have hF : FltAt w2.heap.size (.slice (some ⟨g', 0, none⟩) l.length c') (orI l l2 0) w3 := by
    rw [hw3, orI_zero]
    exact ⟨World.alloc_heap_new _ _, ho.kept (fun g hg => Below.heap_alloc _ _ _ (ho.lt hg))⟩
  have hB3 : Below w.heap.size w w3 := by rw [hw3]; exact hBw.alloc hBw.size _
  have hz3 : w2.heap.size < w3.heap.size := by rw [hw3]; simp
  have hzw : w.heap.size ≤ w2.heap.size := hBw.size
  have f2 := (H2.out.below hB3).cell
  rw [hw3] at f2
  have HF := Lib.hid hF
  have HB3 := Lib.hid hB3
  have HW3 := Lib.hid hw3
  clear hF hB3 hw3 ho hfr hB2 hBw cX
  go_wp2_with fail
  rw [← HW3.out]
  clear f2
  go_loopw [7, 8, 40] (fun _ _ cc wr => ∃ i : Nat, i ≤ l.length ∧ cc = .int .i64 i ∧ Hid (FltAt w2.heap.size (.slice (some ⟨g', 0, none⟩) l.length c') (orI l l2 i) wr) ∧ Hid (Touch (fun b => b = g') w3 wr)) (fun _ _ cc _ => l.length - (intOf cc).toNat)
  case atStart => exact ⟨0, by omega, rfl, HF, Lib.hid (Touch.refl _ _)⟩
  case round =>
    obtain ⟨i, hi, rfl, HA, HT⟩ := hrel
    by_cases hil : i < l.length
    · have e1 : decide ((i : Int) < (l2.length : Int)) = true := decide_eq_true (by have := HN.out; omega)
      have e1n : decide (i < l2.length) = true := decide_eq_true (by have := HN.out; omega)
      have i3 : i < l2.length := by have := HN.out; omega
      have i1 : (i : Int) < (l2.length : Int) := by have := HN.out; omega
      have i2 : (i : Int) < (l.length : Int) := by omega
      have hx : (orI l l2 i)[i]? = some (l.getD i 0) := by rw [orI_get _ _ _ _ hil, if_neg (by omega)]
      have hy : l2[i]? = some (l2.getD i 0) := by rw [List.getD_eq_getElem?_getD, List.getElem?_eq_getElem (by have := HN.out; omega)]; rfl
      obtain ⟨x, hxd⟩ : ∃ x, l.getD i 0 = x := ⟨_, rfl⟩
      obtain ⟨y, hyd⟩ : ∃ y, l2.getD i 0 = y := ⟨_, rfl⟩
      have hs := orI_set l l2 i hil
      rw [hxd] at hx hs
      rw [hyd] at hy hs
      have hF2 : FltAt k2 (.slice (some ⟨g2, 0, none⟩) l2.length c2) l2 wr := (H2.out.below HB3.out).touch HT.out (by show ¬ (k2 = g'); omega) (fun g hg => by cases hg; show ¬ (g2 = g'); omega)
      have cy : wr.cell? ⟨g2, i, none⟩ = some (.int .u8 (y.toNat : Int)) := (OwnB.set hF2.2 i hy y).2.2.2.1
      obtain ⟨-, -, -, cx0, fx, ox⟩ := OwnB.set HA.out.2 i hx (x ||| y)
      have cx : wr.cell? ⟨g', i, none⟩ = some (.int .u8 (x.toNat : Int)) := cx0
      clear cx0
      rw [hs] at ox
      have cc := HA.out.cell
      have or8 := q_or8 x y
      have hk : w2.heap.size ≠ g' := by omega
      have F : FltAt w2.heap.size (.slice (some ⟨g', 0, none⟩) l.length c') (orI l l2 (i + 1)) (wr.setCell ⟨g', i, none⟩ (byteV (x ||| y))) := ⟨(Below.heap_setCell wr ⟨g', i, none⟩ _ _ hk).trans HA.out.1, ox⟩
      have TT : Touch (fun b => b = g') w3 (wr.setCell ⟨g', i, none⟩ (byteV (x ||| y))) := HT.out.set g' i _ (.inl rfl)
      have FF := Lib.hid F
      have TTT := Lib.hid TT
      clear F TT ox hs hx hy hxd hyd hF2 HA HT
      go_wp2_with fail
      go_roundw
      case rel => exact ⟨i + 1, by omega, by go_num, FF, TTT⟩
      case measure => simp [intOf]; omega
    · have e1 : decide ((i : Int) < (l2.length : Int)) = false := decide_eq_false (by have := HN.out; omega)
      have e1n : decide (i < l2.length) = false := decide_eq_false (by have := HN.out; omega)
      obtain rfl : i = l.length := by omega
      go_wp2_with fail
      go_ret2
      refine ⟨w2.heap.size, _, rfl, HA.out, hzw, fun g hg => by cases hg; exact hfw, HB3.out.trans (HT.out.below (n := w.heap.size) (fun j hj => by show w.heap.size ≤ j; rw [hj]; exact hfw) HB3.out.size)⟩
end Go.Proofs.Ytehfinjcfjobeaa
