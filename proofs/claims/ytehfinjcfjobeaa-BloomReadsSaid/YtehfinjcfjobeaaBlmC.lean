/- Filters: marks asked for, counts, unions.
   Conditions: those that each theorem names. -/
import Derived.Test.YtehfinjcfjobeaaBlmB
import Derived.Lib.Tables
namespace Go.Proofs.Ytehfinjcfjobeaa
set_option maxRecDepth 100000
set_option linter.unusedVariables false
set_option linter.unusedSimpArgs false
open Go.RowKit Go.Rg
attribute [local go_sem] Rg.q_add Rg.q_add' Rg.q_xor Rg.q_or Rg.q_and markV
def bitB (l : List UInt8) (p : Nat) : Bool := decide ((l.getD (p / 8) 0).toNat / 2 ^ (p % 8) % 2 = 1)
def mayB (l m : List UInt8) : Bool := (List.range 4).all fun j => bitB l (plN (hash8 m) (8 * l.length) j)
theorem and1 (x : UInt8) (r : Nat) : bits .and .u8 ((x.toNat : Int) / 2 ^ r) 1 = ((x.toNat / 2 ^ r % 2 : Nat) : Int) := by
  have e0 : ((x.toNat : Int) / 2 ^ r : Int) = ((x.toNat / 2 ^ r : Nat) : Int) := by rw [Int.natCast_ediv, Int.natCast_pow]; rfl
  have e1 : (1 : Int) = ((2 ^ 1 - 1 : Nat) : Int) := rfl
  have hlt : x.toNat / 2 ^ r < 2 ^ 8 := Nat.lt_of_le_of_lt (Nat.div_le_self _ _) x.toNat_lt
  have eb : IntKind.u8.bits = 8 := rfl
  have h3 : x.toNat / 2 ^ r % 2 ^ 8 = x.toNat / 2 ^ r := Nat.mod_eq_of_lt hlt
  have h4 : (2 ^ 1 - 1) % 2 ^ 8 = 2 ^ 1 - 1 := by decide
  rw [e0, e1]
  simp only [bits, eb, BitVec.ofInt_natCast, BitVec.toNat_and, BitVec.toNat_ofNat, h3, h4]
  rw [Nat.and_two_pow_sub_one_eq_mod, IntKind.wrap_u8]
  omega
set_option maxHeartbeats 2000000 in
theorem bmay_any (k : Nat) (v : Value) (l m : List UInt8) (w : World) (h : FltAt k v l w) (hf : fitsB ((8 * l.length : Nat) : Int)) (hm : m.length = 16) :
    Calls Try.prog 11 #[ptr k, markV m] w fun e w' => e = .returned (.bool (mayB l m)) ∧ Below w.heap.size w w' := by
  have H := Lib.hid h
  obtain ⟨p, c, rfl, hpc, _, hpp⟩ := h.2.shape
  have l0 : 0 < l.length := by have := hf.1; omega
  have l1 : l.length ≤ 1024 := by have := hf.2.1; omega
  obtain ⟨g, rfl⟩ : ∃ g, p = some ⟨g, 0, none⟩ := by
    cases p with
    | none => rcases h.2.2 with ⟨_, h0⟩ | ⟨g, cap, cur, e, _⟩; omega; cases e
    | some a => obtain ⟨g, rfl⟩ := hpp a rfl; exact ⟨g, rfl⟩
  have HF := Lib.hid hf
  clear h hpp hf
  unfold markV
  go_enter Try.func11, Try.ntmps11
  go_wp2_with fail
  obtain ⟨w1, hw1⟩ : ∃ w1, w1 = w.alloc (.cells (m.map byteV).toArray 24) := ⟨_, rfl⟩
  rw [← hw1]
  have hb : w1.heap[w.heap.size]? = some (.cells (m.map byteV).toArray 24 (0, 0)) := by rw [hw1]; exact World.alloc_heap_new _ _
  have hB : Below w.heap.size w w1 := by rw [hw1]; exact (Below.refl _ _).alloc (Nat.le_refl _) _
  have h1 := H.out.below hB
  have lm := fun X (hX : Below w1.heap.size w1 X) => mark_whole ((hX.block _ (blk_lt hb)).trans hb) hm
  obtain ⟨hh, hhd⟩ : ∃ hh, hash8 m = hh := ⟨_, rfl⟩
  obtain ⟨n, hn⟩ : ∃ n, 8 * l.length = n := ⟨_, rfl⟩
  have hab : mayB l m = (List.range 4).all fun j => bitB l (plN (hash8 m) (8 * l.length) j) := rfl
  have a1 := fun X (hX : Below w1.heap.size w1 X) => bbits_any k _ l X (h1.below hX) (by omega)
  have a2 := fun X => bplaces_any (8 * l.length) HF.out m hm X
  rw [hn] at a1 a2 hab
  rw [hhd] at a2 hab
  unfold markV at a2
  have HNN := Lib.hid hn
  have HAB := Lib.hid hab
  clear hn hhd hab
  have A1 := Lib.hid a1
  have A2 := Lib.hid a2
  have LM := Lib.hid lm
  have H1 := Lib.hid h1
  have HB := Lib.hid hB
  clear a1 a2 lm h1 hb hB hw1 H
  refine wp_region_calm_lit (by kernel_rfl) (by kernel_rfl) ?_
  repeat
    first
    | (apply calm_want
       · first | rfl | (go_simp; done)
       · intro X hX
         first
         | exact calm_load rfl rfl (LM.out X hX) hX
         | (go_simp
            first
              | done
              | rfl
              | (refine ⟨trivial, ?_⟩; (first | with_reducible exact calls_calm_same hX (A1.out X hX) | with_reducible exact calls_calm hX (A2.out X)); done)
              | ((first | with_reducible exact calls_calm_same hX (A1.out X hX) | with_reducible exact calls_calm hX (A2.out X)); done))
       intro K hK
       go_simp
       refine hK _ ?_
       clear hK K)
    | (apply calm_skip
       · first | rfl | (go_simp; done)
       intro K hK
       go_simp
       refine hK _ ?_
       clear hK K)
  refine wpQuiet_nil ?_
  intro X hX
  have H2 := Lib.hid (H1.out.below hX)
  have hB2 := HB.out.trans (hX.mono HB.out.size)
  clear hX LM A1 A2 H1 HB
  have HB2 := Lib.hid hB2
  clear hB2
  go_wp2_with fail
  go_loop [6, 13] (fun _ cc => ∃ i : Nat, i ≤ 4 ∧ cc = .int .i64 i ∧ Hid (∀ j, j < i → bitB l (plN hh n j) = true)) (fun _ cc => 4 - (intOf cc).toNat)
  case atStart => exact ⟨0, by omega, rfl, Lib.hid (fun j hj => by omega)⟩
  case round =>
    obtain ⟨i, hi, rfl, HJ⟩ := hrel
    by_cases hil : i < 4
    · have e1 : decide ((i : Int) < 4) = true := decide_eq_true (by omega)
      have ix := idx4 hh n i hil X
      have hpl : plN hh n i < n := Nat.mod_lt _ (by have := HNN.out; omega)
      obtain ⟨pp, hp⟩ : ∃ pp, plN hh n i = pp := ⟨_, rfl⟩
      rw [hp] at ix hpl
      obtain ⟨q, hq⟩ : ∃ q, pp / 8 = q := ⟨_, rfl⟩
      obtain ⟨r, hr⟩ : ∃ r, pp % 8 = r := ⟨_, rfl⟩
      have hql : q < l.length := by have := HNN.out; omega
      have hr8 : r < 8 := by omega
      have f1 : (pp : Int) / 8 = (q : Int) := by omega
      have f2 : (pp : Int) % 8 = (r : Int) := by omega
      have p0 : (0 : Int) ≤ (pp : Int) := by omega
      have qi : (q : Int) < (l.length : Int) := by omega
      have lk := H2.out.cell
      obtain ⟨x, hx⟩ : ∃ x, l[q]? = some x := ⟨_, List.getElem?_eq_getElem hql⟩
      have lg : X.cell? ⟨g, q, none⟩ = some (.int .u8 (x.toNat : Int)) := (OwnB.set H2.out.2 q hx x).2.2.2.1
      have an := and1 x r
      have hbit : bitB l (plN hh n i) = decide (x.toNat / 2 ^ r % 2 = 1) := by
        unfold bitB
        rw [hp, hq, hr, List.getD_eq_getElem?_getD, hx]; rfl
      obtain ⟨z, hz⟩ : ∃ z, x.toNat / 2 ^ r % 2 = z := ⟨_, rfl⟩
      have hz2 : z < 2 := by omega
      rw [hz] at an hbit
      have HBT := Lib.hid hbit
      have HP := Lib.hid hp
      clear hq hr hp hpl hx hbit hz
      have hcase : z = 0 ∨ z = 1 := by omega
      rcases hcase with rfl | rfl
      · go_wp2_with fail
        go_ret
        refine ⟨?_, HB2.out⟩
        rw [HAB.out]
        have : ((List.range 4).all fun j => bitB l (plN hh n j)) = false := by
          rw [List.all_eq_false]
          exact ⟨i, List.mem_range.2 hil, by rw [HBT.out]; simp⟩
        rw [this]; rfl
      · go_wp2_with fail
        go_round
        case rel => exact ⟨i + 1, by omega, by go_num, Lib.hid (fun j hj => by
          by_cases e : j = i
          · rw [e, HBT.out]; rfl
          · exact HJ.out j (by omega))⟩
        case measure => simp [intOf]; omega
    · have e1 : decide ((i : Int) < 4) = false := decide_eq_false (by omega)
      obtain rfl : i = 4 := by omega
      go_wp2_with fail
      go_ret
      have hall : ((List.range 4).all fun j => bitB l (plN hh n j)) = true := List.all_eq_true.2 (fun j hj => HJ.out j (List.mem_range.1 hj))
      exact ⟨by rw [HAB.out, hall]; rfl, HB2.out⟩
/-! ### Counts -/
def popc (x : UInt8) : Nat := ((List.range 8).filter fun r => x.toNat / 2 ^ r % 2 == 1).length
theorem popc_le (x : UInt8) : popc x ≤ 8 := by
  unfold popc
  exact Nat.le_trans (List.length_filter_le _ _) (by simp)
theorem tab_popc : ∀ n : Fin 256, ((Lib.pop8tab[n.val]?).getD 0).toNat = popc (UInt8.ofNat n.val) := by decide +kernel
theorem ones_any (x : UInt8) (w : World) : Calls Try.prog 31 #[.int .u8 (x.toNat : Int)] w fun e w' => e = .returned (.int .i64 (popc x : Int)) ∧ w = w' := by
  have hx : (x.toNat : Int) < 256 := by have := x.toNat_lt; omega
  have hx' : x.toNat < 256 := x.toNat_lt
  go_enter Try.func31, Try.ntmps31
  go_wp2_with fail
  go_ret
  have hsz : Lib.pop8tab.size = 256 := by decide +kernel
  have ht := tab_popc ⟨x.toNat, hx'⟩
  simp only [UInt8.ofNat_toNat] at ht
  rw [getElem?_pos Lib.pop8tab x.toNat (by omega)] at ht
  refine ⟨?_, rfl⟩
  show Ending.returned (.int .i64 (wrap64 ((Lib.pop8tab[x.toNat]'(by omega)).toNat : Int))) = _
  have hl := popc_le x
  simp only [Option.getD_some] at ht
  rw [ht, IntWalk.wrap64_in _ (by omega)]
/-! ### Counts of whole filters -/
def cntB (l : List UInt8) : Nat := (l.map popc).sum
theorem cntB_snoc (l : List UInt8) (x : UInt8) : cntB (l ++ [x]) = cntB l + popc x := by simp [cntB]
theorem cntB_le (l : List UInt8) : cntB l ≤ 8 * l.length := by
  induction l with
  | nil => simp [cntB]
  | cons x t ih => have := popc_le x; simp only [cntB, List.map_cons, List.sum_cons, List.length_cons] at *; omega
set_option maxHeartbeats 1000000 in
theorem bcount_any (k : Nat) (v : Value) (l : List UInt8) (w : World) (h : FltAt k v l w) (hl : l.length ≤ 1000000) : Calls Try.prog 14 #[ptr k] w fun e w' => e = .returned (.int .i64 (cntB l : Int)) ∧ w = w' := by
  have H := Lib.hid h
  obtain ⟨p, c, rfl, hpc, _, _⟩ := h.2.shape
  have hc := h.cell
  have hB := h.2.at
  have HB := Lib.hid hB
  clear h hB
  go_enter Try.func14, Try.ntmps14
  go_wp2_with fail
  go_loop [3, 5, 14] (fun n _ cc => ∃ i : Nat, i ≤ l.length ∧ cc = .int .i64 i ∧ n = .int .i64 (cntB (l.take i) : Int)) (fun _ _ cc => l.length - (intOf cc).toNat)
  case atStart => exact ⟨0, by omega, rfl, rfl⟩
  case round =>
    obtain ⟨i, hi, rfl, rfl⟩ := hrel
    by_cases hil : i < l.length
    · have e1 : decide ((i : Int) < (l.length : Int)) = true := decide_eq_true (by omega)
      obtain ⟨x, hx⟩ : ∃ x, l[i]? = some x := ⟨_, List.getElem?_eq_getElem hil⟩
      obtain ⟨q, cap', e, hf⟩ := HB.out
      cases e
      obtain ⟨g, o, rfl, hg, hcl⟩ := hf i hil
      rw [hx] at hcl
      simp only [Option.getD_some] at hcl
      have hs : cntB (l.take (i + 1)) = cntB (l.take i) + popc x := by rw [List.take_add_one, hx]; exact cntB_snoc _ _
      have hle : cntB (l.take i) ≤ 8 * i := by have := cntB_le (l.take i); rw [List.length_take, Nat.min_eq_left hi] at this; exact this
      have hp8 := popc_le x
      obtain ⟨s, hs1⟩ : ∃ s, cntB (l.take i) = s := ⟨_, rfl⟩
      obtain ⟨y, hy1⟩ : ∃ y, popc x = y := ⟨_, rfl⟩
      rw [hs1] at hle hs ⊢
      rw [hy1] at hp8 hs
      have hsy : (s : Int) + (y : Int) ≤ 9000000 := by omega
      have HS := Lib.hid hs
      have HY := Lib.hid hy1
      have HS1 := Lib.hid hs1
      clear hs hy1 hs1 hx hf
      go_wp2_with fail
      refine (ones_any x w).mono ?_
      rintro e w' ⟨rfl, rfl⟩
      rw [HY.out]
      go_wp2_with fail
      go_round
      case rel => exact ⟨i + 1, by omega, by go_num, by rw [HS.out]; go_num⟩
      case measure => simp [intOf]; omega
    · have e1 : decide ((i : Int) < (l.length : Int)) = false := decide_eq_false (by omega)
      obtain rfl : i = l.length := by omega
      rw [List.take_length]
      go_wp2_with fail
      go_ret
      exact ⟨rfl, rfl⟩
end Go.Proofs.Ytehfinjcfjobeaa
