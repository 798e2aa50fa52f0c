/- Contracts of the words that the laws of package sip lean on.
   Conditions: those that each theorem names. -/
import Derived.Test.YtfebfpfmjdeedaaH
import Derived.Test.YtfebfpfmjdeedaaTail
namespace Go.Proofs.Ytfebfpfmjdeedaa
set_option linter.unusedVariables false
open Go.RowKit Go.Rg
attribute [local go_sem] Rg.q_add Rg.q_add' Rg.q_xor Rg.q_or Rg.q_and ba_app
/-! ### Eight bytes, marks -/
def nb (h : UInt64) (i : Nat) : UInt8 := UInt8.ofNat (h.toNat / 256 ^ i)
def eightB (h : UInt64) : Nat → List UInt8
  | 0 => []
  | i + 1 => nb h i :: eightB h i
theorem eight_any (x : UInt64) (w : World) : Calls Try.prog 22 #[.int .u64 (U x)] w fun e w' => e = .returned (str (eightB x 8)) ∧ Below w.heap.size w w' := by
  obtain ⟨r, hr⟩ : ∃ r, eightB x 8 = r := ⟨_, rfl⟩
  rw [hr]
  have HR := Lib.hid hr
  clear hr
  go_enter Try.func22, Try.ntmps22
  go_wp2_with fail
  go_loopw [0, 3, 4] (fun y s c wr => Below w.heap.size w wr ∧ ∃ i : Nat, i ≤ 8 ∧ c = .int .i64 i ∧ y = .int .u64 (U x / 256 ^ i) ∧ s = .string ⟨(eightB x i).toArray⟩) (fun _ _ c _ => 8 - (intOf c).toNat)
  case atStart => exact ⟨Below.refl _ _, 0, by omega, rfl, by simp, rfl⟩
  case round =>
    obtain ⟨hB, i, hi, rfl, rfl, rfl⟩ := hrel
    by_cases hil : i < 8
    · have e1 : decide ((i : Int) < 8) = true := decide_eq_true (by omega)
      have hc : U x / 256 ^ i % 256 = ((nb x i).toNat : Int) := by
        unfold U nb
        rw [UInt8.toNat_ofNat', Int.natCast_emod, Int.natCast_ediv, Int.natCast_pow]
        rfl
      have hconv := conv_one (nb x i)
      have hl : (eightB x i).length ≤ 8 := by
        have : ∀ j, (eightB x j).length = j := fun j => by induction j with
          | zero => rfl
          | succ j ih => simp [eightB, ih]
        rw [this]; omega
      have hq : U x / 256 ^ i / 256 = U x / 256 ^ (i + 1) := by
        rw [Int.pow_succ, Int.ediv_ediv_of_nonneg (Int.pow_nonneg (by decide))]
      have hy0 : 0 ≤ U x / 256 ^ i := Int.ediv_nonneg (U_nonneg x) (Int.pow_nonneg (by decide))
      have hy1 : U x / 256 ^ i < 18446744073709551616 := Int.lt_of_le_of_lt (Int.ediv_le_self _ (U_nonneg x)) (U_lt x)
      have HQ := Lib.hid hq
      obtain ⟨c, hcc⟩ : ∃ c, c = nb x i := ⟨_, rfl⟩
      rw [← hcc] at hc hconv
      have HC := Lib.hid hcc
      have hc' : ((U x / 256 ^ i).tmod 256) = (c.toNat : Int) := by rw [Int.tmod_eq_emod_of_nonneg hy0]; exact hc
      have hq' : ((U x / 256 ^ i).tdiv 256) = U x / 256 ^ (i + 1) := by rw [Int.tdiv_eq_ediv_of_nonneg hy0]; exact hq
      clear hq hcc
      obtain ⟨m, hm⟩ : ∃ m, eightB x i = m := ⟨_, rfl⟩
      rw [hm] at hl ⊢
      have HM := Lib.hid hm
      clear hm
      go_wp2_with fail
      have hw : IntKind.u64.wrap (U x / 256 ^ (i + 1)) = U x / 256 ^ (i + 1) := by
        refine wraps_u64 _ (Int.ediv_nonneg (U_nonneg x) (Int.pow_nonneg (by decide))) ?_
        exact Int.lt_of_le_of_lt (Int.ediv_le_self _ (U_nonneg x)) (U_lt x)
      refine ⟨⟨hB.alloc hB.size _, i + 1, by omega, by go_num, by rw [hw], ?_⟩, by simp [intOf]; omega⟩
      rw [HC.out, ← HM.out]; rfl
    · have e1 : decide ((i : Int) < 8) = false := decide_eq_false (by omega)
      obtain rfl : i = 8 := by omega
      rw [HR.out]
      generalize U x / 256 ^ 8 = y at *
      go_wp2_with fail
      go_ret
      exact ⟨rfl, hB⟩

theorem eightB_get (x : UInt64) (k : Nat) (hk : k < 8) : (eightB x 8)[k]? = some (mb x k) := by
  have e : ∀ i, nb x i = (x >>> (8 * i).toUInt64).toUInt8 ∨ 8 ≤ i := by
    intro i
    by_cases h : i < 8
    · left
      apply UInt8.toNat_inj.1
      unfold nb
      rw [UInt8.toNat_ofNat', UInt64.toNat_toUInt8, UInt64.toNat_shiftRight]
      simp
      rw [Nat.mod_eq_of_lt (show 8 * i < 64 by omega), Nat.shiftRight_eq_div_pow, Nat.pow_mul]
    · right; omega
  have e' : ∀ i, i < 8 → nb x i = (x >>> (8 * i).toUInt64).toUInt8 := fun i hi => (e i).resolve_right (by omega)
  rcases k with _|_|_|_|_|_|_|_|k
  all_goals first | omega | (simp only [eightB, List.getElem?_cons_zero, List.getElem?_cons_succ]; rw [e' _ (by omega)]; rfl)
theorem eightB_eq (x : UInt64) : eightB x 8 = (List.range 8).map (mb x) := by
  apply List.ext_getElem?
  intro k
  by_cases hk : k < 8
  · rw [eightB_get x k hk]; simp [hk]
  · rw [List.getElem?_eq_none (by simp [eightB]; omega), List.getElem?_eq_none (by simp; omega)]
theorem mark_list (h1 h2 : UInt64) : eightB h1 8 ++ eightB h2 8 = (List.range 16).map (markH h1 h2) := by
  rw [eightB_eq, eightB_eq]; rfl

theorem mark_fin13 {w wF : World} {b : Nat} {ts : Array Value} (m : Nat → UInt8) (B : wF.heap[b]? = some (.cells #[.int .u8 ((m 0).toNat : Int), .int .u8 ((m 1).toNat : Int), .int .u8 ((m 2).toNat : Int), .int .u8 ((m 3).toNat : Int), .int .u8 ((m 4).toNat : Int), .int .u8 ((m 5).toNat : Int), .int .u8 ((m 6).toNat : Int), .int .u8 ((m 7).toNat : Int), .int .u8 ((m 8).toNat : Int), .int .u8 ((m 9).toNat : Int), .int .u8 ((m 10).toNat : Int), .int .u8 ((m 11).toNat : Int), .int .u8 ((m 12).toNat : Int), .int .u8 ((m 13).toNat : Int), .int .u8 ((m 14).toNat : Int), .int .u8 ((m 15).toNat : Int)] 32 (0, 0))) (L : Below w.heap.size w wF) (h : ts[2]? = some (.pointer (some ⟨b, 0, none⟩))) :
    bodyPost Try.prog Try.f13 (fun e w' => e = .returned (markV ((List.range 16).map m)) ∧ Below w.heap.size w w') Exit.ret { tmps := ts, defers := [] } wF := by
  have g : ∀ j, j < 16 → wF.cell? ⟨b, j, none⟩ = some (.int .u8 ((m j).toNat : Int)) := by
    intro j hj
    simp only [World.cell?, B]
    rcases j with _|_|_|_|_|_|_|_|_|_|_|_|_|_|_|_|j <;> first | rfl | omega
  have g0 := g 0 (by omega)
  have g1 := g 1 (by omega)
  have g2 := g 2 (by omega)
  have g3 := g 3 (by omega)
  have g4 := g 4 (by omega)
  have g5 := g 5 (by omega)
  have g6 := g 6 (by omega)
  have g7 := g 7 (by omega)
  have g8 := g 8 (by omega)
  have g9 := g 9 (by omega)
  have g10 := g 10 (by omega)
  have g11 := g 11 (by omega)
  have g12 := g 12 (by omega)
  have g13 := g 13 (by omega)
  have g14 := g 14 (by omega)
  have g15 := g 15 (by omega)
  refine bodyPost_ret (v := markV ((List.range 16).map m)) ?_ rfl ⟨rfl, L⟩
  simp [results, Try.results13, go_sem, h, g0, g1, g2, g3, g4, g5, g6, g7, g8, g9, g10, g11, g12, g13, g14, g15]
  rfl

set_option maxRecDepth 100000 in
set_option maxHeartbeats 2000000 in
theorem plain_mark_any (l : List UInt8) (w : World) (hn : l.length ≤ 1000000) :
    Calls Try.prog 13 #[str l] w fun e w' => e = .returned (markV (markB l)) ∧ Below w.heap.size w w' := by
  go_enter Try.func13, Try.ntmps13
  go_wp2_with fail
  generalize hw1 : (w.alloc (.cells #[.int .u8 0, .int .u8 0, .int .u8 0, .int .u8 0, .int .u8 0, .int .u8 0, .int .u8 0, .int .u8 0, .int .u8 0, .int .u8 0, .int .u8 0, .int .u8 0, .int .u8 0, .int .u8 0, .int .u8 0, .int .u8 0] 32)).alloc (.cells #[.int .u8 0, .int .u8 0, .int .u8 0, .int .u8 0, .int .u8 0, .int .u8 0, .int .u8 0, .int .u8 0, .int .u8 0, .int .u8 0, .int .u8 0, .int .u8 0, .int .u8 0, .int .u8 0, .int .u8 0, .int .u8 0] 32) = w1
  have hh1 : refHash (sA 1) (sB 1) l = hashS (sA 1) (sB 1) l := (hash_eq _ _ _).symm
  have hh2 : refHash (sA 2) (sB 2) l = hashS (sA 2) (sB 2) l := (hash_eq _ _ _).symm
  obtain ⟨h1, hd1⟩ : ∃ h, hashS (sA 1) (sB 1) l = h := ⟨_, rfl⟩
  obtain ⟨h2, hd2⟩ : ∃ h, hashS (sA 2) (sB 2) l = h := ⟨_, rfl⟩
  rw [hd1] at hh1
  rw [hd2] at hh2
  have hB1 : Below w.heap.size w w1 := by rw [← hw1]; exact ((Below.refl _ _).alloc (Nat.le_refl _) _).alloc (by simp) _
  have hz1 : w1.heap.size = w.heap.size + 2 := by rw [← hw1]; simp
  have hb0 : w1.heap[w.heap.size]? = some (.cells (arr h1 h2 0).toArray 32 (0, 0)) := by rw [← hw1]; exact (Below.heap_alloc _ _ _ (by simp)).trans (World.alloc_heap_new _ _)
  have hb1 : w1.heap[w.heap.size + 1]? = some (.cells (arr h1 h2 0).toArray 32 (0, 0)) := by
    rw [← hw1, show w.heap.size + 1 = (w.alloc (.cells #[.int .u8 0, .int .u8 0, .int .u8 0, .int .u8 0, .int .u8 0, .int .u8 0, .int .u8 0, .int .u8 0, .int .u8 0, .int .u8 0, .int .u8 0, .int .u8 0, .int .u8 0, .int .u8 0, .int .u8 0, .int .u8 0] 32)).heap.size by simp]
    exact World.alloc_heap_new _ _
  have HB0 := Lib.hid hb0
  have HB1 := Lib.hid hb1
  have HH1 := Lib.hid hh1
  have HH2 := Lib.hid hh2
  have HD1 := Lib.hid hd1
  have HD2 := Lib.hid hd2
  clear hw1 hb0 hb1 hh1 hh2 hd1 hd2
  refine (plain_seed_any 1 _).mono ?_
  rintro e X1 ⟨rfl, hX1⟩
  go_wp2_with fail
  refine (plain_hash_any (sA 1) (sB 1) l _ hn).mono ?_
  rintro e X2 ⟨rfl, hX2⟩
  rw [HH1.out]
  go_wp2_with fail
  refine (eight_any h1 _).mono ?_
  rintro e X3 ⟨rfl, hX3⟩
  go_wp2_with fail
  refine (plain_seed_any 2 _).mono ?_
  rintro e X4 ⟨rfl, hX4⟩
  go_wp2_with fail
  refine (plain_hash_any (sA 2) (sB 2) l _ hn).mono ?_
  rintro e X5 ⟨rfl, hX5⟩
  rw [HH2.out]
  go_wp2_with fail
  refine (eight_any h2 _).mono ?_
  rintro e X6 ⟨rfl, hX6⟩
  have hX := hX1.trans (hX2.mono hX1.size)
  have hX := hX.trans (hX3.mono hX.size)
  have hX := hX.trans (hX4.mono hX.size)
  have hX := hX.trans (hX5.mono hX.size)
  have hX := hX.trans (hX6.mono hX.size)
  have hb0 := (hX.block _ (by omega)).trans HB0.out
  have hb1 := (hX.block _ (by omega)).trans HB1.out
  have hBw := hB1.trans (hX.mono hB1.size)
  have hle1 : (eightB h1 8).length = 8 := by rw [eightB_eq]; simp
  have hle2 : (eightB h2 8).length = 8 := by rw [eightB_eq]; simp
  have hml := mark_list h1 h2
  have HML := Lib.hid hml
  have HB0' := Lib.hid hb0
  have HB1' := Lib.hid hb1
  clear hX1 hX2 hX3 hX4 hX5 hX6 hX hb0 hb1 hml HB0 HB1
  obtain ⟨e8, he8⟩ : ∃ e8, eightB h1 8 = e8 := ⟨_, rfl⟩
  obtain ⟨f8, hf8⟩ : ∃ f8, eightB h2 8 = f8 := ⟨_, rfl⟩
  rw [he8] at hle1 HML ⊢
  rw [hf8] at hle2 HML
  rw [hf8]
  clear he8 hf8
  go_wp2_with fail
  obtain ⟨t, ht⟩ : ∃ t, e8 ++ f8 = t := ⟨_, rfl⟩
  rw [ht] at HML ⊢
  have htl : t.length = 16 := by rw [← ht]; simp; omega
  clear ht
  go_loopw [5, 15] (fun c _ wr => ∃ k : Nat, k ≤ 16 ∧ c = .int .i64 k ∧ Hid (wr.heap[w.heap.size]? = some (.cells (arr h1 h2 0).toArray 32 (0, 0))) ∧ Hid (wr.heap[w.heap.size + 1]? = some (.cells (arr h1 h2 k).toArray 32 (0, 0))) ∧ Below w.heap.size w wr) (fun c _ _ => 16 - (intOf c).toNat)
  case atStart => exact ⟨0, by omega, rfl, HB0', HB1', hBw⟩
  case round =>
    obtain ⟨k, hk16, rfl, hb0, hb1, hB⟩ := hrel
    by_cases hkl : k < 16
    · have e2 : decide ((k : Int) < 16) = true := decide_eq_true (by omega)
      have f := freeS hb1.out k
      have hl : k < (arr h1 h2 k).length := by simp [arr]; omega
      have hx : wr.cell? ⟨w.heap.size + 1, k, none⟩ = some ((arr h1 h2 k)[k]'hl) := by
        simp only [World.cell?, hb1.out]
        simp
      have htk : t[k]'(by omega) = markH h1 h2 k := by
        have e : t[k]? = some (markH h1 h2 k) := by rw [HML.out]; simp [hkl]
        have := List.getElem?_eq_getElem (show k < t.length by omega)
        rw [this] at e
        exact Option.some.inj e
      have HTK := Lib.hid htk
      clear htk
      go_wp2_with fail
      refine ⟨⟨k + 1, by omega, by go_num, Lib.hid ?_, Lib.hid ?_, hB.setCell (by simp) _⟩, by simp [intOf]; omega⟩
      · exact (Below.heap_setCell _ _ _ _ (by simp)).trans hb0.out
      · refine Eq.trans (block_set _ hb1.out) ?_
        have e3 : (Value.int IntKind.u8 ((t[k]'(by omega)).toNat : Int)) = byteV (markH h1 h2 k) := by rw [HTK.out]; rfl
        have e4 : (Value.int IntKind.u8 (((⟨t.toArray⟩ : ByteArray)[k]'(by show k < t.toArray.size; simp; omega)).toNat : Int)) = byteV (markH h1 h2 k) := e3
        rw [e4, List.setIfInBounds_toArray, arr_set]
    · have e2 : decide ((k : Int) < 16) = false := decide_eq_false (by omega)
      obtain rfl : k = 16 := by omega
      have g : ∀ j, j < 16 → wr.cell? ⟨w.heap.size + 1, j, none⟩ = some (.int .u8 ((markH h1 h2 j).toNat : Int)) := by
        intro j hj
        simp only [World.cell?, hb1.out]
        simp [arr, hj, byteV]
      have d : ∀ j, j < 16 → wr.cell? ⟨w.heap.size, j, none⟩ = some (.int .u8 0) := by
        intro j hj
        simp only [World.cell?, hb0.out]
        simp [arr, hj]
      have g0 := g 0 (by omega)
      have g1 := g 1 (by omega)
      have g2 := g 2 (by omega)
      have g3 := g 3 (by omega)
      have g4 := g 4 (by omega)
      have g5 := g 5 (by omega)
      have g6 := g 6 (by omega)
      have g7 := g 7 (by omega)
      have g8 := g 8 (by omega)
      have g9 := g 9 (by omega)
      have g10 := g 10 (by omega)
      have g11 := g 11 (by omega)
      have g12 := g 12 (by omega)
      have g13 := g 13 (by omega)
      have g14 := g 14 (by omega)
      have g15 := g 15 (by omega)
      have f0 := freeS hb0.out 0
      have f1 := freeS hb0.out 1
      have f2 := freeS hb0.out 2
      have f3 := freeS hb0.out 3
      have f4 := freeS hb0.out 4
      have f5 := freeS hb0.out 5
      have f6 := freeS hb0.out 6
      have f7 := freeS hb0.out 7
      have f8 := freeS hb0.out 8
      have f9 := freeS hb0.out 9
      have f10 := freeS hb0.out 10
      have f11 := freeS hb0.out 11
      have f12 := freeS hb0.out 12
      have f13 := freeS hb0.out 13
      have f14 := freeS hb0.out 14
      have f15 := freeS hb0.out 15
      have d0 := d 0 (by omega)
      have d1 := d 1 (by omega)
      have d2 := d 2 (by omega)
      have d3 := d 3 (by omega)
      have d4 := d 4 (by omega)
      have d5 := d 5 (by omega)
      have d6 := d 6 (by omega)
      have d7 := d 7 (by omega)
      have d8 := d 8 (by omega)
      have d9 := d 9 (by omega)
      have d10 := d 10 (by omega)
      have d11 := d 11 (by omega)
      have d12 := d 12 (by omega)
      have d13 := d 13 (by omega)
      have d14 := d 14 (by omega)
      have d15 := d 15 (by omega)
      clear g d
      go_wp2_with fail
      have hb0' : wr.heap[w.heap.size]? = some (.cells ([] ++ [Value.int .u8 0, Value.int .u8 0, Value.int .u8 0, Value.int .u8 0, Value.int .u8 0, Value.int .u8 0, Value.int .u8 0, Value.int .u8 0, Value.int .u8 0, Value.int .u8 0, Value.int .u8 0, Value.int .u8 0, Value.int .u8 0, Value.int .u8 0, Value.int .u8 0, Value.int .u8 0]).toArray 32 (0, 0)) := hb0.out
      have B0 := fill (v := Value.int .u8 ((markH h1 h2 0).toNat : Int)) 0 rfl hb0'
      have B1 := fill (v := Value.int .u8 ((markH h1 h2 1).toNat : Int)) 1 rfl B0
      have B2 := fill (v := Value.int .u8 ((markH h1 h2 2).toNat : Int)) 2 rfl B1
      have B3 := fill (v := Value.int .u8 ((markH h1 h2 3).toNat : Int)) 3 rfl B2
      have B4 := fill (v := Value.int .u8 ((markH h1 h2 4).toNat : Int)) 4 rfl B3
      have B5 := fill (v := Value.int .u8 ((markH h1 h2 5).toNat : Int)) 5 rfl B4
      have B6 := fill (v := Value.int .u8 ((markH h1 h2 6).toNat : Int)) 6 rfl B5
      have B7 := fill (v := Value.int .u8 ((markH h1 h2 7).toNat : Int)) 7 rfl B6
      have B8 := fill (v := Value.int .u8 ((markH h1 h2 8).toNat : Int)) 8 rfl B7
      have B9 := fill (v := Value.int .u8 ((markH h1 h2 9).toNat : Int)) 9 rfl B8
      have B10 := fill (v := Value.int .u8 ((markH h1 h2 10).toNat : Int)) 10 rfl B9
      have B11 := fill (v := Value.int .u8 ((markH h1 h2 11).toNat : Int)) 11 rfl B10
      have B12 := fill (v := Value.int .u8 ((markH h1 h2 12).toNat : Int)) 12 rfl B11
      have B13 := fill (v := Value.int .u8 ((markH h1 h2 13).toNat : Int)) 13 rfl B12
      have B14 := fill (v := Value.int .u8 ((markH h1 h2 14).toNat : Int)) 14 rfl B13
      have B15 := fill (v := Value.int .u8 ((markH h1 h2 15).toNat : Int)) 15 rfl B14
      have L0 := hB.setCell (p := ⟨w.heap.size, 0, none⟩) (Nat.le_refl _) (Value.int .u8 ((markH h1 h2 0).toNat : Int))
      have L1 := L0.setCell (p := ⟨w.heap.size, 1, none⟩) (Nat.le_refl _) (Value.int .u8 ((markH h1 h2 1).toNat : Int))
      have L2 := L1.setCell (p := ⟨w.heap.size, 2, none⟩) (Nat.le_refl _) (Value.int .u8 ((markH h1 h2 2).toNat : Int))
      have L3 := L2.setCell (p := ⟨w.heap.size, 3, none⟩) (Nat.le_refl _) (Value.int .u8 ((markH h1 h2 3).toNat : Int))
      have L4 := L3.setCell (p := ⟨w.heap.size, 4, none⟩) (Nat.le_refl _) (Value.int .u8 ((markH h1 h2 4).toNat : Int))
      have L5 := L4.setCell (p := ⟨w.heap.size, 5, none⟩) (Nat.le_refl _) (Value.int .u8 ((markH h1 h2 5).toNat : Int))
      have L6 := L5.setCell (p := ⟨w.heap.size, 6, none⟩) (Nat.le_refl _) (Value.int .u8 ((markH h1 h2 6).toNat : Int))
      have L7 := L6.setCell (p := ⟨w.heap.size, 7, none⟩) (Nat.le_refl _) (Value.int .u8 ((markH h1 h2 7).toNat : Int))
      have L8 := L7.setCell (p := ⟨w.heap.size, 8, none⟩) (Nat.le_refl _) (Value.int .u8 ((markH h1 h2 8).toNat : Int))
      have L9 := L8.setCell (p := ⟨w.heap.size, 9, none⟩) (Nat.le_refl _) (Value.int .u8 ((markH h1 h2 9).toNat : Int))
      have L10 := L9.setCell (p := ⟨w.heap.size, 10, none⟩) (Nat.le_refl _) (Value.int .u8 ((markH h1 h2 10).toNat : Int))
      have L11 := L10.setCell (p := ⟨w.heap.size, 11, none⟩) (Nat.le_refl _) (Value.int .u8 ((markH h1 h2 11).toNat : Int))
      have L12 := L11.setCell (p := ⟨w.heap.size, 12, none⟩) (Nat.le_refl _) (Value.int .u8 ((markH h1 h2 12).toNat : Int))
      have L13 := L12.setCell (p := ⟨w.heap.size, 13, none⟩) (Nat.le_refl _) (Value.int .u8 ((markH h1 h2 13).toNat : Int))
      have L14 := L13.setCell (p := ⟨w.heap.size, 14, none⟩) (Nat.le_refl _) (Value.int .u8 ((markH h1 h2 14).toNat : Int))
      have L15 := L14.setCell (p := ⟨w.heap.size, 15, none⟩) (Nat.le_refl _) (Value.int .u8 ((markH h1 h2 15).toNat : Int))
      have e : markB l = (List.range 16).map (markH h1 h2) := by unfold markB; rw [HD1.out, HD2.out]
      rw [e]
      exact mark_fin13 (markH h1 h2) B15 L15 rfl
end Go.Proofs.Ytfebfpfmjdeedaa
