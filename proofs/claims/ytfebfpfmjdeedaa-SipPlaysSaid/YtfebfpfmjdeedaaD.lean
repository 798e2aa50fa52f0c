/- Contracts of package sip: seeds and marks.
   Conditions: those that each theorem names. -/
import Derived.Test.YtfebfpfmjdeedaaC
namespace Go.Proofs.Ytfebfpfmjdeedaa
open Go.RowKit Go.Rg
attribute [local go_sem] Rg.q_add Rg.q_add' Rg.q_xor Rg.q_or Rg.q_and
/-! ### Seeds and marks -/
def sA (n : Int) : UInt64 := UInt64.ofNat (n % 18446744073709551616).toNat
def sB (n : Int) : UInt64 := 18446744073709551615 ^^^ sA n
theorem U_sA (n : Int) : IntKind.u64.wrap n = U (sA n) := by
  rw [wrap_u64]; unfold U sA
  rw [UInt64.toNat_ofNat']; omega
abbrev seedV (n : Int) : Value := keyV (sA n) (sB n)
theorem seed_any (n : Int) (w : World) : Calls Try.prog 14 #[.int .i64 n] w fun e w' => e = .returned (seedV n) ∧ Below w.heap.size w w' := by
  have E1 := U_sA n
  have E2 : bits .xor .u64 IntKind.u64.max (U (sA n)) = U (sB n) := by rw [show IntKind.u64.max = U 18446744073709551615 from rfl]; exact q_xor 18446744073709551615 (sA n)
  have E3 : IntKind.u64.signed = false := rfl
  go_enter Try.func14, Try.ntmps14
  go_wp2_with fail
  exact bodyPost_ret (v := seedV n) (by simp [results, Try.results14, go_sem]) rfl ⟨rfl, (Below.refl _ _).alloc (Nat.le_refl _) _⟩

def mb (h : UInt64) (k : Nat) : UInt8 := (h >>> (8 * (7 - k)).toUInt64).toUInt8
def markH (h1 h2 : UInt64) (j : Nat) : UInt8 := if j < 8 then mb h1 j else mb h2 (j - 8)
def markB (l : List UInt8) : List UInt8 := (List.range 16).map (markH (hashS (sA 1) (sB 1) l) (hashS (sA 2) (sB 2) l))
def byteV (c : UInt8) : Value := .int .u8 (c.toNat : Int)
def markV (m : List UInt8) : Value := .agg (m.map byteV).toArray
/-- The first m bytes are there. -/
def arr (h1 h2 : UInt64) (m : Nat) : List Value := (List.range 16).map fun j => if j < m then byteV (markH h1 h2 j) else .int .u8 0
theorem arr_set (h1 h2 : UInt64) (m : Nat) : (arr h1 h2 m).set m (byteV (markH h1 h2 m)) = arr h1 h2 (m + 1) := by
  apply List.ext_getElem
  · simp [arr]
  · intro j hj1 hj2
    simp only [arr, List.getElem_set, List.getElem_map, List.getElem_range]
    by_cases e : m = j
    · subst e; simp
    · rw [if_neg e]
      by_cases h : j < m
      · rw [if_pos h, if_pos (by omega)]
      · rw [if_neg h, if_neg (by omega)]

theorem fill {w : World} {b : Nat} {T : TypeId} {pre post : List Value} {x v : Value} (i : Nat) (hi : i = pre.length) (h : w.heap[b]? = some (.cells (pre ++ x :: post).toArray T (0, 0))) :
    (w.setCell ⟨b, i, none⟩ v).heap[b]? = some (.cells ((pre ++ [v]) ++ post).toArray T (0, 0)) := by
  subst hi
  refine (block_set _ h).trans ?_
  simp
theorem mark_fin {w wF : World} {ts : Array Value} (m : Nat → UInt8) (B : wF.heap[w.heap.size]? = some (.cells #[.int .u8 ((m 0).toNat : Int), .int .u8 ((m 1).toNat : Int), .int .u8 ((m 2).toNat : Int), .int .u8 ((m 3).toNat : Int), .int .u8 ((m 4).toNat : Int), .int .u8 ((m 5).toNat : Int), .int .u8 ((m 6).toNat : Int), .int .u8 ((m 7).toNat : Int), .int .u8 ((m 8).toNat : Int), .int .u8 ((m 9).toNat : Int), .int .u8 ((m 10).toNat : Int), .int .u8 ((m 11).toNat : Int), .int .u8 ((m 12).toNat : Int), .int .u8 ((m 13).toNat : Int), .int .u8 ((m 14).toNat : Int), .int .u8 ((m 15).toNat : Int)] 32 (0, 0))) (L : Below w.heap.size w wF) (h : ts[2]? = some (.pointer (some ⟨w.heap.size, 0, none⟩))) :
    bodyPost Try.prog Try.f12 (fun e w' => e = .returned (markV ((List.range 16).map m)) ∧ Below w.heap.size w w') Exit.ret { tmps := ts, defers := [] } wF := by
  have g : ∀ j, j < 16 → wF.cell? ⟨w.heap.size, j, none⟩ = some (.int .u8 ((m j).toNat : Int)) := by
    intro j hj
    simp only [World.cell?, B]
    rcases j with _|_|_|_|_|_|_|_|_|_|_|_|_|_|_|_|j <;> first | rfl | omega
  have g0 := g 0 (by omega)
  have g1 := g 1 (by omega)
  have g2 := g 2 (by omega)
  have g3 := g 3 (by omega)
  have g4 := g 4 (by omega)
  have g5 := g 5 (by omega)
  have g6 := g 6 (by omega)
  have g7 := g 7 (by omega)
  have g8 := g 8 (by omega)
  have g9 := g 9 (by omega)
  have g10 := g 10 (by omega)
  have g11 := g 11 (by omega)
  have g12 := g 12 (by omega)
  have g13 := g 13 (by omega)
  have g14 := g 14 (by omega)
  have g15 := g 15 (by omega)
  refine bodyPost_ret (v := markV ((List.range 16).map m)) ?_ rfl ⟨rfl, L⟩
  simp [results, Try.results12, go_sem, h, g0, g1, g2, g3, g4, g5, g6, g7, g8, g9, g10, g11, g12, g13, g14, g15]
  rfl

set_option maxRecDepth 100000 in
set_option maxHeartbeats 2000000 in
theorem mark_any (v : Value) (ls : List (List UInt8)) (w : World) (hr : RowsAt w v ls) (hn : ls.flatten.length ≤ 1000000000000) (hk : ls.length ≤ 1000000000000) :
    Calls Try.prog 12 #[v] w fun e w' => e = .returned (markV (markB ls.flatten)) ∧ Below w.heap.size w w' := by
  go_enter Try.func12, Try.ntmps12
  go_wp2_with fail
  generalize hw1 : (w.alloc (.cells #[.int .u8 0, .int .u8 0, .int .u8 0, .int .u8 0, .int .u8 0, .int .u8 0, .int .u8 0, .int .u8 0, .int .u8 0, .int .u8 0, .int .u8 0, .int .u8 0, .int .u8 0, .int .u8 0, .int .u8 0, .int .u8 0] 32)).alloc (.cells #[.int .u8 0, .int .u8 0, .int .u8 0, .int .u8 0, .int .u8 0, .int .u8 0, .int .u8 0, .int .u8 0, .int .u8 0, .int .u8 0, .int .u8 0, .int .u8 0, .int .u8 0, .int .u8 0, .int .u8 0, .int .u8 0] 32) = w1
  generalize hh1 : hashS (sA 1) (sB 1) ls.flatten = h1
  generalize hh2 : hashS (sA 2) (sB 2) ls.flatten = h2
  have hB1 : Below w.heap.size w w1 := by rw [← hw1]; exact ((Below.refl _ _).alloc (Nat.le_refl _) _).alloc (by simp) _
  have hz1 : w1.heap.size = w.heap.size + 2 := by rw [← hw1]; simp
  have hb0 : w1.heap[w.heap.size]? = some (.cells (arr h1 h2 0).toArray 32 (0, 0)) := by rw [← hw1]; exact (Below.heap_alloc _ _ _ (by simp)).trans (World.alloc_heap_new _ _)
  have hb1 : w1.heap[w.heap.size + 1]? = some (.cells (arr h1 h2 0).toArray 32 (0, 0)) := by
    rw [← hw1, show w.heap.size + 1 = (w.alloc (.cells #[.int .u8 0, .int .u8 0, .int .u8 0, .int .u8 0, .int .u8 0, .int .u8 0, .int .u8 0, .int .u8 0, .int .u8 0, .int .u8 0, .int .u8 0, .int .u8 0, .int .u8 0, .int .u8 0, .int .u8 0, .int .u8 0] 32)).heap.size by simp]
    exact World.alloc_heap_new _ _
  have HB0 := Lib.hid hb0
  have HB1 := Lib.hid hb1
  have HH1 := Lib.hid hh1
  have HH2 := Lib.hid hh2
  have HR := Lib.hid hr
  clear hw1 hb0 hb1 hh1 hh2 hr
  go_loopw [4, 5, 6, 7] (fun _ _ _ c wr => ∃ i : Nat, i ≤ 2 ∧ c = .int .i64 i ∧ Hid (wr.heap[w.heap.size]? = some (.cells (arr h1 h2 0).toArray 32 (0, 0))) ∧ Hid (wr.heap[w.heap.size + 1]? = some (.cells (arr h1 h2 (8 * i)).toArray 32 (0, 0))) ∧ Below w.heap.size w wr ∧ w.heap.size + 2 ≤ wr.heap.size) (fun _ _ _ c _ => 2 - (intOf c).toNat)
  case atStart => exact ⟨0, by omega, rfl, HB0, HB1, hB1, by omega⟩
  case round =>
    obtain ⟨i, hi, rfl, hb0, hb1, hB, hz⟩ := hrel
    by_cases hil : i < 2
    · have e1 : decide ((i : Int) < 2) = true := decide_eq_true (by omega)
      go_wp2_with fail
      refine (seed_any ((i : Int) + 1) _).mono ?_
      rintro e w2 ⟨rfl, hB2⟩
      go_wp2_with fail
      refine (hash_any _ _ v ls _ ((HR.out.below hB).below hB2) hn hk).mono ?_
      rintro e w3 ⟨rfl, hB3⟩
      have hB23 : Below wr.heap.size wr w3 := hB2.trans (hB3.mono hB2.size)
      have hb0' : w3.heap[w.heap.size]? = some (.cells (arr h1 h2 0).toArray 32 (0, 0)) := (hB23.block _ (by omega)).trans hb0.out
      have hb1' : w3.heap[w.heap.size + 1]? = some (.cells (arr h1 h2 (8 * i)).toArray 32 (0, 0)) := (hB23.block _ (by omega)).trans hb1.out
      have hBw : Below w.heap.size w w3 := hB.trans (hB23.mono hB.size)
      have hzw : w.heap.size + 2 ≤ w3.heap.size := Nat.le_trans hz hB23.size
      obtain ⟨hv, hhv⟩ : ∃ hv, hv = hashS (sA ((i : Int) + 1)) (sB ((i : Int) + 1)) ls.flatten := ⟨_, rfl⟩
      have hmk : ∀ k, k < 8 → markH h1 h2 (8 * i + k) = mb hv k := by
        intro k hk
        obtain rfl | rfl : i = 0 ∨ i = 1 := by omega
        · rw [hhv, show ((0 : Nat) : Int) + 1 = 1 from rfl, HH1.out]
          unfold markH; rw [if_pos (by omega)]; congr 1; omega
        · rw [hhv, show ((1 : Nat) : Int) + 1 = 2 from rfl, HH2.out]
          unfold markH; rw [if_neg (by omega)]; congr 1; omega
      rw [← hhv]
      have HM := Lib.hid hmk
      have HB0' := Lib.hid hb0'
      have HB1' := Lib.hid hb1'
      have u0 := U_nonneg hv
      have u1 := U_lt hv
      clear hhv hmk hb0' hb1' hb0 hb1 hB hB2 hB3 hB23
      go_wp2_with fail
      go_loopw [6, 15] (fun _ c wr => ∃ k : Nat, k ≤ 8 ∧ c = .int .i64 k ∧ Hid (wr.heap[w.heap.size]? = some (.cells (arr h1 h2 0).toArray 32 (0, 0))) ∧ Hid (wr.heap[w.heap.size + 1]? = some (.cells (arr h1 h2 (8 * i + k)).toArray 32 (0, 0))) ∧ Below w.heap.size w wr ∧ w.heap.size + 2 ≤ wr.heap.size) (fun _ c _ => 8 - (intOf c).toNat)
      case atStart => exact ⟨0, by omega, rfl, HB0', HB1', hBw, hzw⟩
      case round =>
        obtain ⟨k, hk8, rfl, hb0, hb1, hB, hz⟩ := hrel
        by_cases hkl : k < 8
        · have e2 : decide ((k : Int) < 8) = true := decide_eq_true (by omega)
          have f := freeS hb1.out (8 * i + k)
          have hl : 8 * i + k < (arr h1 h2 (8 * i + k)).length := by simp [arr]; omega
          have hx : wr.cell? ⟨w.heap.size + 1, 8 * i + k, none⟩ = some ((arr h1 h2 (8 * i + k))[8 * i + k]'hl) := by
            simp only [World.cell?, hb1.out]
            simp
          have E1 : IntKind.u8.wrap (U hv / 2 ^ (8 * (7 - k))) = ((mb hv k).toNat : Int) := by
            rw [q_shr hv _ (by omega), IntKind.wrap_u8]; unfold U mb; simp
          generalize hc : mb hv k = c at *
          have HC := Lib.hid hc
          clear hc
          go_wp2_with fail
          refine ⟨⟨k + 1, by omega, by go_num, Lib.hid ?_, Lib.hid ?_, hB.setCell (by simp) _, ?_⟩, by simp [intOf]; omega⟩
          · exact (Below.heap_setCell _ _ _ _ (by simp)).trans hb0.out
          · refine Eq.trans (block_set _ hb1.out) ?_
            have e3 : (Value.int IntKind.u8 (c.toNat : Int)) = byteV (markH h1 h2 (8 * i + k)) := by rw [HM.out k hkl, HC.out]; rfl
            rw [e3, List.setIfInBounds_toArray, arr_set]; rfl
          · show _ ≤ (wr.heap.modify _ _).size
            rw [Array.size_modify]; exact hz
        · have e2 : decide ((k : Int) < 8) = false := decide_eq_false (by omega)
          obtain rfl : k = 8 := by omega
          go_wp2_with fail
          exact ⟨⟨i + 1, by omega, by go_num, hb0, hb1, hB, hz⟩, by simp [intOf]; omega⟩
    · have e1 : decide ((i : Int) < 2) = false := decide_eq_false (by omega)
      obtain rfl : i = 2 := by omega
      have g : ∀ j, j < 16 → wr.cell? ⟨w.heap.size + 1, j, none⟩ = some (.int .u8 ((markH h1 h2 j).toNat : Int)) := by
        intro j hj
        simp only [World.cell?, hb1.out]
        simp [arr, hj, byteV]
      have d : ∀ j, j < 16 → wr.cell? ⟨w.heap.size, j, none⟩ = some (.int .u8 0) := by
        intro j hj
        simp only [World.cell?, hb0.out]
        simp [arr, hj]
      have g0 := g 0 (by omega)
      have g1 := g 1 (by omega)
      have g2 := g 2 (by omega)
      have g3 := g 3 (by omega)
      have g4 := g 4 (by omega)
      have g5 := g 5 (by omega)
      have g6 := g 6 (by omega)
      have g7 := g 7 (by omega)
      have g8 := g 8 (by omega)
      have g9 := g 9 (by omega)
      have g10 := g 10 (by omega)
      have g11 := g 11 (by omega)
      have g12 := g 12 (by omega)
      have g13 := g 13 (by omega)
      have g14 := g 14 (by omega)
      have g15 := g 15 (by omega)
      have f0 := freeS hb0.out 0
      have f1 := freeS hb0.out 1
      have f2 := freeS hb0.out 2
      have f3 := freeS hb0.out 3
      have f4 := freeS hb0.out 4
      have f5 := freeS hb0.out 5
      have f6 := freeS hb0.out 6
      have f7 := freeS hb0.out 7
      have f8 := freeS hb0.out 8
      have f9 := freeS hb0.out 9
      have f10 := freeS hb0.out 10
      have f11 := freeS hb0.out 11
      have f12 := freeS hb0.out 12
      have f13 := freeS hb0.out 13
      have f14 := freeS hb0.out 14
      have f15 := freeS hb0.out 15
      have d0 := d 0 (by omega)
      have d1 := d 1 (by omega)
      have d2 := d 2 (by omega)
      have d3 := d 3 (by omega)
      have d4 := d 4 (by omega)
      have d5 := d 5 (by omega)
      have d6 := d 6 (by omega)
      have d7 := d 7 (by omega)
      have d8 := d 8 (by omega)
      have d9 := d 9 (by omega)
      have d10 := d 10 (by omega)
      have d11 := d 11 (by omega)
      have d12 := d 12 (by omega)
      have d13 := d 13 (by omega)
      have d14 := d 14 (by omega)
      have d15 := d 15 (by omega)
      clear g d
      go_wp2_with fail
      have hb0' : wr.heap[w.heap.size]? = some (.cells ([] ++ [Value.int .u8 0, Value.int .u8 0, Value.int .u8 0, Value.int .u8 0, Value.int .u8 0, Value.int .u8 0, Value.int .u8 0, Value.int .u8 0, Value.int .u8 0, Value.int .u8 0, Value.int .u8 0, Value.int .u8 0, Value.int .u8 0, Value.int .u8 0, Value.int .u8 0, Value.int .u8 0]).toArray 32 (0, 0)) := hb0.out
      have B0 := fill (v := Value.int .u8 ((markH h1 h2 0).toNat : Int)) 0 rfl hb0'
      have B1 := fill (v := Value.int .u8 ((markH h1 h2 1).toNat : Int)) 1 rfl B0
      have B2 := fill (v := Value.int .u8 ((markH h1 h2 2).toNat : Int)) 2 rfl B1
      have B3 := fill (v := Value.int .u8 ((markH h1 h2 3).toNat : Int)) 3 rfl B2
      have B4 := fill (v := Value.int .u8 ((markH h1 h2 4).toNat : Int)) 4 rfl B3
      have B5 := fill (v := Value.int .u8 ((markH h1 h2 5).toNat : Int)) 5 rfl B4
      have B6 := fill (v := Value.int .u8 ((markH h1 h2 6).toNat : Int)) 6 rfl B5
      have B7 := fill (v := Value.int .u8 ((markH h1 h2 7).toNat : Int)) 7 rfl B6
      have B8 := fill (v := Value.int .u8 ((markH h1 h2 8).toNat : Int)) 8 rfl B7
      have B9 := fill (v := Value.int .u8 ((markH h1 h2 9).toNat : Int)) 9 rfl B8
      have B10 := fill (v := Value.int .u8 ((markH h1 h2 10).toNat : Int)) 10 rfl B9
      have B11 := fill (v := Value.int .u8 ((markH h1 h2 11).toNat : Int)) 11 rfl B10
      have B12 := fill (v := Value.int .u8 ((markH h1 h2 12).toNat : Int)) 12 rfl B11
      have B13 := fill (v := Value.int .u8 ((markH h1 h2 13).toNat : Int)) 13 rfl B12
      have B14 := fill (v := Value.int .u8 ((markH h1 h2 14).toNat : Int)) 14 rfl B13
      have B15 := fill (v := Value.int .u8 ((markH h1 h2 15).toNat : Int)) 15 rfl B14
      have L0 := hB.setCell (p := ⟨w.heap.size, 0, none⟩) (Nat.le_refl _) (Value.int .u8 ((markH h1 h2 0).toNat : Int))
      have L1 := L0.setCell (p := ⟨w.heap.size, 1, none⟩) (Nat.le_refl _) (Value.int .u8 ((markH h1 h2 1).toNat : Int))
      have L2 := L1.setCell (p := ⟨w.heap.size, 2, none⟩) (Nat.le_refl _) (Value.int .u8 ((markH h1 h2 2).toNat : Int))
      have L3 := L2.setCell (p := ⟨w.heap.size, 3, none⟩) (Nat.le_refl _) (Value.int .u8 ((markH h1 h2 3).toNat : Int))
      have L4 := L3.setCell (p := ⟨w.heap.size, 4, none⟩) (Nat.le_refl _) (Value.int .u8 ((markH h1 h2 4).toNat : Int))
      have L5 := L4.setCell (p := ⟨w.heap.size, 5, none⟩) (Nat.le_refl _) (Value.int .u8 ((markH h1 h2 5).toNat : Int))
      have L6 := L5.setCell (p := ⟨w.heap.size, 6, none⟩) (Nat.le_refl _) (Value.int .u8 ((markH h1 h2 6).toNat : Int))
      have L7 := L6.setCell (p := ⟨w.heap.size, 7, none⟩) (Nat.le_refl _) (Value.int .u8 ((markH h1 h2 7).toNat : Int))
      have L8 := L7.setCell (p := ⟨w.heap.size, 8, none⟩) (Nat.le_refl _) (Value.int .u8 ((markH h1 h2 8).toNat : Int))
      have L9 := L8.setCell (p := ⟨w.heap.size, 9, none⟩) (Nat.le_refl _) (Value.int .u8 ((markH h1 h2 9).toNat : Int))
      have L10 := L9.setCell (p := ⟨w.heap.size, 10, none⟩) (Nat.le_refl _) (Value.int .u8 ((markH h1 h2 10).toNat : Int))
      have L11 := L10.setCell (p := ⟨w.heap.size, 11, none⟩) (Nat.le_refl _) (Value.int .u8 ((markH h1 h2 11).toNat : Int))
      have L12 := L11.setCell (p := ⟨w.heap.size, 12, none⟩) (Nat.le_refl _) (Value.int .u8 ((markH h1 h2 12).toNat : Int))
      have L13 := L12.setCell (p := ⟨w.heap.size, 13, none⟩) (Nat.le_refl _) (Value.int .u8 ((markH h1 h2 13).toNat : Int))
      have L14 := L13.setCell (p := ⟨w.heap.size, 14, none⟩) (Nat.le_refl _) (Value.int .u8 ((markH h1 h2 14).toNat : Int))
      have L15 := L14.setCell (p := ⟨w.heap.size, 15, none⟩) (Nat.le_refl _) (Value.int .u8 ((markH h1 h2 15).toNat : Int))
      have e : markB ls.flatten = (List.range 16).map (markH h1 h2) := by unfold markB; rw [HH1.out, HH2.out]
      rw [e]
      exact mark_fin (markH h1 h2) B15 L15 rfl
end Go.Proofs.Ytfebfpfmjdeedaa
