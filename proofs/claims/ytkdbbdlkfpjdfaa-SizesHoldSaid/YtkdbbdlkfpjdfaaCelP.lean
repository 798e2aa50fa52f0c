/- Cells written.
   Conditions: those that each theorem names. -/
import Derived.Test.YtkdbbdlkfpjdfaaCelB
import Derived.Test.YtkdbbdlkfpjdfaaPn
namespace Go.Proofs.Ytkdbbdlkfpjdfaa
set_option maxRecDepth 100000
set_option linter.unusedVariables false
set_option linter.unusedSimpArgs false
open Go.RowKit Go.Rg
attribute [local go_sem] Rg.q_add Rg.q_add' Rg.q_xor Rg.q_or Rg.q_and markV cellV
def eightL (h : UInt64) : List UInt8 := (List.range 8).map (mb h)
def eightP (h : UInt64) (i : Nat) : List UInt8 := (List.range 8).map fun j => if j < i then mb h j else 0
theorem eightP_zero (h : UInt64) : eightP h 0 = List.replicate 8 0 := by simp [eightP, List.range_succ]
theorem eightP_all (h : UInt64) : eightP h 8 = eightL h := by
  apply List.map_congr_left
  intro j hj
  rw [if_pos (List.mem_range.1 hj)]
theorem eightP_set (h : UInt64) (i : Nat) (hi : i < 8) : (eightP h i).set i (mb h i) = eightP h (i + 1) := by
  apply List.ext_getElem
  · simp [eightP]
  · intro j h1 h2
    simp only [eightP, List.getElem_set, List.getElem_map, List.getElem_range]
    by_cases e : i = j
    · subst e; simp
    · rw [if_neg e]
      by_cases hj : j < i
      · rw [if_pos hj, if_pos (by omega)]
      · rw [if_neg hj, if_neg (by omega)]
theorem mb_wrap (h : UInt64) (i : Nat) (hi : i < 8) : IntKind.u8.wrap (U h / 2 ^ (8 * (7 - i))) = ((mb h i).toNat : Int) := by
  rw [q_shr h (8 * (7 - i)) (by omega), IntKind.wrap_u8]
  unfold U mb
  rw [UInt64.toNat_toUInt8]; omega
def Ce.right (c : Ce) : Bool := decide (-1048576 ≤ c.n ∧ c.n ≤ 1048576)
def Ce.bytes (c : Ce) : List UInt8 := numN (zigN c.n).toNat ++ c.m ++ eightL c.h
theorem pen_step {w w2 w3 : World} {b : Nat} {r r2 r3 : Option Nat} {l3 : List UInt8} (N2 : NewB w.heap.size r r2) (T2 : Touch (PenM b r) w w2) (h : NewB w2.heap.size r2 r3 ∧ PenAt b r3 l3 w3 ∧ Touch (PenM b r2) w2 w3) :
    NewB w.heap.size r r3 ∧ PenAt b r3 l3 w3 ∧ Touch (PenM b r) w w3 :=
  ⟨N2.trans h.1 T2.size, h.2.1, T2.trans h.2.2 (PenM.step N2)⟩
theorem pen_box {w2 w3 : World} {b k : Nat} {r2 r3 : Option Nat} {o : Obj} (N : NewB w2.heap.size r2 r3) (T : Touch (PenM b r2) w2 w3) (hk : w2.heap[k]? = some o) (hb : b ≠ k) (hr : r2 ≠ some k) : w3.heap[k]? = some o ∧ r3 ≠ some k := by
  refine ⟨T.keep hk ?_, ?_⟩
  · rintro (rfl | e)
    · exact hb rfl
    · exact hr e.symm
  · rcases N with rfl | ⟨j, rfl, hj⟩
    · exact hr
    · intro e; cases e; have := blk_lt hk; omega
set_option maxHeartbeats 2000000 in
theorem put_wrong (c : Ce) (hc : c.ok) (hr : c.right = false) (v : Value) (w : World) : Calls Try.prog 25 #[v, cellV c] w fun e w' => e = .returned (.bool false) ∧ Below w.heap.size w w' := by
  unfold cellV
  go_enter Try.func25, Try.ntmps25
  have h0 : CellAt w.heap.size 26 c (w.alloc (.cells c.vals.toArray 26)) := World.alloc_heap_new _ _
  have hB : Below w.heap.size w (w.alloc (.cells c.vals.toArray 26)) := (Below.refl _ _).alloc (Nat.le_refl _) _
  have L := h0.whole hc.m
  go_wp2_with (first | (refine wpList_load_at rfl _ _ rfl rfl (L) ?_))
  refine (right_any c hc _).mono ?_
  rintro e w2 ⟨rfl, hB2⟩
  have e1 : decide (-1048576 ≤ c.n ∧ c.n ≤ 1048576) = false := hr
  rw [e1]
  have hBB := hB.trans (hB2.mono hB.size)
  clear hB hB2 L h0
  go_wp2_with fail
  go_ret
  exact ⟨rfl, hBB⟩
set_option maxHeartbeats 2000000 in
theorem put_any (c : Ce) (hc : c.ok) (hr : c.right = true) (b : Nat) (r : Option Nat) (l : List UInt8) (w : World) (h : PenAt b r l w) (hn : l.length ≤ 100000000) :
    Calls Try.prog 25 #[ptr b, cellV c] w fun e w' => e = .returned (.bool true) ∧ ∃ r', NewB w.heap.size r r' ∧ PenAt b r' (l ++ c.bytes) w' ∧ Touch (PenM b r) w w' := by
  unfold cellV
  go_enter Try.func25, Try.ntmps25
  have h0 : CellAt w.heap.size 26 c (w.alloc (.cells c.vals.toArray 26)) := World.alloc_heap_new _ _
  have hB : Below w.heap.size w (w.alloc (.cells c.vals.toArray 26)) := (Below.refl _ _).alloc (Nat.le_refl _) _
  have L := h0.whole hc.m
  go_wp2_with (first | (refine wpList_load_at rfl _ _ rfl rfl (L) ?_))
  refine (right_any c hc _).mono ?_
  rintro e w2 ⟨rfl, hB2⟩
  have e1 : decide (-1048576 ≤ c.n ∧ c.n ≤ 1048576) = true := hr
  rw [e1]
  have hBB := hB.trans (hB2.mono hB.size)
  have k0 := h0.below hB2 (blk_lt h0)
  have hp := h.below hBB
  have hbl := h.lt
  have hbk : b ≠ w.heap.size := by omega
  have hrk : r ≠ some w.heap.size := fun e => by have := (hbl.2 _ e).1; omega
  have c0 := k0.n
  have HC := Lib.hid hc
  have T2 : Touch (PenM b r) w w2 := Touch.of_below hBB
  have hz : w.heap.size < w2.heap.size := blk_lt k0
  have K0 := Lib.hid k0
  have HP := Lib.hid hp
  have HT := Lib.hid T2
  clear hB hB2 L h0 e1 hc hBB hp k0 T2 h
  go_wp2_with fail
  refine (signed_any c.n b r l w2 HP.out (by omega) ⟨HC.out.lo, HC.out.hi⟩).mono ?_
  rintro e w3 ⟨⟨v3, rfl⟩, r3, h3⟩
  obtain ⟨k3, hr3⟩ := pen_box h3.1 h3.2.2 K0.out hbk hrk
  obtain ⟨N3, P3, T3⟩ := pen_step (NewB.refl _ _) HT.out h3
  have hz3 : w.heap.size < w3.heap.size := blk_lt k3
  have hby := mark_bytes (o := 1) k3 (m := c.m) (fun j hj => c.get_m j _ (by rw [List.getElem?_map, List.getElem?_eq_getElem hj]; rfl)) 16
  rw [HC.out.m] at hby
  have HY := Lib.hid hby
  have K3 : Hid (CellAt w.heap.size 26 c w3) := Lib.hid k3
  have HP3 := Lib.hid P3
  have HT3 := Lib.hid T3
  have HN3 := Lib.hid N3
  have hnl : (numN (zigN c.n).toNat).length ≤ 9 := by
    have := (zigN c.n).toNat_lt
    rw [numN_length]; unfold sizeN; split; omega; have := digits_lt 8 (zigN c.n).toNat (by omega); omega
  have hlen : (l ++ numN (zigN c.n).toNat).length ≤ 100000009 := by rw [List.length_append]; omega
  clear hby k3 P3 T3 N3 c0 h3
  go_wp2_with fail
  refine (fixed_any _ c.m b r3 _ w3 HP3.out HY.out (by rw [HC.out.m]; omega)).mono ?_
  rintro e w4 ⟨⟨v4, rfl⟩, r4, h4⟩
  obtain ⟨k4, hr4⟩ := pen_box h4.1 h4.2.2 K3.out hbk hr3
  obtain ⟨N4, P4, T4⟩ := pen_step HN3.out HT3.out h4
  have hz4 : w.heap.size < w4.heap.size := blk_lt k4
  have h8 : (w4.alloc (.cells #[.int .u8 0, .int .u8 0, .int .u8 0, .int .u8 0, .int .u8 0, .int .u8 0, .int .u8 0, .int .u8 0] 104)).heap[w4.heap.size]? = some (.cells ((eightP c.h 0).map byteV).toArray 104 (0, 0)) := by
    rw [eightP_zero]
    exact World.alloc_heap_new _ _
  have hA : Below w4.heap.size w4 (w4.alloc (.cells #[.int .u8 0, .int .u8 0, .int .u8 0, .int .u8 0, .int .u8 0, .int .u8 0, .int .u8 0, .int .u8 0] 104)) := (Below.refl _ _).alloc (Nat.le_refl _) _
  have H8 := Lib.hid h8
  have HA := Lib.hid hA
  have K4 : Hid (CellAt w.heap.size 26 c w4) := Lib.hid k4
  have HP4 := Lib.hid P4
  have HT4 := Lib.hid T4
  have HN4 := Lib.hid N4
  clear h8 hA k4 P4 T4 N4 h4
  go_wp2_with fail
  go_loopw [6, 18] (fun _ i wr => ∃ k : Nat, k ≤ 8 ∧ i = .int .i64 (k : Int) ∧ Hid (wr.heap[w4.heap.size]? = some (.cells ((eightP c.h k).map byteV).toArray 104 (0, 0))) ∧ Hid (Below w4.heap.size w4 wr)) (fun _ i _ => 8 - (intOf i).toNat)
  case atStart => exact ⟨0, by omega, rfl, H8, HA⟩
  case round =>
    obtain ⟨i, hi, rfl, H8, HA⟩ := hrel
    by_cases hil : i < 8
    · have e1 : decide ((i : Int) < 8) = true := decide_eq_true (by omega)
      have c0 := (K4.out.below HA.out hz4).h HC.out.m
      have c8 : wr.cell? ⟨w4.heap.size, i, none⟩ = some (byteV ((eightP c.h i)[i]?.getD 0)) := by
        rw [cell_at H8.out, List.getElem?_map]
        have : i < (eightP c.h i).length := by simp [eightP]; omega
        rw [List.getElem?_eq_getElem this]; rfl
      have f8 := free_of H8.out i
      have hsh : ((7 : Int) - (i : Int)) = ((7 - i : Nat) : Int) := by omega
      have hmw := mb_wrap c.h i hil
      have hst := set_cell i (byteV (mb c.h i)) H8.out
      rw [← List.map_set, eightP_set _ _ hil] at hst
      have HST := Lib.hid hst
      have hA2 := Lib.hid (HA.out.setCell (p := ⟨w4.heap.size, i, none⟩) (Nat.le_refl _) (byteV (mb c.h i)))
      unfold byteV at c8
      clear hst
      go_wp2_with fail
      go_roundw
      case rel => exact ⟨i + 1, by omega, by go_num, HST, hA2⟩
      case measure => simp [intOf]; omega
    · have e1 : decide ((i : Int) < 8) = false := decide_eq_false (by omega)
      obtain rfl : i = 8 := by omega
      have h8 := H8.out
      rw [eightP_all] at h8
      have hby := mark_bytes (o := 0) h8 (m := eightL c.h) (fun j hj => by rw [Nat.zero_add, List.getElem?_map, List.getElem?_eq_getElem hj]; rfl) 8
      have e8 : (eightL c.h).length = 8 := by simp [eightL]
      rw [e8] at hby
      have HY2 := Lib.hid hby
      have hP5 := Lib.hid (HP4.out.below HA.out)
      have hT5 := Lib.hid (HT4.out.trans (Touch.of_below (M := PenM b r) HA.out) (fun _ _ h => h))
      have hz5 := HA.out.size
      clear h8 hby
      go_wp2_with fail
      refine (fixed_any _ (eightL c.h) b r4 _ wr hP5.out HY2.out (by rw [e8, List.length_append, HC.out.m]; omega)).mono ?_
      rintro e w6 ⟨⟨v6, rfl⟩, r6, h6⟩
      obtain ⟨N6, P6, T6⟩ := pen_step HN4.out hT5.out h6
      rw [List.append_assoc, List.append_assoc, ← List.append_assoc (numN _)] at P6
      have HP6 := Lib.hid P6
      have HT6 := Lib.hid T6
      have HN6 := Lib.hid N6
      clear P6 T6 N6 h6
      go_wp2_with fail
      go_ret
      exact ⟨rfl, r6, HN6.out, HP6.out, HT6.out⟩
end Go.Proofs.Ytkdbbdlkfpjdfaa
