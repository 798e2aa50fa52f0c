/- The document's answers of law 10, read and written: Bytes, Mark.
   Conditions: those that each theorem names. -/
import Derived.Test.YtkdbbdlkfpjdfaaRef10
import Derived.Test.YtkdbbdlkfpjdfaaCelR
import Derived.Test.YtkdbbdlkfpjdfaaC10A
import Derived.Test.YtkdbbdlkfpjdfaaPq
import Derived.Test.YtkdbbdlkfpjdfaaSq
import Derived.IntWalk
namespace Go.Proofs.Ytkdbbdlkfpjdfaa
set_option maxRecDepth 100000
set_option linter.unusedVariables false
set_option linter.unusedSimpArgs false
open Go.RowKit Go.Rg
set_option linter.unusedVariables false
attribute [local go_sem] cellV ba_app
theorem full_take (l : List UInt8) (hl : l.length ≤ 16) (i : Nat) (c : UInt8) (hc : l[i]? = some c) : (full (l.take i)).set i c = full (l.take (i + 1)) := by
  have hi := (List.getElem?_eq_some_iff.1 hc).1
  have h1 : (l.take i).length = i := by rw [List.length_take]; omega
  have h2 : (l.take (i + 1)).length = i + 1 := by rw [List.length_take]; omega
  unfold full
  rw [List.set_append_right _ _ (by omega), h1, h2, Nat.sub_self, show 16 - i = (16 - (i + 1)) + 1 by omega, List.replicate_succ, List.set_cons_zero, List.take_add_one, hc]
  simp
set_option maxHeartbeats 2000000 in
theorem refmark_any (l : List UInt8) (hl : l.length ≤ 16) (w : World) : Calls Try.prog 76 #[str l] w fun e w' => e = .returned (.agg ((full l).map byteV).toArray) ∧ Below w.heap.size w w' := by
  go_enter Try.func76, Try.ntmps76
  go_wp2_with fail
  obtain ⟨w1, hw1⟩ : ∃ w1, w1 = (w.alloc (.cells zeroMark 23)).alloc (.cells zeroMark 23) := ⟨_, rfl⟩
  rw [← hw1]
  have h0 : w1.heap[w.heap.size]? = some (.cells ((full []).map byteV).toArray 23 (0, 0)) := by
    rw [hw1]
    exact (Below.heap_alloc _ _ _ (by simp)).trans (World.alloc_heap_new _ _)
  have h1 : w1.heap[w.heap.size + 1]? = some (.cells ((full []).map byteV).toArray 23 (0, 0)) := by
    rw [hw1, show w.heap.size + 1 = (w.alloc (.cells zeroMark 23)).heap.size by simp]
    exact World.alloc_heap_new _ _
  have hB : Below w.heap.size w w1 := by
    rw [hw1]
    exact ((Below.refl _ _).alloc (Nat.le_refl _) _).alloc (by simp) _
  have H0 := Lib.hid h0
  have H1 := Lib.hid h1
  replace hB := Lib.hid hB
  clear h0 h1 hw1
  go_loopw [4] (fun c wr => ∃ i : Nat, i ≤ l.length ∧ c = .int .i64 i ∧ Hid (wr.heap[w.heap.size + 1]? = some (.cells ((full (l.take i)).map byteV).toArray 23 (0, 0))) ∧ Hid (wr.heap[w.heap.size]? = some (.cells ((full []).map byteV).toArray 23 (0, 0))) ∧ Hid (Below w.heap.size w wr)) (fun c _ => l.length - (intOf c).toNat)
  case atStart => exact ⟨0, by omega, rfl, H1, H0, hB⟩
  case round =>
    obtain ⟨i, hi, rfl, HA, HZ, HW⟩ := hrel
    by_cases hil : i < l.length
    · have e1 : decide ((i : Int) < (l.length : Int)) = true := decide_eq_true (by omega)
      have i1 : (i : Int) < (l.length : Int) := by omega
      have i2 : (i : Int) < 16 := by omega
      obtain ⟨c, hc⟩ : ∃ c, l[i]? = some c := ⟨_, List.getElem?_eq_getElem hil⟩
      have hszb : i < (⟨l.toArray⟩ : ByteArray).size := by rw [bytes_size]; exact hil
      have hyi : (⟨l.toArray⟩ : ByteArray)[i]'hszb = c := (List.getElem?_eq_some_iff.1 hc).2
      have hft := full_take l hl i c hc
      have hlf : (full (l.take i)).length = 16 := full_length (by rw [List.length_take]; omega)
      have hcl := cell_at HA.out i
      obtain ⟨y, hy⟩ : ∃ y, (full (l.take i))[i]? = some y := ⟨_, List.getElem?_eq_getElem (by omega)⟩
      rw [List.getElem?_map, hy, Option.map_some] at hcl
      have hf := free_of HA.out i
      have K0 := set_cell i (byteV c) HA.out
      rw [← List.map_set, hft] at K0
      have K1 := (Below.heap_setCell wr ⟨w.heap.size + 1, i, none⟩ (byteV c) w.heap.size (by dsimp only; omega)).trans HZ.out
      have K2 := HW.out.setCell (p := ⟨w.heap.size + 1, i, none⟩) (by dsimp only; omega) (byteV c)
      have e3 : byteV c = .int .u8 (c.toNat : Int) := rfl
      rw [e3] at K0 K1 K2
      replace K0 := Lib.hid K0
      replace K1 := Lib.hid K1
      replace K2 := Lib.hid K2
      clear hft hy hc e3 HA HZ HW
      go_wp2_with fail
      go_roundw
      case rel => exact ⟨i + 1, by omega, by go_num, K0, K1, K2⟩
      case measure => simp [intOf]; omega
    · have e1 : decide ((i : Int) < (l.length : Int)) = false := decide_eq_false (by omega)
      have hA := HA.out
      rw [List.take_of_length_le (by omega)] at hA
      have hlf : (full l).length = 16 := full_length hl
      have hL := mark_whole hA hlf
      obtain ⟨s1, s2⟩ := mark_store HZ.out (m := full l) rfl hlf
      have hB2 := Below.setCells HW.out w.heap.size 0 ((full l).map byteV) (Nat.le_refl _)
      replace s2 := Lib.hid s2
      replace hB2 := Lib.hid hB2
      replace hlf := Lib.hid hlf
      clear hA HA HZ HW
      go_wp2_with (first | (refine wpList_load_at rfl _ _ rfl rfl (hL) ?_) | (refine wpList_store_at rfl _ _ _ rfl rfl rfl (s1) ?_))
      exact bodyPost_ret (v := .agg ((full l).map byteV).toArray) (results_cell_row rfl _ _ w.heap.size 23 ((full l).map byteV).toArray (0, 0) _ rfl s2.out Try.underlying23 rfl (by rw [List.size_toArray, List.length_map, hlf.out]; kernel_rfl)) rfl ⟨rfl, hB2.out⟩
end Go.Proofs.Ytkdbbdlkfpjdfaa
