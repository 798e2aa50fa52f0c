/- make of marks; a row of marks written to.
   Conditions: those that each theorem names. -/
import Derived.Test.YtkdbbdlkfpjdfaaCloneM
import Derived.Test.YtkdbbdlkfpjdfaaBs
namespace Go.Proofs.Ytkdbbdlkfpjdfaa
set_option maxRecDepth 100000
set_option linter.unusedVariables false
set_option linter.unusedSimpArgs false
open Go.RowKit Go.Rg
def zM : List UInt8 := List.replicate 16 0
theorem zerosM16 (n : Nat) : Marks16 (List.replicate n zM) := fun m hm => by rw [(List.mem_replicate.1 hm).2]; rfl
theorem made_marks (n : Nat) : madeCells zeroMark (n * 16) = (rawM (List.replicate n zM)).flatten.toArray := by
  have hs := rawM_sized (zerosM16 n)
  have hfl := hs.flat
  rw [rawM_length, List.length_replicate] at hfl
  apply Array.ext
  · rw [size_madeCells, List.size_toArray, hfl]
  · intro k h1 h2
    rw [size_madeCells] at h1
    have hi : k / 16 < n := by omega
    have hv : (zM.map byteV)[k % 16]? = some (zeroMark[k % 16]!) := by
      have : k % 16 < 16 := Nat.mod_lt _ (by omega)
      have h16 : zeroMark.size = 16 := rfl
      rw [getElem!_pos zeroMark (k % 16) (by omega), ← Array.getElem?_eq_getElem, show zeroMark = (zM.map byteV).toArray from rfl, List.getElem?_toArray]
    have hg := hs.get (k / 16) (zM.map byteV) (by unfold rawM; rw [List.getElem?_map, List.getElem?_replicate, if_pos hi]; rfl) (k % 16) _ hv
    rw [show k / 16 * 16 + k % 16 = k by omega] at hg
    have e2 := (List.getElem?_eq_some_iff.1 hg).2
    have e3 : (rawM (List.replicate n zM)).flatten.toArray[k] = zeroMark[k % 16]! := by rw [List.getElem_toArray]; exact e2
    rw [e3]
    simp [madeCells]
theorem make_marks (n : Nat) (hn : n ≤ 1000000000) (w : World) :
    (Instr.makeSlice 28 (.int .i64 (n : Int)) (.int .i64 (n : Int))).run Try.prog w = .ok (.slice (some ⟨w.heap.size, 0, none⟩) n n) (w.alloc (.cells (rawM (List.replicate n zM)).flatten.toArray 23)) := by
  obtain ⟨i, hi, hz, hs, hb⟩ := info_parts infoM
  have := run_make w 28 23 i (.agg zeroMark) Try.underlying28 hi hz .i64 .i64 (n : Int) (n : Int) (by omega) (Int.le_refl _) (by rw [hb]; omega) (by omega)
  rw [Int.toNat_natCast, hs] at this
  rw [this]
  rw [← made_marks]; rfl
theorem RowM.made (lo n : Nat) (hn : n ≤ 1000000000) (w : World) (hlo : lo ≤ w.heap.size) : RowF lo 23 16 (w.alloc (.cells (rawM (List.replicate n zM)).flatten.toArray 23)) (.slice (some ⟨w.heap.size, 0, none⟩) n n) (rawM (List.replicate n zM)) := by
  have h := OwnV.made 23 16 w (rawM (List.replicate n zM)) (rawM_sized (zerosM16 n)) (by rw [rawM_length, List.length_replicate]; unfold maxLen; omega)
  rw [rawM_length, List.length_replicate] at h
  exact ⟨h, fun g hg => by cases hg; exact hlo⟩
theorem RowM.store {lo : Nat} {w : World} {g o n cap : Nat} {ms : List (List UInt8)} (h : RowF lo 23 16 w (.slice (some ⟨g, o, none⟩) n cap) (rawM ms)) {i : Nat} (hi : i < ms.length) {m : List UInt8} (hm : m.length = 16) :
    o = 0 ∧ (Instr.storeAt 23 (.pointer (some ⟨g, i * 16, none⟩)) (.agg (m.map byteV).toArray)).run Try.prog w = .ok () (w.setCells g (i * 16) (m.map byteV)) ∧ RowF lo 23 16 (w.setCells g (i * 16) (m.map byteV)) (.slice (some ⟨g, o, none⟩) n cap) (rawM (ms.set i m)) := by
  obtain ⟨h0, hg, ht, ho⟩ := h.own.store rfl (i := i) (by rw [rawM_length]; exact hi) (c := m.map byteV) (by rw [List.length_map, hm]) (byteV_one m)
  refine ⟨h0, run_storeAt_mid (P := Try.prog) w g (i * 16) 23 (m.map byteV).toArray (by rw [List.size_toArray, List.length_map, hm]; exact ht) (by rw [List.size_toArray, List.length_map, hm]; kernel_rfl) (all_oneCell_toArray (byteV_one m)), ?_, h.fresh⟩
  unfold rawM at ho ⊢
  rw [List.map_set]
  exact ho
end Go.Proofs.Ytkdbbdlkfpjdfaa
