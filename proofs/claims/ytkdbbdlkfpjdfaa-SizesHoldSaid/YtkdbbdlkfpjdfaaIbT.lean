/- Sketches: From.
   Conditions: those that each theorem names. -/
import Derived.Test.YtkdbbdlkfpjdfaaIbC
namespace Go.Proofs.Ytkdbbdlkfpjdfaa
set_option maxRecDepth 100000
set_option linter.unusedVariables false
set_option linter.unusedSimpArgs false
open Go.RowKit Go.Rg
set_option maxHeartbeats 1000000 in
theorem cfrom_yes (v : Value) (cs : List Ce) (w : World) (h : CellsAt w v cs) (hk : Oks cs) (hf : fitsC (cs.length : Int)) :
    Calls Try.prog 48 #[v] w fun e w' => ∃ k' v', e = .returned (.tuple #[ptr k', .int .i64 0]) ∧ SkAt k' v' cs w' ∧ w.heap.size ≤ k' ∧ (∀ g, v'.ownBlock = some g → w.heap.size ≤ g) ∧ Below w.heap.size w w' := by
  have hn : cs.length ≤ 1000000 := by have := hf.2.1; omega
  have kT := cfits_yes _ hf
  have kC := cells_clone _ cs w h hk.all16 (by omega)
  obtain ⟨p, c, rfl, _⟩ := id h
  have HK := Lib.hid hk
  have KT := Lib.hid kT
  have KC := Lib.hid kC
  clear h hf hn kT kC
  go_enter Try.func48, Try.ntmps48
  go_wp2_with fail
  refine (KT.out w).mono ?_
  rintro e w' ⟨rfl, rfl⟩
  go_wp2_with fail
  refine KC.out.mono ?_
  rintro e w1 ⟨v', rfl, ho, hf, hB⟩
  obtain ⟨p', c', rfl, _, _, _⟩ := ho.shape
  rw [rawC_length] at ho hf ⊢
  have HO := Lib.hid ho
  have HF := Lib.hid hf
  have HB := Lib.hid hB
  clear ho hf hB
  go_wp2_with fail
  refine bodyPost_ret (v := .tuple #[ptr w1.heap.size, .int .i64 0]) (by simp [results, Try.results48, go_sem]) rfl ?_
  refine ⟨w1.heap.size, .slice p' cs.length c', rfl, ⟨World.alloc_heap_new _ _, HO.out.kept (fun g hg => Below.heap_alloc _ _ _ (HO.out.lt hg)), HK.out⟩, HB.out.size, HF.out, HB.out.alloc HB.out.size _⟩
set_option maxHeartbeats 1000000 in
theorem cfrom_no (v : Value) (cs : List Ce) (w : World) (h : CellsAt w v cs) (hf : ¬ fitsC (cs.length : Int)) :
    Calls Try.prog 48 #[v] w fun e w' => e = .returned (.tuple #[.pointer none, .int .i64 2]) ∧ Below w.heap.size w w' := by
  have kT := cfits_no _ hf
  obtain ⟨p, c, rfl, _⟩ := id h
  have KT := Lib.hid kT
  clear h hf kT
  go_enter Try.func48, Try.ntmps48
  go_wp2_with fail
  refine (KT.out w).mono ?_
  rintro e w' ⟨rfl, rfl⟩
  go_wp2_with fail
  refine bodyPost_ret (v := .tuple #[.pointer none, .int .i64 2]) (by simp [results, Try.results48, go_sem]) rfl ?_
  exact ⟨rfl, Below.refl _ _⟩
end Go.Proofs.Ytkdbbdlkfpjdfaa
