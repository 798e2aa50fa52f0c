/- A copy of a list of cells.
   Conditions: those that each theorem names. -/
import Derived.Test.YtkdbbdlkfpjdfaaCelS
import Derived.Test.YtkdbbdlkfpjdfaaBs
import Derived.Test.YtkdbbdlkfpjdfaaPn
namespace Go.Proofs.Ytkdbbdlkfpjdfaa
set_option maxRecDepth 100000
set_option linter.unusedVariables false
set_option linter.unusedSimpArgs false
open Go.RowKit Go.Rg
def rawC (ms : List Ce) : List (List Value) := ms.map Ce.vals
theorem rawC_sized {ms : List Ce} (h : All16 ms) : Sized 18 (rawC ms) := by
  intro c hc
  obtain ⟨m, hm, rfl⟩ := List.mem_map.1 hc
  exact ⟨m.vals_length (h m hm), m.one⟩
theorem rawC_length (ms : List Ce) : (rawC ms).length = ms.length := List.length_map _
theorem cellsAt_iff {w : World} {v : Value} {ms : List Ce} : CellsAt w v ms ↔ SlV 18 w v (rawC ms) := by
  unfold CellsAt SlV
  simp only [rawC_length]
  constructor
  · rintro ⟨p, cap, rfl, hc, hf⟩
    refine ⟨p, cap, rfl, hc, fun i c hi => ?_⟩
    unfold rawC at hi
    rw [List.getElem?_map, Option.map_eq_some_iff] at hi
    obtain ⟨m, hm, rfl⟩ := hi
    exact hf i m hm
  · rintro ⟨p, cap, rfl, hc, hf⟩
    refine ⟨p, cap, rfl, hc, fun i m hi => ?_⟩
    exact hf i _ (by unfold rawC; rw [List.getElem?_map, hi]; rfl)
theorem infoCe : (Try.prog.info? 26).map (fun i => (i.zero, i.size, i.bytes)) = some (some (.agg zeroCells), 18, 32) := by kernel_rfl
set_option maxHeartbeats 2000000 in
theorem cells_clone (v : Value) (l : List Ce) (w : World) (h : CellsAt w v l) (h16 : All16 l) (hn : l.length ≤ 1000000000) :
    Calls Try.prog 86 #[v] w fun e w' => ∃ v', e = .returned v' ∧ OwnV 26 18 w' v' (rawC l) ∧ (∀ k, v'.ownBlock = some k → w.heap.size ≤ k) ∧ Below w.heap.size w w' := by
  have hs := cellsAt_iff.1 h
  have hz := rawC_sized h16
  obtain ⟨p, cap, rfl, hc, hf⟩ := id h
  obtain ⟨i0, hi0, hz0, hz1, hz2⟩ := info_parts infoCe
  have q29 : ∀ (w : World) (a : Option Addr) (n c n' c' : Nat), (binOp .eql 27 (.slice a n c) (.slice none n' c')).run Try.prog w = .ok (.bool a.isNone) w := fun w a n c n' c' => Lib.run_eql_slice_nil w _ _ a n c n' c' Try.underlying27
  go_enter Try.func86, Try.ntmps86
  cases p with
  | none =>
    have h0 : l = [] := by
      cases l with
      | nil => rfl
      | cons c l => obtain ⟨g, o, e, _⟩ := hf 0 c (by simp); cases e
    subst h0
    go_wp2_with fail
    go_ret
    refine ⟨.slice none 0 0, rfl, OwnV.nil _ _ _, ?_, Below.refl _ _⟩
    intro k hk
    simp [Value.ownBlock] at hk
  | some ad =>
    have hr : (w.alloc (.cells #[] 26)).ownsRow w.heap.size 26 18 (.slice (some ⟨w.heap.size, 0, none⟩) 0 0) 0 [] := World.ownsRow_made w #[] 0 (Nat.le_refl _) (Nat.zero_le _) rfl
    have hB := (Below.refl w.heap.size w).alloc (Nat.le_refl _) (.cells #[] 26)
    have hs1 := hs.below hB
    rw [← rawC_length] at hs1
    have HC := Lib.hid (hs1.cells hz)
    have hl : (rawC l).flatten.length = l.length * 18 := by rw [hz.flat, rawC_length]
    have hm : 0 + l.length ≤ maxLen := by unfold maxLen; omega
    have hm2 : (0 + l.length) * 32 ≤ 140737488355328 := by omega
    have hone := hz.one
    clear hf hs hs1
    go_wp2_with (at_builtin; refine wpList_append_own_at _ rfl _ _ 27 rfl w.heap.size 26 i0 (.agg zeroCells) 18 32 Try.underlying27 hi0 hz0 hz1 hz2 rfl (by decide) _ 0 [] rfl hr ad l.length cap (rawC l).flatten rfl hl HC.out hone hm hm2 hB.size ?_)
    intro v' w' ho hg hni hat
    have hB2 : Below w.heap.size w w' := hB.grown hg hB.size (fun k hk => by cases hk; exact Nat.le_refl _)
    go_wp2_with fail
    go_ret
    refine ⟨v', rfl, ?_, ?_, hB2⟩
    · have h0 := OwnV.mk (css := []) (dss := rawC l) (n := 0 + l.length) (by simpa using ho) (Sized.nil _) hz (by simp [rawC_length])
      simpa using h0
    · intro k hk
      exact (World.ownsRow.lt ho k hk).1
end Go.Proofs.Ytkdbbdlkfpjdfaa
