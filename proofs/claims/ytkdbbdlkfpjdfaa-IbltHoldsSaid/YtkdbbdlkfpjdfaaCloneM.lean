/- A copy of a list of marks.
   Conditions: those that each theorem names. -/
import Derived.Test.YtkdbbdlkfpjdfaaMarks
import Derived.Test.YtkdbbdlkfpjdfaaBs
import Derived.Test.YtkdbbdlkfpjdfaaPn
namespace Go.Proofs.Ytkdbbdlkfpjdfaa
set_option maxRecDepth 100000
set_option linter.unusedVariables false
set_option linter.unusedSimpArgs false
open Go.RowKit Go.Rg
def rawM (ms : List (List UInt8)) : List (List Value) := ms.map (List.map byteV)
theorem rawM_sized {ms : List (List UInt8)} (h : Marks16 ms) : Sized 16 (rawM ms) := by
  intro c hc
  obtain ⟨m, hm, rfl⟩ := List.mem_map.1 hc
  exact ⟨by rw [List.length_map]; exact h m hm, byteV_one m⟩
theorem rawM_length (ms : List (List UInt8)) : (rawM ms).length = ms.length := List.length_map _
theorem marksAt_iff {w : World} {v : Value} {ms : List (List UInt8)} : MarksAt w v ms ↔ SlV 16 w v (rawM ms) := by
  unfold MarksAt SlV
  simp only [rawM_length]
  constructor
  · rintro ⟨p, cap, rfl, hc, hf⟩
    refine ⟨p, cap, rfl, hc, fun i c hi => ?_⟩
    unfold rawM at hi
    rw [List.getElem?_map, Option.map_eq_some_iff] at hi
    obtain ⟨m, hm, rfl⟩ := hi
    exact hf i m hm
  · rintro ⟨p, cap, rfl, hc, hf⟩
    refine ⟨p, cap, rfl, hc, fun i m hi => ?_⟩
    exact hf i _ (by unfold rawM; rw [List.getElem?_map, hi]; rfl)
theorem infoM : (Try.prog.info? 23).map (fun i => (i.zero, i.size, i.bytes)) = some (some (.agg zeroMark), 16, 16) := by kernel_rfl
theorem MarksAt.kept {w w' : World} {v : Value} {l : List (List UInt8)} (h : MarksAt w v l) (hB : ∀ k, v.ownBlock = some k → k < w.heap.size → w'.heap[k]? = w.heap[k]?) (hz : w.heap.size ≤ w'.heap.size) : MarksAt w' v l :=
  marksAt_iff.2 ((marksAt_iff.1 h).kept hB hz)
theorem MarksAt.keep {w w' : World} {v : Value} {l : List (List UInt8)} (h : MarksAt w v l) (hB : ∀ k, v.ownBlock = some k → w'.heap[k]? = w.heap[k]?) : MarksAt w' v l := by
  obtain ⟨p, cap, rfl, hc, hf⟩ := h
  refine ⟨p, cap, rfl, hc, fun i m hi => ?_⟩
  obtain ⟨g, o, rfl, hg, hr⟩ := hf i m hi
  have he := hB g rfl
  refine ⟨g, o, rfl, ?_, range_kept hr he⟩
  rw [Array.getElem?_eq_getElem hg] at he
  exact (Array.getElem?_eq_some_iff.1 he).1
/-! ### Marks that know their length -/
abbrev Mk := { m : List UInt8 // m.length = 16 }
def vals (ms : List Mk) : List (List UInt8) := ms.map Subtype.val
theorem vals_length (ms : List Mk) : (vals ms).length = ms.length := List.length_map _
theorem vals16 (ms : List Mk) : Marks16 (vals ms) := by
  intro m hm
  obtain ⟨x, _, rfl⟩ := List.mem_map.1 hm
  exact x.2
theorem vals_get {ms : List Mk} {i : Nat} {x : Mk} (h : ms[i]? = some x) : (vals ms)[i]? = some x.1 := by unfold vals; rw [List.getElem?_map, h]; rfl
theorem toMk : ∀ {l : List (List UInt8)}, Marks16 l → ∃ ms : List Mk, vals ms = l
  | [], _ => ⟨[], rfl⟩
  | m :: t, h => by
    obtain ⟨ms, hms⟩ := toMk (fun x hx => h x (by simp [hx]) : Marks16 t)
    exact ⟨⟨m, h m (by simp)⟩ :: ms, by unfold vals at *; rw [List.map_cons, hms]⟩
end Go.Proofs.Ytkdbbdlkfpjdfaa
