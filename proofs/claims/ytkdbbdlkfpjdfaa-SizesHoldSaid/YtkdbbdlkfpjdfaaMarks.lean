/- Slices of marks that can be read; rows of marks; their opener.
   Conditions: those that each theorem names. -/
import Derived.Test.YtkdbbdlkfpjdfaaOpenC
namespace Go.Proofs.Ytkdbbdlkfpjdfaa
set_option maxRecDepth 100000
set_option linter.unusedVariables false
set_option linter.unusedSimpArgs false
open Go.RowKit Go.Rg Go.ChangeShapes Go.Joins Go.Deep
def Marks16 (ms : List (List UInt8)) : Prop := ∀ m ∈ ms, m.length = 16
def MarksAt (w : World) (v : Value) (ms : List (List UInt8)) : Prop :=
  ∃ p cap, v = .slice p ms.length cap ∧ ms.length ≤ cap ∧ ∀ i m, ms[i]? = some m → ∃ g o, p = some ⟨g, o, none⟩ ∧ g < w.heap.size ∧ w.rangeAt g (o + i * 16) (m.map byteV)
theorem MarksAt.below {w w' : World} {v : Value} {l : List (List UInt8)} (h : MarksAt w v l) (hB : Below w.heap.size w w') : MarksAt w' v l := by
  obtain ⟨p, cap, rfl, hc, hf⟩ := h
  refine ⟨p, cap, rfl, hc, fun i c hi => ?_⟩
  obtain ⟨g, o, e, hg, hr⟩ := hf i c hi
  exact ⟨g, o, e, Nat.lt_of_lt_of_le hg hB.size, rangeAt_below hr hB hg⟩
theorem mark_load_range {g o : Nat} {m : List UInt8} {X : World} (h : X.rangeAt g o (m.map byteV)) (hm : m.length = 16) : (Instr.loadAt 23 (.pointer (some ⟨g, o, none⟩))).run Try.prog X = .ok (.agg (m.map byteV).toArray) X :=
  run_loadAt_mid X g o 23 (m.map byteV) _ h Try.underlying23 rfl (by rw [List.length_map, hm]; kernel_rfl)
theorem MarksAt.load {w : World} {p : Option Addr} {n cap : Nat} {ms : List (List UInt8)} (h : MarksAt w (.slice p n cap) ms) (hm : Marks16 ms) {i : Nat} {m : List UInt8} (hi : ms[i]? = some m) :
    ∃ g o, p = some ⟨g, o, none⟩ ∧ g < w.heap.size ∧ ∀ X, Below w.heap.size w X → (Instr.loadAt 23 (.pointer (some ⟨g, o + i * 16, none⟩))).run Try.prog X = .ok (.agg (m.map byteV).toArray) X := by
  obtain ⟨q, cap', e, _, hf⟩ := h
  cases e
  obtain ⟨g, o, rfl, hg, hr⟩ := hf i m hi
  exact ⟨g, o, rfl, hg, fun X hX => mark_load_range (rangeAt_below hr hX hg) (hm m (List.mem_of_getElem? hi))⟩
theorem MarksAt.take {w : World} {p : Option Addr} {n cap : Nat} {cs : List (List UInt8)} (h : MarksAt w (.slice p n cap) cs) (k : Nat) (hk : k ≤ cs.length) : MarksAt w (.slice p k cap) (cs.take k) := by
  obtain ⟨q, cap', e, hc, hf⟩ := h
  cases e
  have hl : (cs.take k).length = k := by simp; omega
  refine ⟨p, cap, by rw [hl], by omega, fun i c hi => ?_⟩
  have hik : i < k := by have := (List.getElem?_eq_some_iff.1 hi).1; omega
  exact hf i c (by rw [List.getElem?_take, if_pos hik] at hi; exact hi)
theorem MarksAt.drop {w : World} {p : Option Addr} {n cap : Nat} {cs : List (List UInt8)} (h : MarksAt w (.slice p n cap) cs) (k : Nat) (hk : k ≤ cs.length) : MarksAt w (.slice (if cap = k then p else p.map (fun x => x.add (k * 16))) (cs.length - k) (cap - k)) (cs.drop k) := by
  obtain ⟨q, cap', e, hc, hf⟩ := h
  cases e
  have hl : (cs.drop k).length = cs.length - k := by simp
  refine ⟨_, cap - k, by rw [hl], by omega, fun i c hi => ?_⟩
  have hik : i < cs.length - k := by have := (List.getElem?_eq_some_iff.1 hi).1; omega
  rw [List.getElem?_drop] at hi
  obtain ⟨g, o, rfl, hg, hr⟩ := hf (k + i) c hi
  rw [if_neg (by omega), Option.map_some, add_plain]
  exact ⟨g, o + k * 16, rfl, hg, by rw [show o + k * 16 + i * 16 = o + (k + i) * 16 by omega]; exact hr⟩
section
variable {H : Type} {enc : TypeId × Value → H} {w : World} {base : Nat} {spare : Nat → Bool} {held : Bool}
theorem open_marks_at {fuel : Nat} {v : Value} {x : DataW H × List MemPlace} (hf : DataW.trod enc Try.prog w base spare held fuel 28 [v] = some x) : ∃ ms : List (List UInt8), MarksAt w v ms ∧ Marks16 ms := by
  rcases Go.Deep.open_slice (P := Try.prog) (e := 23) Try.underlying28 hf with ⟨hc, _⟩ | ⟨a, len, cap, m, n', D, Pl, hc, hb, hl, hm, hmm, hd, hx⟩
  · cases hc
    exact ⟨[], ⟨none, 0, rfl, Nat.le_refl _, fun i c hi => by simp at hi⟩, fun q hq => by cases hq⟩
  · cases hc
    have hle : len ≤ m := by rw [hmm]; split <;> omega
    have c0 : Try.prog.cellsOf 23 = 16 := by kernel_rfl
    rw [c0] at hx
    obtain ⟨L, hL⟩ := Go.Deep.choose_lt (α := List UInt8) (n := len) (p := fun i q => q.length = 16 ∧ ∃ g o, some a = some (⟨g, o, none⟩ : Addr) ∧ g < w.heap.size ∧ w.rangeAt g (o + i * 16) (q.map byteV))
      (fun i hi => by
        obtain ⟨cs', h1, h2⟩ := hx i (by omega)
        obtain ⟨q, hq, rfl⟩ := open_mark h2
        obtain ⟨cs0, h10, _⟩ := hx 0 (by omega)
        obtain ⟨e1, hlt, hlen, hcell⟩ := elem_cells h10 (by omega) i h1
        refine ⟨q, hq, a.block, a.off, congrArg some e1, hlt, fun j v hv => ?_⟩
        have hj : j < 16 := by have := (List.getElem?_eq_some_iff.1 hv).1; rw [List.length_map, hq] at this; exact this
        rw [hcell j hj, hv])
    refine ⟨(List.range len).map L, ⟨some a, cap, by simp, by simpa using hl, fun i x hi => ?_⟩, fun q hq => ?_⟩
    · have hi' : i < len := by have := (List.getElem?_eq_some_iff.1 hi).1; simpa using this
      obtain ⟨_, g, o, h1, h2, h3⟩ := hL i hi'
      have : x = L i := by rw [List.getElem?_map, List.getElem?_range hi'] at hi; exact (Option.some.inj hi).symm
      subst this
      exact ⟨g, o, h1, h2, h3⟩
    · obtain ⟨i, hi, rfl⟩ := List.mem_map.1 hq
      exact (hL i (List.mem_range.1 hi)).1
theorem open_marks {a : Option Addr} {n c : Nat} {d : DataW H} {p : List MemPlace} (h : DataW.Trod enc Try.prog w base spare held 28 (.slice a n c) d p) : ∃ ms : List (List UInt8), MarksAt w (.slice a n c) ms ∧ Marks16 ms := by
  obtain ⟨fuel, hf⟩ := h
  exact open_marks_at hf
end
end Go.Proofs.Ytkdbbdlkfpjdfaa
