/- Openers of rows: marks, cells, slices of them.
   Conditions: those that each theorem names. -/
import Derived.Test.YtkdbbdlkfpjdfaaBs
import Derived.Test.YtkdbbdlkfpjdfaaCelB
import Derived.OpenShut
import Derived.Deep.Strs
namespace Go.Proofs.Ytkdbbdlkfpjdfaa
set_option maxRecDepth 100000
set_option linter.unusedVariables false
set_option linter.unusedSimpArgs false
open Go.RowKit Go.Rg Go.ChangeShapes Go.Joins Go.Deep
variable {H : Type} {enc : TypeId × Value → H} {w : World} {base : Nat} {spare : Nat → Bool} {held : Bool}
def unbyte : Value → UInt8
  | .int _ n => UInt8.ofNat n.toNat
  | _ => 0
theorem open_mark {n : Nat} {cs : List Value} {x : DataW H × List MemPlace} (h : DataW.trod enc Try.prog w base spare held n 23 cs = some x) : ∃ m : List UInt8, m.length = 16 ∧ cs = m.map byteV := by
  obtain ⟨xs, k, _, _, hl, hx, hi⟩ := DataW.trod_array (P := Try.prog) Try.underlying23 h
  have c0 : Try.prog.cellsOf 23 = 16 := by kernel_rfl
  have c1 : Try.prog.cellsOf 5 = 1 := by kernel_rfl
  rw [c0] at hl
  refine ⟨cs.map unbyte, by rw [List.length_map, hl], ?_⟩
  apply List.ext_getElem
  · simp
  · intro i h1 h2
    have h16 : i < 16 := by omega
    have hq := hi i h16
    rw [c1, List.getElem?_eq_getElem (by omega)] at hq
    obtain ⟨z, e, _, hw⟩ := DataW.trod_int (P := Try.prog) Try.underlying5 hq
    have e0 : cs[i] = .int .u8 z := by
      have := congrArg (fun l => l[0]?) e
      simp only [Nat.mul_one, List.getElem?_take, List.getElem?_drop, Nat.add_zero] at this
      rw [if_pos (by omega), List.getElem?_eq_getElem h1] at this
      simpa using this
    have hr : 0 ≤ z ∧ z ≤ 255 := by simpa [Lit.wf, IntKind.min, IntKind.max, IntKind.signed, IntKind.bits] using hw
    rw [List.getElem_map, List.getElem_map, e0]
    unfold unbyte byteV
    rw [UInt8.toNat_ofNat', Nat.mod_eq_of_lt (by omega)]
    congr 1
    omega
theorem open_cell {n : Nat} {cs : List Value} {x : DataW H × List MemPlace} (h : DataW.trod enc Try.prog w base spare held n 26 cs = some x) : ∃ c : Ce, c.ok ∧ cs = c.vals := by
  obtain ⟨y0, y1, y2, n', _, hl, h0, h1, h2⟩ := trod_struct3 (P := Try.prog) Try.underlying26 h
  have c0 : Try.prog.cellsOf 26 = 18 := by kernel_rfl
  have c1 : Try.prog.cellsOf 3 = 1 := by kernel_rfl
  have c2 : Try.prog.cellsOf 23 = 16 := by kernel_rfl
  have c3 : Try.prog.cellsOf 24 = 1 := by kernel_rfl
  rw [c0] at hl
  simp only [c1, c2, c3] at h0 h1 h2
  obtain ⟨z0, e0, _, w0⟩ := DataW.trod_int (P := Try.prog) Try.underlying3 h0
  obtain ⟨m, hm, e1⟩ := open_mark h1
  obtain ⟨z2, e2, _, w2⟩ := DataW.trod_int (P := Try.prog) Try.underlying24 h2
  obtain ⟨u, rfl⟩ := u64_wf w2
  have hi := i64_wf w0
  refine ⟨⟨z0, m, u⟩, ⟨hm, hi.1, hi.2⟩, ?_⟩
  have e : cs = (cs.drop 0).take 1 ++ ((cs.drop 1).take 16 ++ (cs.drop 17).take 1) := by
    rw [List.drop_zero, List.take_of_length_le (l := cs.drop 17) (by rw [List.length_drop]; omega)]
    have : cs.drop 17 = (cs.drop 1).drop 16 := by rw [List.drop_drop]
    rw [this, List.take_append_drop, List.take_append_drop]
  rw [e, e0, e1, e2]
  rfl
instance : Inhabited Ce := ⟨Ce.zero⟩
theorem open_cells {a : Option Addr} {n c : Nat} {d : DataW H} {p : List MemPlace} (h : DataW.Trod enc Try.prog w base spare held 27 (.slice a n c) d p) : ∃ cs : List Ce, CellsAt w (.slice a n c) cs ∧ ∀ x ∈ cs, x.ok := by
  obtain ⟨fuel, hf⟩ := h
  rcases Go.Deep.open_slice (P := Try.prog) (e := 26) Try.underlying27 hf with ⟨hc, _⟩ | ⟨a, len, cap, m, n', D, Pl, hc, hb, hl, hm, hmm, hd, hx⟩
  · cases hc
    exact ⟨[], ⟨none, 0, rfl, Nat.le_refl _, fun i c hi => by simp at hi⟩, fun q hq => by cases hq⟩
  · cases hc
    have hle : n ≤ m := by rw [hmm]; split <;> omega
    have c0 : Try.prog.cellsOf 26 = 18 := by kernel_rfl
    rw [c0] at hx
    obtain ⟨L, hL⟩ := Go.Deep.choose_lt (α := Ce) (n := n) (p := fun i q => q.ok ∧ ∃ g o, some a = some (⟨g, o, none⟩ : Addr) ∧ g < w.heap.size ∧ w.rangeAt g (o + i * 18) q.vals)
      (fun i hi => by
        obtain ⟨cs', h1, h2⟩ := hx i (by omega)
        obtain ⟨q, hq, rfl⟩ := open_cell h2
        obtain ⟨cs0, h10, _⟩ := hx 0 (by omega)
        obtain ⟨e1, hlt, hlen, hcell⟩ := elem_cells h10 (by omega) i h1
        refine ⟨q, hq, a.block, a.off, congrArg some e1, hlt, fun j v hv => ?_⟩
        have hj : j < 18 := by have := (List.getElem?_eq_some_iff.1 hv).1; omega
        rw [hcell j hj, hv])
    refine ⟨(List.range n).map L, ⟨some a, c, by simp, by simpa using hl, fun i x hi => ?_⟩, fun q hq => ?_⟩
    · have hi' : i < n := by have := (List.getElem?_eq_some_iff.1 hi).1; simpa using this
      obtain ⟨_, g, o, h1, h2, h3⟩ := hL i hi'
      have : x = L i := by rw [List.getElem?_map, List.getElem?_range hi'] at hi; exact (Option.some.inj hi).symm
      subst this
      exact ⟨g, o, h1, h2, h3⟩
    · obtain ⟨i, hi, rfl⟩ := List.mem_map.1 hq
      exact (hL i (List.mem_range.1 hi)).1
end Go.Proofs.Ytkdbbdlkfpjdfaa
