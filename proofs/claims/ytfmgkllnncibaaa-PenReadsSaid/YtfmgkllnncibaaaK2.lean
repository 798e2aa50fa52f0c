/- The opener of the rows of PenStops and PenReads: a slice of readings.
   Conditions: those that each theorem names. -/
import Derived.Test.YtfmgkllnncibaaaOpen
import Derived.Test.YtfmgkllnncibaaaStops0
namespace Go.Proofs.Ytfmgkllnncibaaa
set_option linter.unusedVariables false
open Go.RowKit Go.Rg Go.ChangeShapes Go.Joins Go.Deep
variable {H : Type} {enc : TypeId × Value → H} {w : World} {base : Nat} {spare : Nat → Bool} {held : Bool}
instance : Inhabited InOp := ⟨⟨0, 0, 0⟩⟩
theorem open_in {n : Nat} {cs : List Value} {x : DataW H × List MemPlace} (h : DataW.trod enc Try.prog w base spare held n 55 cs = some x) :
    ∃ q : InOp, cs = [.int .i64 q.kind, .int .i64 q.n, .int .u64 (U q.u)] ∧ (-9223372036854775808 ≤ q.kind ∧ q.kind ≤ 9223372036854775807) ∧ (-9223372036854775808 ≤ q.n ∧ q.n ≤ 9223372036854775807) := by
  obtain ⟨y0, y1, y2, n', hx, hl, h0, h1, h2⟩ := trod_struct3 (P := Try.prog) Try.underlying55 h
  have c0 : Try.prog.cellsOf 55 = 3 := by kernel_rfl
  have c1 : Try.prog.cellsOf 3 = 1 := by kernel_rfl
  have c2 : Try.prog.cellsOf 23 = 1 := by kernel_rfl
  rw [c0] at hl
  match cs, hl with
  | [v0, v1, v2], _ =>
    simp [c1, c2] at h0 h1 h2
    obtain ⟨z0, e0, _, w0⟩ := DataW.trod_int (P := Try.prog) Try.underlying3 h0
    obtain ⟨z1, e1, _, w1⟩ := DataW.trod_int (P := Try.prog) Try.underlying3 h1
    obtain ⟨z2, e2, _, w2⟩ := DataW.trod_int (P := Try.prog) Try.underlying23 h2
    obtain ⟨u, rfl⟩ := u64_wf w2
    simp at e0 e1 e2
    subst e0 e1 e2
    exact ⟨⟨z0, z1, u⟩, rfl, i64_wf w0, i64_wf w1⟩
theorem open_ins {a : Option Addr} {n c : Nat} {d : DataW H} {p : List MemPlace} (h : DataW.Trod enc Try.prog w base spare held 50 (.slice a n c) d p) :
    ∃ os : List InOp, InsAt w (.slice a n c) os := by
  obtain ⟨fuel, hf⟩ := h
  rcases Go.Deep.open_slice (P := Try.prog) (e := 55) rfl hf with ⟨hc, _⟩ | ⟨a, len, cap, m, n', D, Pl, hc, hb, hl, hm, hmm, hd, hx⟩
  · cases hc
    exact ⟨[], none, 0, rfl, fun i hi => by simp at hi⟩
  · cases hc
    have hle : n ≤ m := by rw [hmm]; split <;> omega
    have c0 : Try.prog.cellsOf 55 = 3 := by kernel_rfl
    rw [c0] at hx
    obtain ⟨L, hL⟩ := Go.Deep.choose_lt (α := InOp) (n := n) (p := fun i q => ∃ g o, some a = some (⟨g, o, none⟩ : Addr) ∧ g < w.heap.size ∧ w.cell? ⟨g, o + i * 3, none⟩ = some (.int .i64 q.kind) ∧ w.cell? ⟨g, o + i * 3 + 1, none⟩ = some (.int .i64 q.n) ∧
        w.cell? ⟨g, o + i * 3 + 2, none⟩ = some (.int .u64 (U q.u)) ∧ (-9223372036854775808 ≤ q.kind ∧ q.kind ≤ 9223372036854775807) ∧ (-9223372036854775808 ≤ q.n ∧ q.n ≤ 9223372036854775807))
      (fun i hi => by
        obtain ⟨cs', h1, h2⟩ := hx i (by omega)
        obtain ⟨q, rfl, hk, ha⟩ := open_in h2
        obtain ⟨cs0, h10, _⟩ := hx 0 (by omega)
        obtain ⟨e1, hlt, _, hcell⟩ := elem_cells h10 (by omega) i h1
        exact ⟨q, a.block, a.off, congrArg some e1, hlt, hcell 0 (by omega), hcell 1 (by omega), hcell 2 (by omega), hk, ha⟩)
    refine ⟨(List.range n).map L, some a, c, by simp, fun i hi => ?_⟩
    have hi' : i < n := by simpa using hi
    obtain ⟨g, o, h1, h2, h3, h4, h5, h6, h7⟩ := hL i hi'
    exact ⟨g, o, L i, h1, h2, by simp [hi'], h3, h4, h5, h6, h7⟩
end Go.Proofs.Ytfmgkllnncibaaa
