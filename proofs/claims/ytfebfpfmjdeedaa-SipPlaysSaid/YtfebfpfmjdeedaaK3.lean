/- The opener of the row of SipPlays: a slice of operations.
   Conditions: those that each theorem names. -/
import Derived.Test.YtfebfpfmjdeedaaK
import Derived.Test.YtfebfpfmjdeedaaPlays0
import Derived.Lib.SmallJoins
namespace Go.Proofs.Ytfebfpfmjdeedaa
set_option linter.unusedVariables false
open Go.RowKit Go.Rg Go.ChangeShapes Go.Joins Go.Deep
variable {H : Type} {enc : TypeId × Value → H} {w : World} {base : Nat} {spare : Nat → Bool} {held : Bool}
instance : Inhabited PlayOp := ⟨⟨0, 0, []⟩⟩
theorem i64_wf {n : Int} (h : (Lit.int .i64 n).wf = true) : -9223372036854775808 ≤ n ∧ n ≤ 9223372036854775807 := by
  simpa [Lit.wf, IntKind.min, IntKind.max, IntKind.signed, IntKind.bits] using h
theorem open_op {n : Nat} {cs : List Value} {x : DataW H × List MemPlace} (h : DataW.trod enc Try.prog w base spare held n 50 cs = some x) :
    ∃ (q : PlayOp) (u : Value), cs = [.int .i64 q.kind, .int .i64 q.at_, u] ∧ BytesAt w u q.b ∧ (-9223372036854775808 ≤ q.kind ∧ q.kind ≤ 9223372036854775807) ∧ (-9223372036854775808 ≤ q.at_ ∧ q.at_ ≤ 9223372036854775807) := by
  obtain ⟨y0, y1, y2, n', _, hl, h0, h1, h2⟩ := trod_struct3 (P := Try.prog) Try.underlying50 h
  have c0 : Try.prog.cellsOf 50 = 3 := by kernel_rfl
  have c1 : Try.prog.cellsOf 3 = 1 := by kernel_rfl
  have c2 : Try.prog.cellsOf 37 = 1 := by kernel_rfl
  rw [c0] at hl
  match cs, hl with
  | [v0, v1, v2], _ =>
    simp [c1, c2] at h0 h1 h2
    obtain ⟨z0, e0, _, w0⟩ := DataW.trod_int (P := Try.prog) Try.underlying3 h0
    obtain ⟨z1, e1, _, w1⟩ := DataW.trod_int (P := Try.prog) Try.underlying3 h1
    obtain ⟨l, hl, _⟩ := open_byteslice h2
    simp at e0 e1
    subst e0 e1
    exact ⟨⟨z0, z1, l⟩, v2, rfl, hl, i64_wf w0, i64_wf w1⟩
theorem open_ops {a : Option Addr} {n c : Nat} {d : DataW H} {p : List MemPlace} (h : DataW.Trod enc Try.prog w base spare held 46 (.slice a n c) d p) :
    ∃ os : List PlayOp, OpsAt w (.slice a n c) os := by
  obtain ⟨fuel, hf⟩ := h
  rcases Go.Deep.open_slice (P := Try.prog) (e := 50) rfl hf with ⟨hc, _⟩ | ⟨a, len, cap, m, n', D, Pl, hc, hb, hl, hm, hmm, _, hx⟩
  · cases hc
    exact ⟨[], none, 0, rfl, fun i hi => by simp at hi⟩
  · cases hc
    have hle : n ≤ m := by rw [hmm]; split <;> omega
    have c0 : Try.prog.cellsOf 50 = 3 := by kernel_rfl
    rw [c0] at hx
    obtain ⟨L, hL⟩ := Go.Deep.choose_lt (α := PlayOp) (n := n) (p := fun i q => ∃ g o u, some a = some (⟨g, o, none⟩ : Addr) ∧ g < w.heap.size ∧ w.cell? ⟨g, o + i * 3, none⟩ = some (.int .i64 q.kind) ∧ w.cell? ⟨g, o + i * 3 + 1, none⟩ = some (.int .i64 q.at_) ∧
        w.cell? ⟨g, o + i * 3 + 2, none⟩ = some u ∧ BytesAt w u q.b ∧ (-9223372036854775808 ≤ q.kind ∧ q.kind ≤ 9223372036854775807) ∧ (-9223372036854775808 ≤ q.at_ ∧ q.at_ ≤ 9223372036854775807))
      (fun i hi => by
        obtain ⟨cs', h1, h2⟩ := hx i (by omega)
        obtain ⟨q, u, rfl, hu, hk, ha⟩ := open_op h2
        obtain ⟨_, _, hcell⟩ := World.cells?_some h1
        obtain ⟨cs0, h10, _⟩ := hx 0 (by omega)
        obtain ⟨_, hl0, hc0⟩ := World.cells?_some h10
        have k0 := hc0 0 (by omega)
        have k0' : w.cell? (a.add 0) = some (cs0[0]'(by omega)) := by
          rw [List.getElem?_eq_getElem (by omega)] at k0
          simpa [Addr.add] using k0
        obtain ⟨e1, _⟩ := add_off 0 k0'
        obtain ⟨_, hlt⟩ := spot_none k0'
        have had : ∀ j, a.add j = ⟨a.block, a.off + j, none⟩ := fun j => (add_off j k0').2
        have had2 : ∀ j k, (a.add j).add k = ⟨a.block, a.off + j + k, none⟩ := fun j k => by
          rw [had j]
          unfold Addr.add
          split
          · rename_i h; subst h; rfl
          · rfl
        refine ⟨q, a.block, a.off, u, congrArg some e1, ?_, ?_, ?_, ?_, hu, hk, ha⟩
        · have := had 0
          rw [this] at hlt
          exact hlt
        · have := hcell 0 (by omega); rw [had2] at this; exact this
        · have := hcell 1 (by omega); rw [had2] at this; exact this
        · have := hcell 2 (by omega); rw [had2] at this; exact this)
    refine ⟨(List.range n).map L, some a, c, by simp, fun i hi => ?_⟩
    have hi' : i < n := by simpa using hi
    obtain ⟨g, o, u, h1, h2, h3, h4, h5, h6, h7, h8⟩ := hL i hi'
    exact ⟨g, o, u, L i, h1, h2, by simp [hi'], h3, h4, h5, h6, h7, h8⟩
end Go.Proofs.Ytfebfpfmjdeedaa
