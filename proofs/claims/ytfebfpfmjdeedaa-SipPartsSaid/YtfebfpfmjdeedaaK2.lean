/- Openers of the row of SipParts: bytes with their capacity, a pair of short numbers.
   Conditions: those that each theorem names. -/
import Derived.Test.YtfebfpfmjdeedaaK
import Derived.Lib.SmallJoins
namespace Go.Proofs.Ytfebfpfmjdeedaa
set_option linter.unusedVariables false
open Go.RowKit Go.Rg Go.ChangeShapes Go.Joins
variable {H : Type} {enc : TypeId × Value → H} {w : World} {base : Nat} {spare : Nat → Bool} {held : Bool}
theorem open_cut {r : Reach} {b0 : Nat} {v : Value} {d : DataW H} {p : List MemPlace} (hv : Value.okWide Try.prog w r b0 39 v) (h : DataW.Trod enc Try.prog w base spare held 39 v d p) :
    ∃ x0 x1 : Int, v = .agg #[.int .u16 x0, .int .u16 x1] ∧ (0 ≤ x0 ∧ x0 < 65536) ∧ (0 ≤ x1 ∧ x1 < 65536) := by
  have hu : Try.prog.underlying 39 = some (.array 2 38) := rfl
  simp only [Value.okWide, hu] at hv
  obtain ⟨cs, rfl, hsz, _⟩ := hv
  have h2 : Try.prog.cellsOf 39 = 2 := by kernel_rfl
  obtain ⟨c0, c1, rfl⟩ := array2 (hsz.trans h2)
  obtain ⟨fuel, hf⟩ := h
  cases fuel with
  | zero => simp [DataW.trod] at hf
  | succ m =>
    rw [DataW.trod_step] at hf
    unfold DataW.trodStep at hf
    simp only [hu, Value.cells] at hf
    rw [if_pos (by simp [h2])] at hf
    have h1 : Try.prog.cellsOf 38 = 1 := by kernel_rfl
    have hr : List.range 2 = [0, 1] := rfl
    cases k0 : DataW.trod enc Try.prog w base spare held m 38 [c0] with
    | none => simp [h1, hr, k0] at hf
    | some y0 =>
      cases k1 : DataW.trod enc Try.prog w base spare held m 38 [c1] with
      | none => simp [h1, hr, k0, k1] at hf
      | some y1 =>
        obtain ⟨z0, e0, _, wz0⟩ := DataW.trod_int (P := Try.prog) Try.underlying38 k0
        obtain ⟨z1, e1, _, wz1⟩ := DataW.trod_int (P := Try.prog) Try.underlying38 k1
        simp at e0 e1
        subst e0 e1
        refine ⟨z0, z1, rfl, ?_, ?_⟩
        · simp [Lit.wf, IntKind.min, IntKind.max, IntKind.signed, IntKind.bits] at wz0; omega
        · simp [Lit.wf, IntKind.min, IntKind.max, IntKind.signed, IntKind.bits] at wz1; omega
theorem open_bytes_any {a : Option Addr} {n c : Nat} {d : DataW H} {p : List MemPlace} (h : DataW.Trod enc Try.prog w base spare held 37 (.slice a n c) d p) :
    ∃ l : List UInt8, n = l.length ∧ l.length ≤ c ∧ BytesAt w (.slice a l.length c) l := by
  obtain ⟨fuel, hf⟩ := h
  obtain ⟨l, hl, _⟩ := open_byteslice (x := (d, p)) hf
  obtain ⟨q, c', e, hb⟩ := id hl
  cases e
  refine ⟨l, rfl, ?_, hl⟩
  rcases open_ints (P := Try.prog) (e := 5) rfl rfl rfl hf with ⟨hc, _⟩ | ⟨a, len, cap, zs, hc, _, hl, _⟩
  · injection hc with h1
    injection h1 with _ h2 h3
    omega
  · injection hc with h1
    injection h1 with _ h2 h3
    omega
end Go.Proofs.Ytfebfpfmjdeedaa
