/- What a list of writes comes to, by a pen and by the document.
   Conditions: those that each theorem names. -/
import Derived.Test.YtkdbbdlkfpjdfaaPenG
namespace Go.Proofs.Ytkdbbdlkfpjdfaa
set_option maxRecDepth 100000
set_option linter.unusedVariables false
set_option linter.unusedSimpArgs false
set_option linter.unusedVariables false
set_option linter.unusedSimpArgs false
open Go.RowKit Go.Rg
theorem numN_le (n : Nat) (h : n < 18446744073709551616) : (numN n).length ≤ 9 := by
  rw [numN_length]; unfold sizeN; split; omega; have := digits_lt 8 n (by omega); omega
/-- Behind a pen's call: what was made behind the pen's last word is as it was. -/
def Fresh (n : Nat) (w w' : World) : Prop := ∀ (k : Nat) (o : Obj), n ≤ k → w.heap[k]? = some o → w'.heap[k]? = some o
theorem PenIn.open {lo b : Nat} {l : List UInt8} {w0 w : World} (h : PenIn lo b l w0) (hB : Below w0.heap.size w0 w) :
    ∃ r, PenAt b r l w ∧ ∀ (e : Ending) (w' : World) (l' : List UInt8), ((∃ v, e = .returned v) ∧ ∃ r', NewB w.heap.size r r' ∧ PenAt b r' l' w' ∧ Touch (PenM b r) w w') → (∃ v, e = .returned v) ∧ PenIn lo b l' w' ∧ Below lo w w' ∧ Fresh w0.heap.size w w' := by
  obtain ⟨r, h1, h2, h3, h4⟩ := h
  have hl := h1.lt
  refine ⟨r, h1.below hB, ?_⟩
  rintro e w' l' ⟨hv, r', q⟩
  have hn := PenIn.next (l := l) h2 h3 (Nat.le_trans h4 hB.size) q
  refine ⟨hv, hn.1, hn.2, fun k o hk ho => q.2.2.keep ho ?_⟩
  rintro (rfl | e)
  · omega
  · have := (hl.2 k e.symm).1; omega
theorem number_fr (u : UInt64) (lo b : Nat) (l : List UInt8) (w0 w : World) (h : PenIn lo b l w0) (hB : Below w0.heap.size w0 w) (hn : l.length ≤ 1000000000) :
    Calls Try.prog 94 #[ptr b, .int .u64 (U u)] w fun e w' => (∃ v, e = .returned v) ∧ PenIn lo b (l ++ numN u.toNat) w' ∧ Below lo w w' ∧ Fresh w0.heap.size w w' := by
  obtain ⟨r, h1, h2⟩ := h.open hB
  exact (number_any u b r l w h1 hn).mono fun e w' q => h2 e w' _ q
theorem signed_fr (n : Int) (lo b : Nat) (l : List UInt8) (w0 w : World) (h : PenIn lo b l w0) (hB : Below w0.heap.size w0 w) (hn : l.length ≤ 1000000000) (hi : -9223372036854775808 ≤ n ∧ n ≤ 9223372036854775807) :
    Calls Try.prog 65 #[ptr b, .int .i64 n] w fun e w' => (∃ v, e = .returned v) ∧ PenIn lo b (l ++ numN (zigN n).toNat) w' ∧ Below lo w w' ∧ Fresh w0.heap.size w w' := by
  obtain ⟨r, h1, h2⟩ := h.open hB
  exact (signed_any n b r l w h1 hn hi).mono fun e w' q => h2 e w' _ q
theorem fixed_fr (x : Value) (m : List UInt8) (lo b : Nat) (l : List UInt8) (w0 w : World) (h : PenIn lo b l w0) (hB : Below w0.heap.size w0 w) (hx : BytesAt w x m) (hn : l.length + m.length ≤ 1000000000) :
    Calls Try.prog 66 #[ptr b, x] w fun e w' => (∃ v, e = .returned v) ∧ PenIn lo b (l ++ m) w' ∧ Below lo w w' ∧ Fresh w0.heap.size w w' := by
  obtain ⟨r, h1, h2⟩ := h.open hB
  exact (fixed_any x m b r l w h1 hx hn).mono fun e w' q => h2 e w' _ q

end Go.Proofs.Ytkdbbdlkfpjdfaa
