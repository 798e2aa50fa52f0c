/- The opener of a case of law 10.
   Conditions: those that each theorem names. -/
import Derived.Test.YtkdbbdlkfpjdfaaC10K
import Derived.Test.YtkdbbdlkfpjdfaaOpenC
import Derived.Test.YtkdbbdlkfpjdfaaMarks
namespace Go.Proofs.Ytkdbbdlkfpjdfaa
set_option maxRecDepth 100000
set_option linter.unusedVariables false
set_option linter.unusedSimpArgs false
open Go.RowKit Go.Rg Go.ChangeShapes Go.Joins Go.Deep Go.WideShapes
variable {H : Type} {enc : TypeId × Value → H} {w : World} {base : Nat} {spare : Nat → Bool} {held : Bool}
theorem open_cells_at {fuel : Nat} {v : Value} {x : DataW H × List MemPlace} (hf : DataW.trod enc Try.prog w base spare held fuel 27 [v] = some x) : ∃ cs : List Ce, CellsAt w v cs ∧ ∀ c ∈ cs, c.ok := by
  rcases Go.Deep.open_slice (P := Try.prog) (e := 26) Try.underlying27 hf with ⟨hc, _⟩ | ⟨a, len, cap, m, n', D, Pl, hc, hb, hl, hm, hmm, hd, hx⟩
  · cases hc
    exact ⟨[], ⟨none, 0, rfl, Nat.le_refl _, fun i c hi => by simp at hi⟩, fun q hq => by cases hq⟩
  · cases hc
    exact open_cells ⟨fuel, hf⟩
theorem one_of {cs : List Value} (h : cs.length = 1) : ∃ v, cs = [v] := by
  match cs, h with
  | [v], _ => exact ⟨v, rfl⟩
theorem case_parts {cs : List Value} (h : cs.length = 72) : cs = (cs.drop 0).take 18 ++ ((cs.drop 18).take 18 ++ ((cs.drop 36).take 18 ++ ((cs.drop 54).take 16 ++ ((cs.drop 70).take 1 ++ (cs.drop 71).take 1)))) := by
  have e (a b : Nat) : (cs.drop a).take b ++ cs.drop (a + b) = cs.drop a := by
    rw [← List.drop_drop, List.take_append_drop]
  rw [List.take_of_length_le (l := cs.drop 71) (by rw [List.length_drop]; omega)]
  rw [e 70 1, e 54 16, e 36 18, e 18 18, e 0 18, List.drop_zero]
theorem open_case {r : Reach} {b0 : Nat} {v : Value} {d : DataW H} {p : List MemPlace} (hv : Value.okWide Try.prog w r b0 30 v) (h : DataW.Trod enc Try.prog w base spare held 30 v d p) :
    ∃ (A B C : Ce) (M : List UInt8) (lv mv : Value) (ms : List (List UInt8)) (cs : List Ce), v = .agg (caseL A B C M lv mv).toArray ∧ A.ok ∧ B.ok ∧ C.ok ∧ M.length = 16 ∧ MarksAt w mv ms ∧ Marks16 ms ∧ CellsAt w lv cs ∧ ∀ c ∈ cs, c.ok := by
  obtain ⟨cs, rfl, hsz⟩ := okWide_struct Try.underlying30 hv
  obtain ⟨fuel, hf⟩ := h
  obtain ⟨xs, n, _, _, hl, hlen, hq⟩ := DataW.trod_struct Try.underlying30 hf
  have c72 : Try.prog.cellsOf 30 = 72 := by kernel_rfl
  have c18 : Try.prog.cellsOf 26 = 18 := by kernel_rfl
  have c16 : Try.prog.cellsOf 23 = 16 := by kernel_rfl
  have c1 : Try.prog.cellsOf 27 = 1 := by kernel_rfl
  have c2 : Try.prog.cellsOf 28 = 1 := by kernel_rfl
  obtain ⟨l⟩ := cs
  have hl72 : l.length = 72 := by rw [c72] at hsz; simpa using hsz
  have q0 : DataW.trod enc Try.prog w base spare held n 26 ((l.drop 0).take (Try.prog.cellsOf 26)) = xs[0]? := hq 0 _ rfl
  have q1 : DataW.trod enc Try.prog w base spare held n 26 ((l.drop 18).take (Try.prog.cellsOf 26)) = xs[1]? := hq 1 _ rfl
  have q2 : DataW.trod enc Try.prog w base spare held n 26 ((l.drop 36).take (Try.prog.cellsOf 26)) = xs[2]? := hq 2 _ rfl
  have q3 : DataW.trod enc Try.prog w base spare held n 23 ((l.drop 54).take (Try.prog.cellsOf 23)) = xs[3]? := hq 3 _ rfl
  have q4 : DataW.trod enc Try.prog w base spare held n 27 ((l.drop 70).take (Try.prog.cellsOf 27)) = xs[4]? := hq 4 _ rfl
  have q5 : DataW.trod enc Try.prog w base spare held n 28 ((l.drop 71).take (Try.prog.cellsOf 28)) = xs[5]? := hq 5 _ rfl
  rw [c18] at q0 q1 q2
  rw [c16] at q3
  rw [c1] at q4
  rw [c2] at q5
  match xs, hlen with
  | [y0, y1, y2, y3, y4, y5], _ =>
    simp only [List.getElem?_cons_zero, List.getElem?_cons_succ] at q0 q1 q2 q3 q4 q5
    obtain ⟨A, hA, eA⟩ := open_cell q0
    obtain ⟨B, hB, eB⟩ := open_cell q1
    obtain ⟨C, hC, eC⟩ := open_cell q2
    obtain ⟨M, hM, eM⟩ := open_mark q3
    obtain ⟨lv, e4⟩ := one_of (cs := (l.drop 70).take 1) (by rw [List.length_take, List.length_drop]; omega)
    obtain ⟨mv, e5⟩ := one_of (cs := (l.drop 71).take 1) (by rw [List.length_take, List.length_drop]; omega)
    rw [e4] at q4
    rw [e5] at q5
    obtain ⟨ks, hk1, hk2⟩ := open_cells_at q4
    obtain ⟨ms, hm1, hm2⟩ := open_marks_at q5
    refine ⟨A, B, C, M, lv, mv, ms, ks, ?_, hA, hB, hC, hM, hm1, hm2, hk1, hk2⟩
    change (l.drop 0).take 18 = _ at eA
    change (l.drop 18).take 18 = _ at eB
    change (l.drop 36).take 18 = _ at eC
    change (l.drop 54).take 16 = _ at eM
    rw [case_parts hl72, eA, eB, eC, eM, e4, e5]
    rfl
end Go.Proofs.Ytkdbbdlkfpjdfaa
