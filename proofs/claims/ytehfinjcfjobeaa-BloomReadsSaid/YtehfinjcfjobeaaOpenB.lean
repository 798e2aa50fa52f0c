/- The opener of a case of law 15.
   Conditions: those that each theorem names. -/
import Derived.Test.YtehfinjcfjobeaaBlmI
import Derived.Test.YtehfinjcfjobeaaOpenC
import Derived.Test.YtehfinjcfjobeaaBs
import Derived.Test.YtehfinjcfjobeaaMarks
import Derived.Test.YtehfinjcfjobeaaCloneM
namespace Go.Proofs.Ytehfinjcfjobeaa
set_option maxRecDepth 100000
set_option linter.unusedVariables false
set_option linter.unusedSimpArgs false
open Go.RowKit Go.Rg Go.ChangeShapes Go.Joins Go.Deep Go.WideShapes
variable {H : Type} {enc : TypeId × Value → H} {w : World} {base : Nat} {spare : Nat → Bool} {held : Bool}
theorem one_of {cs : List Value} (h : cs.length = 1) : ∃ v, cs = [v] := by
  match cs, h with
  | [v], _ => exact ⟨v, rfl⟩
theorem caseB_parts {cs : List Value} (h : cs.length = 21) : cs = (cs.drop 0).take 1 ++ ((cs.drop 1).take 1 ++ ((cs.drop 2).take 1 ++ ((cs.drop 3).take 1 ++ ((cs.drop 4).take 16 ++ (cs.drop 20).take 1)))) := by
  have e (a b : Nat) : (cs.drop a).take b ++ cs.drop (a + b) = cs.drop a := by
    rw [← List.drop_drop, List.take_append_drop]
  rw [List.take_of_length_le (l := cs.drop 20) (by rw [List.length_drop]; omega)]
  rw [e 4 16, e 3 1, e 2 1, e 1 1, e 0 1, List.drop_zero]
theorem open_caseB {r : Reach} {b0 : Nat} {v : Value} {d : DataW H} {p : List MemPlace} (hv : Value.okWide Try.prog w r b0 27 v) (h : DataW.Trod enc Try.prog w base spare held 27 v d p) :
    ∃ (N Mo : Int) (av bv yv : Value) (M : List UInt8) (A B : List Mk), v = .agg (caseB N Mo av bv M yv).toArray ∧ M.length = 16 ∧ MarksAt w av (vals A) ∧ MarksAt w bv (vals B) ∧ (-9223372036854775808 ≤ N ∧ N ≤ 9223372036854775807) ∧ (-9223372036854775808 ≤ Mo ∧ Mo ≤ 9223372036854775807) := by
  obtain ⟨cs, rfl, hsz⟩ := okWide_struct Try.underlying27 hv
  obtain ⟨fuel, hf⟩ := h
  obtain ⟨xs, n, _, _, hl, hlen, hq⟩ := DataW.trod_struct Try.underlying27 hf
  have c21 : Try.prog.cellsOf 27 = 21 := by kernel_rfl
  have ci : Try.prog.cellsOf 3 = 1 := by kernel_rfl
  have c16 : Try.prog.cellsOf 24 = 16 := by kernel_rfl
  have c2 : Try.prog.cellsOf 22 = 1 := by kernel_rfl
  have c3 : Try.prog.cellsOf 25 = 1 := by kernel_rfl
  obtain ⟨l⟩ := cs
  have hl21 : l.length = 21 := by rw [c21] at hsz; simpa using hsz
  have q0 : DataW.trod enc Try.prog w base spare held n 3 ((l.drop 0).take (Try.prog.cellsOf 3)) = xs[0]? := hq 0 _ rfl
  have q1 : DataW.trod enc Try.prog w base spare held n 3 ((l.drop 1).take (Try.prog.cellsOf 3)) = xs[1]? := hq 1 _ rfl
  have q2 : DataW.trod enc Try.prog w base spare held n 22 ((l.drop 2).take (Try.prog.cellsOf 22)) = xs[2]? := hq 2 _ rfl
  have q3 : DataW.trod enc Try.prog w base spare held n 22 ((l.drop 3).take (Try.prog.cellsOf 22)) = xs[3]? := hq 3 _ rfl
  have q4 : DataW.trod enc Try.prog w base spare held n 24 ((l.drop 4).take (Try.prog.cellsOf 24)) = xs[4]? := hq 4 _ rfl
  rw [ci] at q0 q1
  rw [c2] at q2 q3
  rw [c16] at q4
  match xs, hlen with
  | [y0, y1, y2, y3, y4, y5], _ =>
    simp only [List.getElem?_cons_zero, List.getElem?_cons_succ] at q0 q1 q2 q3 q4
    obtain ⟨N, e0, _, wN⟩ := DataW.trod_int (P := Try.prog) Try.underlying3 q0
    obtain ⟨Mo, e1, _, wM⟩ := DataW.trod_int (P := Try.prog) Try.underlying3 q1
    obtain ⟨av, e2⟩ := one_of (cs := (l.drop 2).take 1) (by rw [List.length_take, List.length_drop]; omega)
    obtain ⟨bv, e3⟩ := one_of (cs := (l.drop 3).take 1) (by rw [List.length_take, List.length_drop]; omega)
    obtain ⟨yv, e5⟩ := one_of (cs := (l.drop 20).take 1) (by rw [List.length_take, List.length_drop]; omega)
    obtain ⟨M, hM, eM⟩ := open_mark q4
    rw [e2] at q2
    rw [e3] at q3
    obtain ⟨A0, hA1, hA2⟩ := open_marks_at q2
    obtain ⟨B0, hB1, hB2⟩ := open_marks_at q3
    obtain ⟨A, rfl⟩ := toMk hA2
    obtain ⟨B, rfl⟩ := toMk hB2
    refine ⟨N, Mo, av, bv, yv, M, A, B, ?_, hM, hA1, hB1, wf_i64 wN, wf_i64 wM⟩
    rw [caseB_parts hl21, e0, e1, e2, e3, eM, e5]
    rfl
end Go.Proofs.Ytehfinjcfjobeaa
