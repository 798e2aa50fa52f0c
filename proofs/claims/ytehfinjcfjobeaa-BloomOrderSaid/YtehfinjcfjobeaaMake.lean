/- Slices that are made.
   Conditions: those that each theorem names. -/
import Derived.Test.YtehfinjcfjobeaaOwn
import Derived.Laws.MakeOwn
import Derived.Laws.OwnMore
import Derived.Laws.NewBlocks
namespace Go.Proofs.Ytehfinjcfjobeaa
set_option maxRecDepth 100000
set_option linter.unusedVariables false
set_option linter.unusedSimpArgs false
open Go.RowKit Go.Rg
theorem wpList_msl_at {P : Program} {ops : Array Oper} {rest : List Oper} {o : Oper} {a : Act} {w w' : World} {Q : Exit → Act → World → Prop} {v vx vy : Value} {ty : TypeId} {x y : Operand} (hgd : o.guard = none) (ho : o.op = .makeSlice ty x y) (hx : a.eval x = vx) (hy : a.eval y = vy) (h : (Instr.makeSlice ty vx vy).run P w = .ok v w')
    (k : wpList P ops Q rest (a.put o.dst v) w') : wpList P ops Q (o :: rest) a w := by
  refine wpList_plain hgd fun _ hK => ?_
  unfold Oper.wp execOp
  simp only [ho, hx, hy, Sem.run_bind, h, Result.andThen_ok, Sem.run_pure]
  exact hK _ _ k
theorem made_one (v : Value) (n : Nat) : madeCells #[v] (n * 1) = (List.replicate n v).toArray := by
  apply Array.ext
  · rw [size_madeCells, List.size_toArray, List.length_replicate, Nat.mul_one]
  · intro k h1 h2
    simp [madeCells, Nat.mod_one]
theorem make_one (T E : TypeId) (z : Value) (bytes : Nat) (hb0 : bytes ≤ 32) (hz0 : z.cells = #[z]) (hT : Try.prog.underlying T = some (.slice E)) (hi : (Try.prog.info? E).map (fun i => (i.zero, i.size, i.bytes)) = some (some z, 1, bytes)) (n : Nat) (hn : n ≤ 1000000000) (w : World) :
    (Instr.makeSlice T (.int .i64 (n : Int)) (.int .i64 (n : Int))).run Try.prog w = .ok (.slice (some ⟨w.heap.size, 0, none⟩) n n) (w.alloc (.cells (List.replicate n z).toArray E)) := by
  obtain ⟨i, hi, hz, hs, hb⟩ := info_parts hi
  have hle : n * bytes ≤ 1000000000 * 32 := Nat.mul_le_mul hn hb0
  have hbi : (i.bytes : Int) * (n : Int) ≤ 281474976710656 := by
    rw [hb, ← Int.natCast_mul, Nat.mul_comm]; omega
  have := run_make w T E i z hT hi hz .i64 .i64 (n : Int) (n : Int) (by omega) (Int.le_refl _) hbi (by omega)
  rw [Int.toNat_natCast, hs, hz0, made_one] at this
  exact this
theorem make_bytes (n : Nat) (hn : n ≤ 1000000000) (w : World) :
    (Instr.makeSlice 25 (.int .i64 (n : Int)) (.int .i64 (n : Int))).run Try.prog w = .ok (.slice (some ⟨w.heap.size, 0, none⟩) n n) (w.alloc (.cells ((List.replicate n (0 : UInt8)).map byteV).toArray 5)) := by
  rw [List.map_replicate]
  exact make_one 25 5 (.int .u8 0) 1 (by omega) rfl Try.underlying25 infoC n hn w
theorem own_made (n : Nat) (l : List UInt8) (w : World) (hl : l.length = n) (hn : n ≤ 1000000000) : OwnB (w.alloc (.cells (l.map byteV).toArray 5)) (.slice (some ⟨w.heap.size, 0, none⟩) n n) l := by
  subst hl
  exact ⟨by simp, .inr ⟨w.heap.size, l.length, _, rfl, Nat.zero_le _, World.alloc_heap_new _ _, Nat.le_refl _, by unfold maxLen; omega, by simp, by show (l.map byteV).take _ = _; rw [List.take_of_length_le (by simp)]⟩⟩
/-- A byte of an owned row, written. -/
theorem OwnB.set {w : World} {l : List UInt8} {g o n cap : Nat} (h : OwnB w (.slice (some ⟨g, o, none⟩) n cap) l) (i : Nat) {y : UInt8} (hy : l[i]? = some y) (x : UInt8) :
    o = 0 ∧ n = l.length ∧ g < w.heap.size ∧ w.cell? ⟨g, i, none⟩ = some (byteV y) ∧ w.frozen? ⟨g, i, none⟩ = false ∧ OwnB (w.setCell ⟨g, i, none⟩ (byteV x)) (.slice (some ⟨g, o, none⟩) n cap) (l.set i x) := by
  have hi : i < l.length := (List.getElem?_eq_some_iff.1 hy).1
  obtain ⟨p, c, e, _, _, hp⟩ := h.shape
  obtain ⟨g', e'⟩ := hp ⟨g, o, none⟩ (by cases e; rfl)
  cases e'
  have hn : n = l.length := by cases e; rfl
  subst hn
  have hst := World.ownsRow.stored h i (byteV x)
  rw [← List.map_set] at hst
  refine ⟨rfl, rfl, h.lt rfl, ?_, World.ownsRow.frozenAt h i, ?_⟩
  · rw [World.ownsRow.cellAt h i (by omega), List.getElem?_map, hy]; rfl
  · unfold OwnB
    rw [List.length_set]
    exact hst.1
end Go.Proofs.Ytehfinjcfjobeaa
