/- Rows of cells in a block: reading and writing a part of it whole.
   Conditions: those that each theorem names. -/
import Derived.Test.YtehfinjcfjobeaaBytes
import Derived.Test.YtehfinjcfjobeaaCalm
import Derived.Deep.MidRow
import Derived.Laws.StructEq
namespace Go.Proofs.Ytehfinjcfjobeaa
set_option maxRecDepth 100000
set_option linter.unusedVariables false
set_option linter.unusedSimpArgs false
set_option linter.unusedVariables false
set_option linter.unusedSimpArgs false
open Go.RowKit Go.Rg

theorem cell_at {w : World} {b : Nat} {cs : List Value} {T : TypeId} {f : Nat × Nat} (h : w.heap[b]? = some (.cells cs.toArray T f)) (i : Nat) : w.cell? ⟨b, i, none⟩ = cs[i]? := by
  simp [World.cell?, h]
theorem blk_range {w : World} {b : Nat} {cs : List Value} {T : TypeId} {f : Nat × Nat} (h : w.heap[b]? = some (.cells cs.toArray T f)) (o : Nat) (mid : List Value) (hm : ∀ j v, mid[j]? = some v → cs[o + j]? = some v) : w.rangeAt b o mid :=
  fun j v hv => (cell_at h _).trans (hm j v hv)
theorem blk_all {w : World} {b : Nat} {cs : List Value} {T : TypeId} {f : Nat × Nat} (h : w.heap[b]? = some (.cells cs.toArray T f)) : w.rangeAt b 0 cs :=
  blk_range h 0 cs (fun j v hv => by rw [Nat.zero_add]; exact hv)
theorem blk_there {w : World} {b : Nat} {cs : List Value} {T : TypeId} (h : w.heap[b]? = some (.cells cs.toArray T (0, 0))) (o n : Nat) (hn : o + n ≤ cs.length) : w.there b o n := by
  intro j hj
  refine ⟨?_, free_of h _⟩
  rw [cell_at h, List.getElem?_eq_getElem (by omega)]; rfl
/-- What stands in a list where 'vs' is written over it from 'o' on. -/
def splice (cs : List Value) (o : Nat) (vs : List Value) : List Value := cs.take o ++ vs ++ cs.drop (o + vs.length)
theorem splice_length {cs vs : List Value} {o : Nat} (h : o + vs.length ≤ cs.length) : (splice cs o vs).length = cs.length := by
  unfold splice; simp; omega
theorem splice_mid {pre mid post vs : List Value} {o : Nat} (ho : o = pre.length) (h : vs.length = mid.length) : splice (pre ++ mid ++ post) o vs = pre ++ vs ++ post := by
  subst ho
  unfold splice
  have e1 : (pre ++ mid ++ post).take pre.length = pre := by rw [List.append_assoc, List.take_left']; rfl
  have e2 : (pre ++ mid ++ post).drop (pre.length + vs.length) = post := by
    rw [List.drop_append_of_le_length (by simp; omega), List.drop_of_length_le (by simp; omega)]; rfl
  rw [e1, e2]
theorem splice_all {cs vs : List Value} (h : vs.length = cs.length) : splice cs 0 vs = vs := by
  unfold splice; simp [← h]
theorem heap_setCells (b : Nat) (T : TypeId) (f : Nat × Nat) : ∀ (vs : List Value) (o : Nat) (cs : List Value) (w : World), w.heap[b]? = some (.cells cs.toArray T f) → o + vs.length ≤ cs.length →
    (w.setCells b o vs).heap[b]? = some (.cells (splice cs o vs).toArray T f)
  | [], o, cs, w, h, _ => by
    show w.heap[b]? = _
    rw [h]; unfold splice; simp
  | v :: r, o, cs, w, h, hl => by
    rw [World.setCells]
    have h1 : (w.setCell ⟨b, o, none⟩ v).heap[b]? = some (.cells (cs.set o v).toArray T f) := by
      rw [block_set v h]; simp
    rw [heap_setCells b T f r (o + 1) _ _ h1 (by simp at hl ⊢; omega)]
    congr 2
    unfold splice
    simp only [List.length_cons] at hl ⊢
    have e1 : (cs.set o v).take (o + 1) = cs.take o ++ [v] := by
      rw [List.take_set, List.take_succ_eq_append_getElem (by omega), List.set_append_right _ _ (by rw [List.length_take]; omega)]
      have : o - min o cs.length = 0 := by omega
      simp [this]
    have e2 : (cs.set o v).drop (o + 1 + r.length) = cs.drop (o + (r.length + 1)) := by
      rw [List.drop_set_of_lt (by omega), show o + 1 + r.length = o + (r.length + 1) by omega]
    rw [e1, e2]; simp
theorem heap_setCells_ne (b : Nat) : ∀ (vs : List Value) (o : Nat) (w : World) (k : Nat), k ≠ b → (w.setCells b o vs).heap[k]? = w.heap[k]?
  | [], _, _, _, _ => rfl
  | v :: r, o, w, k, hk => by
    rw [World.setCells, heap_setCells_ne b r (o + 1) _ k hk]
    exact Below.heap_setCell w _ v k hk
theorem size_setCells (b : Nat) : ∀ (vs : List Value) (o : Nat) (w : World), (w.setCells b o vs).heap.size = w.heap.size
  | [], _, _ => rfl
  | v :: r, o, w => by
    rw [World.setCells, size_setCells b r (o + 1) _]
    show (w.heap.modify _ _).size = _
    rw [Array.size_modify]
theorem os_setCells (b : Nat) : ∀ (vs : List Value) (o : Nat) (w : World), (w.setCells b o vs).os = w.os ∧ (w.setCells b o vs).tape = w.tape ∧ (w.setCells b o vs).output = w.output
  | [], _, _ => ⟨rfl, rfl, rfl⟩
  | v :: r, o, w => by
    rw [World.setCells]
    exact os_setCells b r (o + 1) _
theorem Touch.setCells {M : Nat → Prop} {x y : World} (h : Touch M x y) (b o : Nat) (vs : List Value) (hb : M b ∨ x.heap.size ≤ b) : Touch M x (y.setCells b o vs) := by
  obtain ⟨h1, h2, h3⟩ := os_setCells b vs o y
  exact ⟨h1.trans h.os, h2.trans h.tape, h3.trans h.output, by rw [size_setCells]; exact h.size,
    fun k hk hn => (heap_setCells_ne b vs o y k (by rintro rfl; rcases hb with h | h; exact hn h; omega)).trans (h.block k hk hn)⟩
theorem Below.setCells {n : Nat} {x y : World} (h : Below n x y) (b o : Nat) (vs : List Value) (hb : n ≤ b) : Below n x (y.setCells b o vs) := by
  obtain ⟨h1, h2, h3⟩ := os_setCells b vs o y
  exact ⟨h1.trans h.os, h2.trans h.tape, h3.trans h.output, by rw [size_setCells]; exact h.size,
    fun k hk => (heap_setCells_ne b vs o y k (by omega)).trans (h.block k hk)⟩
theorem Touch.to_below {M : Nat → Prop} {n : Nat} {x y z : World} (h : Below n x y) (k : Touch M y z) (hM : ∀ j, M j → n ≤ j) (hn : n ≤ y.heap.size) : Below n x z :=
  h.trans (k.below hM hn)
/-- A list of cells that are made of fixed parts. -/
theorem set_append_mid (pre post : List Value) (x v : Value) (i : Nat) (h : i = pre.length) : (pre ++ x :: post).set i v = pre ++ v :: post := by
  subst h; simp
theorem set_cell {w : World} {b : Nat} {cs : List Value} {T : TypeId} {f : Nat × Nat} (i : Nat) (v : Value) (h : w.heap[b]? = some (.cells cs.toArray T f)) : (w.setCell ⟨b, i, none⟩ v).heap[b]? = some (.cells (cs.set i v).toArray T f) := by
  rw [block_set v h]; simp
theorem calm_load {P : Program} {o : Oper} {a : Act} {C : World → Prop} {w : World} {v p : Value} {ty : TypeId} {x : Operand} (ho : o.op = .load ty x) (hx : a.eval x = p) (h : (Instr.loadAt ty p).run P w = .ok v w) (hw : C w) : o.quietAt P a C w v := by
  unfold Oper.quietAt execOp
  simp only [ho, hx, Sem.run_bind, h, Result.andThen_ok, Sem.run_pure]
  exact ⟨rfl, rfl⟩
theorem calm_build {P : Program} {o : Oper} {a : Act} {C : World → Prop} {w : World} {v : Value} {ty : TypeId} {ps : Array (Nat × Operand)} {qs : Array (Nat × Value)} (ho : o.op = .build ty ps) (hx : ps.map (fun (i, x) => (i, a.eval x)) = qs) (h : (Instr.build ty qs).run P w = .ok v w) (hw : C w) : o.quietAt P a C w v := by
  subst hx
  unfold Oper.quietAt execOp
  simp only [ho, Sem.run_bind, h, Result.andThen_ok, Sem.run_pure]
  exact ⟨rfl, rfl⟩
theorem wpList_load_at {P : Program} {ops : Array Oper} {rest : List Oper} {o : Oper} {a : Act} {w : World} {Q : Exit → Act → World → Prop} {v p : Value} (hgd : o.guard = none) (ty : TypeId) (x : Operand) (ho : o.op = .load ty x) (hx : a.eval x = p) (h : (Instr.loadAt ty p).run P w = .ok v w)
    (k : wpList P ops Q rest (a.put o.dst v) w) : wpList P ops Q (o :: rest) a w := by
  refine wpList_plain hgd fun _ hK => ?_
  unfold Oper.wp execOp
  simp only [ho, hx, Sem.run_bind, h, Result.andThen_ok, Sem.run_pure]
  exact hK _ _ k
theorem wpList_store_at {P : Program} {ops : Array Oper} {rest : List Oper} {o : Oper} {a : Act} {w w' : World} {Q : Exit → Act → World → Prop} {v p : Value} (hgd : o.guard = none) (ty : TypeId) (x y : Operand) (ho : o.op = .store ty x y) (hx : a.eval x = p) (hy : a.eval y = v) (h : (Instr.storeAt ty p v).run P w = .ok () w')
    (k : wpList P ops Q rest (a.put o.dst undef) w') : wpList P ops Q (o :: rest) a w := by
  refine wpList_plain hgd fun _ hK => ?_
  unfold Oper.wp execOp
  simp only [ho, hx, hy, Sem.run_bind, h, Result.andThen_ok, Sem.run_pure]
  exact hK _ _ k
theorem wpList_build_at {P : Program} {ops : Array Oper} {rest : List Oper} {o : Oper} {a : Act} {w : World} {Q : Exit → Act → World → Prop} {v : Value} {ps : Array (Nat × Operand)} {qs : Array (Nat × Value)} (hgd : o.guard = none) (ty : TypeId) (ho : o.op = .build ty ps) (hx : ps.map (fun (i, x) => (i, a.eval x)) = qs) (h : (Instr.build ty qs).run P w = .ok v w)
    (k : wpList P ops Q rest (a.put o.dst v) w) : wpList P ops Q (o :: rest) a w := by
  subst hx
  refine wpList_plain hgd fun _ hK => ?_
  unfold Oper.wp execOp
  simp only [ho, Sem.run_bind, h, Result.andThen_ok, Sem.run_pure]
  exact hK _ _ k
end Go.Proofs.Ytehfinjcfjobeaa
