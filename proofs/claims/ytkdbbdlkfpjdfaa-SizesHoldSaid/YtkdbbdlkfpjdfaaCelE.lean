/- Cells and marks compared.
   Conditions: those that each theorem names. -/
import Derived.Test.YtkdbbdlkfpjdfaaCelA
import Derived.Laws.StructEq
import Derived.ChangeKeysEq
import Derived.Stop.BytesEq
namespace Go.Proofs.Ytkdbbdlkfpjdfaa
set_option maxRecDepth 100000
set_option linter.unusedVariables false
set_option linter.unusedSimpArgs false
open Go.RowKit Go.Rg
theorem run_part_agg (t : TypeId) (d : TypeDesc) (cs : Array Value) (off n : Nat) (w : World) (hu : Try.prog.underlying t = some d) (hd : d.isRow = true) (hi : (Try.prog.info? t).map (·.size) = some n) :
    (part t cs off).run Try.prog w = .ok (.agg (cs.extract off (off + n))) w := by
  cases hq : Try.prog.info? t with
  | none => simp [hq] at hi
  | some i =>
    have hs : i.size = n := by simpa [hq] using hi
    have hagg : (isAgg t).run Try.prog w = .ok true w := by
      unfold isAgg
      rw [Sem.run_bind, run_underlying hu w]
      cases d <;> simp_all
    simp [part, Sem.run_bind, hagg, sizeOf, typeInfo, hq, hs]
theorem part_n (c : Ce) (w : World) : (part 3 c.vals.toArray 0).run Try.prog w = .ok (.int .i64 c.n) w := run_part_plain w (by kernel_rfl) rfl
theorem part_h (c : Ce) (hm : c.m.length = 16) (w : World) : (part 24 c.vals.toArray 17).run Try.prog w = .ok (.int .u64 (U c.h)) w := run_part_plain w (by kernel_rfl) (by rw [List.getElem?_toArray]; exact c.get_h hm)
theorem part_m (c : Ce) (hm : c.m.length = 16) (w : World) : (part 23 c.vals.toArray 1).run Try.prog w = .ok (markV c.m) w := by
  rw [run_part_agg 23 _ c.vals.toArray 1 16 w Try.underlying23 rfl (by kernel_rfl)]
  have e : c.vals.toArray.extract 1 (1 + 16) = (c.m.map byteV).toArray := by
    have e1 : (c.m.map byteV).length = 16 := by rw [List.length_map, hm]
    simp only [List.extract_toArray, Ce.vals, List.extract_eq_take_drop, List.drop_succ_cons, List.drop_zero]
    rw [List.take_append_of_le_length (by omega), List.take_of_length_le (by omega)]
  exact congrArg (fun a => Result.ok (Value.agg a) w) e
theorem eq_mark_in (d : Nat) (xs ys : List UInt8) (hx : xs.length = 16) (hy : ys.length = 16) (w : World) : (Op.equalIn (d + 2) 23 (markV xs) (markV ys)).run Try.prog w = .ok (xs == ys) w :=
  run_equalIn_bytes w d 23 5 16 rfl rfl (fun w => by kernel_rfl) xs ys hx hy
theorem cell_fields : (Try.prog.fieldsOf 26).toList.map (fun f => (decide (f.name = "_"), f.type, f.offset)) = [(false, 3, 0), (false, 23, 1), (false, 24, 17)] := by kernel_rfl
def Ce.eq (a b : Ce) : Bool := a.n == b.n && (a.m == b.m && a.h == b.h)
theorem U_beq (a b : UInt64) : (U a == U b) = (a == b) := by
  have h : (U a = U b) = (a = b) := propext ⟨fun h => UInt64.toNat_inj.1 (by unfold U at h; omega), fun h => by rw [h]⟩
  rw [Bool.eq_iff_iff, beq_iff_eq, beq_iff_eq, h]
theorem Ce.eq_iff (a b : Ce) : a.eq b = true ↔ a = b := by
  obtain ⟨n, m, h⟩ := a
  obtain ⟨n', m', h'⟩ := b
  simp [Ce.eq]
theorem Ce.eq_self (a : Ce) : a.eq a = true := (Ce.eq_iff a a).2 rfl
theorem cell_three : ∃ f0 f1 f2, (Try.prog.fieldsOf 26).toList = [f0, f1, f2] ∧ (f0.name ≠ "_" ∧ f0.type = 3 ∧ f0.offset = 0) ∧ (f1.name ≠ "_" ∧ f1.type = 23 ∧ f1.offset = 1) ∧ (f2.name ≠ "_" ∧ f2.type = 24 ∧ f2.offset = 17) := by
  have hf := cell_fields
  rcases h : (Try.prog.fieldsOf 26).toList with _ | ⟨f0, _ | ⟨f1, _ | ⟨f2, _ | ⟨f3, t⟩⟩⟩⟩
  all_goals rw [h] at hf
  all_goals simp only [List.map_cons, List.map_nil, List.cons.injEq, Prod.mk.injEq, decide_eq_false_iff_not, and_true, reduceCtorEq, and_false] at hf
  exact ⟨f0, f1, f2, rfl, hf.1, hf.2.1, hf.2.2⟩
theorem eqFields_three {P : Program} (d : Nat) (xs ys : Array Value) (f0 f1 f2 : Field) (w : World) (u0 u1 u2 v0 v1 v2 : Value) (x y z : Bool) (n0 : f0.name ≠ "_") (n1 : f1.name ≠ "_") (n2 : f2.name ≠ "_")
    (a0 : (part f0.type xs f0.offset).run P w = .ok u0 w) (a1 : (part f1.type xs f1.offset).run P w = .ok u1 w) (a2 : (part f2.type xs f2.offset).run P w = .ok u2 w)
    (b0 : (part f0.type ys f0.offset).run P w = .ok v0 w) (b1 : (part f1.type ys f1.offset).run P w = .ok v1 w) (b2 : (part f2.type ys f2.offset).run P w = .ok v2 w)
    (i0 : (Op.equalIn d f0.type u0 v0).run P w = .ok x w) (i1 : (Op.equalIn d f1.type u1 v1).run P w = .ok y w) (i2 : (Op.equalIn d f2.type u2 v2).run P w = .ok z w) :
    (Op.eqFields d xs ys [f0, f1, f2]).run P w = .ok (x && (y && z)) w := by
  cases x <;> cases y <;> cases z <;> simp [Op.eqFields, n0, n1, n2, a0, a1, a2, b0, b1, b2, i0, i1, i2]
theorem eq_cell_in (a b : Ce) (ha : a.m.length = 16) (hb : b.m.length = 16) (w : World) : (Op.equalIn 10000 26 (cellV a) (cellV b)).run Try.prog w = .ok (a.eq b) w := by
  obtain ⟨f0, f1, f2, hf, ⟨n0, t0, o0⟩, ⟨n1, t1, o1⟩, ⟨n2, t2, o2⟩⟩ := cell_three
  have i0 : (Op.equalIn 9999 3 (.int .i64 a.n) (.int .i64 b.n)).run Try.prog w = .ok (a.n == b.n) w := run_equalIn_int w 9998 3 .i64 .i64 _ _ rfl
  have i2 : (Op.equalIn 9999 24 (.int .u64 (U a.h)) (.int .u64 (U b.h))).run Try.prog w = .ok (U a.h == U b.h) w := run_equalIn_int w 9998 24 .u64 .u64 _ _ rfl
  rw [U_beq] at i2
  have := eqFields_three 9999 a.vals.toArray b.vals.toArray f0 f1 f2 w _ _ _ _ _ _ _ _ _ n0 n1 n2 (by rw [t0, o0]; exact part_n a w) (by rw [t1, o1]; exact part_m a ha w) (by rw [t2, o2]; exact part_h a ha w)
    (by rw [t0, o0]; exact part_n b w) (by rw [t1, o1]; exact part_m b hb w) (by rw [t2, o2]; exact part_h b hb w) (by rw [t0]; exact i0) (by rw [t1]; exact eq_mark_in 9997 a.m b.m ha hb w) (by rw [t2]; exact i2)
  rw [← hf] at this
  exact (run_equalIn_agg w 9999 26 _ _ (by kernel_rfl) (by kernel_rfl)).trans this
theorem eqv_cell (a b : Ce) (ha : a.m.length = 16) (hb : b.m.length = 16) (x y : Operand) (w : World) : (do eqGuard .eql 26 x y (cellV a) (cellV b); binOp .eql 26 (cellV a) (cellV b) : Sem Value).run Try.prog w = .ok (.bool (a.eq b)) w := by
  unfold cellV
  rw [Sem.run_bind, run_eqGuard_agg w .eql 26 x y _ _ (by kernel_rfl), Result.andThen_ok, run_eql_struct]
  have := eq_cell_in a b ha hb w
  unfold cellV at this
  rw [this]; rfl
theorem eqv_mark (a b : List UInt8) (ha : a.length = 16) (hb : b.length = 16) (x y : Operand) (w : World) : (do eqGuard .eql 23 x y (markV a) (markV b); binOp .eql 23 (markV a) (markV b) : Sem Value).run Try.prog w = .ok (.bool (a == b)) w := by
  unfold markV
  rw [Sem.run_bind, run_eqGuard_agg w .eql 23 x y _ _ (by kernel_rfl), Result.andThen_ok, run_eql_struct]
  have := eq_mark_in 9998 a b ha hb w
  unfold markV at this
  rw [this]; rfl
theorem calm_bin {P : Program} {o : Oper} {a : Act} {C : World → Prop} {w : World} {v vx vy : Value} {op : BinOp} {t ty : TypeId} {x y : Operand} (ho : o.op = .binOp op t x y ty) (hx : a.eval x = vx) (hy : a.eval y = vy) (h : (do eqGuard op t x y vx vy; binOp op t vx vy : Sem Value).run P w = .ok v w) (hw : C w) : o.quietAt P a C w v := by
  subst hx hy
  unfold Oper.quietAt execOp
  simp only [ho]
  rw [Sem.run_bind, h]
  exact ⟨rfl, rfl⟩
theorem wpList_bin_at {P : Program} {ops : Array Oper} {rest : List Oper} {o : Oper} {a : Act} {w : World} {Q : Exit → Act → World → Prop} {v vx vy : Value} {op : BinOp} {t ty : TypeId} {x y : Operand} (hgd : o.guard = none) (ho : o.op = .binOp op t x y ty) (hx : a.eval x = vx) (hy : a.eval y = vy) (h : (do eqGuard op t x y vx vy; binOp op t vx vy : Sem Value).run P w = .ok v w)
    (k : wpList P ops Q rest (a.put o.dst v) w) : wpList P ops Q (o :: rest) a w := by
  subst hx hy
  refine wpList_plain hgd fun _ hK => ?_
  unfold Oper.wp execOp
  simp only [ho]
  rw [Sem.run_bind, h]
  exact hK _ _ k
theorem mk_two (a b : Ce) (ha : a.m.length = 16) (hb : b.m.length = 16) (w : World) : (Instr.buildSlice 27 2 #[(0, cellV a), (1, cellV b)]).run Try.prog w = .ok (.slice (some ⟨w.heap.size, 0, none⟩) 2 2) (w.alloc (.cells (a.vals ++ b.vals).toArray 26)) := by
  obtain ⟨n, m, h⟩ := a
  obtain ⟨n', m', h'⟩ := b
  obtain ⟨a0, a1, a2, a3, a4, a5, a6, a7, a8, a9, b0, b1, b2, b3, b4, b5, rfl⟩ := list16 ha
  obtain ⟨c0, c1, c2, c3, c4, c5, c6, c7, c8, c9, d0, d1, d2, d3, d4, d5, rfl⟩ := list16 hb
  kernel_rfl
theorem wpList_mk_w {P : Program} {ops : Array Oper} {rest : List Oper} {o : Oper} {a : Act} {w w' : World} {Q : Exit → Act → World → Prop} {v : Value} {ty : TypeId} {n : Nat} {ps : Array (Nat × Operand)} {qs : Array (Nat × Value)} (ho : o.op = .buildSlice ty n ps) (hx : ps.map (fun (i, x) => (i, a.eval x)) = qs) (h : (Instr.buildSlice ty n qs).run P w = .ok v w') (hw : Region.wanted o (yielded ops a.tmps) = true)
    (k : wpList P ops Q rest (a.put o.dst v) w') : wpList P ops Q (o :: rest) a w := by
  subst hx
  simp only [wpList]
  rw [if_pos hw]
  refine .inl ?_
  unfold Oper.wp execOp
  simp only [ho, Sem.run_bind, h, Result.andThen_ok, Sem.run_pure]
  exact k
end Go.Proofs.Ytkdbbdlkfpjdfaa
