/- Operations in a fence whose run is known.
   Conditions: those that each theorem names. -/
import Derived.Test.YtehfinjcfjobeaaOwn
import Derived.Test.YtehfinjcfjobeaaTwo
namespace Go.Proofs.Ytehfinjcfjobeaa
set_option maxRecDepth 100000
set_option linter.unusedVariables false
set_option linter.unusedSimpArgs false
open Go.RowKit Go.Shelf Go.Rg
theorem wpListIn_load_at {F : Fence} {n : Nat} {P : Program} {ops : Array Oper} {rest : List Oper} {o : Oper} {a : Act} {w : World} {Q : Exit → Act → World → Prop} {v p : Value} (hgd : o.guard = none) (ty : TypeId) (x : Operand) (ho : o.op = .load ty x) (hx : a.eval x = p) (h : (Instr.loadAt ty p).run P w = .ok v w)
    (k : wpListIn F n P ops Q rest (a.put o.dst v) w) : wpListIn F n P ops Q (o :: rest) a w := by
  subst hx
  refine wpListIn_plain hgd fun K hK => ?_
  unfold Oper.wpIn
  refine ⟨?_, ?_⟩
  · simp [Oper.about, ho, Sem.run_pure]
  · rw [Oper.semAt_plain F _ _ (by rw [ho]; intro c hc'; cases hc')]
    unfold execOp
    simp only [ho]
    rw [Sem.run_bind, h]
    exact hK _ _ k
theorem wpListIn_store_at {F : Fence} {n : Nat} {P : Program} {ops : Array Oper} {rest : List Oper} {o : Oper} {a : Act} {w w' : World} {Q : Exit → Act → World → Prop} {v p : Value} (hgd : o.guard = none) (ty : TypeId) (x y : Operand) (ho : o.op = .store ty x y) (hx : a.eval x = p) (hy : a.eval y = v) (h : (Instr.storeAt ty p v).run P w = .ok () w')
    (k : wpListIn F n P ops Q rest (a.put o.dst undef) w') : wpListIn F n P ops Q (o :: rest) a w := by
  subst hx hy
  refine wpListIn_plain hgd fun K hK => ?_
  unfold Oper.wpIn
  refine ⟨?_, ?_⟩
  · simp [Oper.about, ho, Sem.run_pure]
  · rw [Oper.semAt_plain F _ _ (by rw [ho]; intro c hc'; cases hc')]
    unfold execOp
    simp only [ho]
    rw [Sem.run_bind, h]
    exact hK _ _ k
theorem wpListIn_build_at {F : Fence} {n : Nat} {P : Program} {ops : Array Oper} {rest : List Oper} {o : Oper} {a : Act} {w : World} {Q : Exit → Act → World → Prop} {v : Value} {ps : Array (Nat × Operand)} {qs : Array (Nat × Value)} (hgd : o.guard = none) (ty : TypeId) (ho : o.op = .build ty ps) (hx : ps.map (fun (i, x) => (i, a.eval x)) = qs) (h : (Instr.build ty qs).run P w = .ok v w)
    (k : wpListIn F n P ops Q rest (a.put o.dst v) w) : wpListIn F n P ops Q (o :: rest) a w := by
  subst hx
  refine wpListIn_plain hgd fun K hK => ?_
  unfold Oper.wpIn
  refine ⟨?_, ?_⟩
  · simp [Oper.about, ho, Sem.run_pure]
  · rw [Oper.semAt_plain F _ _ (by rw [ho]; intro c hc'; cases hc')]
    unfold execOp
    simp only [ho]
    rw [Sem.run_bind, h]
    exact hK _ _ k
theorem wpListIn_msl_at {F : Fence} {n : Nat} {P : Program} {ops : Array Oper} {rest : List Oper} {o : Oper} {a : Act} {w w' : World} {Q : Exit → Act → World → Prop} {v : Value} {ty : TypeId} {m : Nat} {ps : Array (Nat × Operand)} {qs : Array (Nat × Value)} (hgd : o.guard = none) (ho : o.op = .buildSlice ty m ps) (hx : ps.map (fun (i, x) => (i, a.eval x)) = qs) (h : (Instr.buildSlice ty m qs).run P w = .ok v w')
    (k : wpListIn F n P ops Q rest (a.put o.dst v) w') : wpListIn F n P ops Q (o :: rest) a w := by
  subst hx
  refine wpListIn_plain hgd fun K hK => ?_
  unfold Oper.wpIn
  refine ⟨?_, ?_⟩
  · simp [Oper.about, ho, Sem.run_pure]
  · rw [Oper.semAt_plain F _ _ (by rw [ho]; intro c hc'; cases hc')]
    unfold execOp
    simp only [ho]
    rw [Sem.run_bind, h]
    exact hK _ _ k
/-- A whole value in a box of one block: reading and writing it. -/
theorem wpListIn_bin_at {F : Fence} {n : Nat} {P : Program} {ops : Array Oper} {rest : List Oper} {o : Oper} {a : Act} {w : World} {Q : Exit → Act → World → Prop} {v vx vy : Value} {op : BinOp} {t ty : TypeId} {x y : Operand} (hgd : o.guard = none) (ho : o.op = .binOp op t x y ty) (hx : a.eval x = vx) (hy : a.eval y = vy) (h : (do eqGuard op t x y vx vy; binOp op t vx vy : Sem Value).run P w = .ok v w)
    (k : wpListIn F n P ops Q rest (a.put o.dst v) w) : wpListIn F n P ops Q (o :: rest) a w := by
  subst hx hy
  refine wpListIn_plain hgd fun K hK => ?_
  unfold Oper.wpIn
  refine ⟨?_, ?_⟩
  · simp [Oper.about, ho, Sem.run_pure]
  · rw [Oper.semAt_plain F _ _ (by rw [ho]; intro c hc'; cases hc')]
    unfold execOp
    simp only [ho]
    rw [Sem.run_bind, h]
    exact hK _ _ k
end Go.Proofs.Ytehfinjcfjobeaa
