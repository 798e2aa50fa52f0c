/- Rows of cells: a block of cells, made, read and written one cell at a time.
   Conditions: those that each theorem names. -/
import Derived.Test.YtkdbbdlkfpjdfaaCelB
import Derived.Laws.MakeOwn
namespace Go.Proofs.Ytkdbbdlkfpjdfaa
set_option maxRecDepth 100000
set_option linter.unusedVariables false
set_option linter.unusedSimpArgs false
open Go.RowKit Go.Rg
def flatC (cs : List Ce) : List Value := cs.flatMap Ce.vals
def All16 (cs : List Ce) : Prop := ∀ c ∈ cs, c.m.length = 16
theorem flatC_cons (c : Ce) (t : List Ce) : flatC (c :: t) = c.vals ++ flatC t := by simp [flatC]
theorem flatC_append (a b : List Ce) : flatC (a ++ b) = flatC a ++ flatC b := by simp [flatC]
theorem All16.tail {c : Ce} {t : List Ce} (h : All16 (c :: t)) : All16 t := fun x hx => h x (by simp [hx])
theorem All16.head {c : Ce} {t : List Ce} (h : All16 (c :: t)) : c.m.length = 16 := h c (by simp)
theorem flatC_length : ∀ {cs : List Ce}, All16 cs → (flatC cs).length = cs.length * 18
  | [], _ => rfl
  | c :: t, h => by rw [flatC_cons, List.length_append, c.vals_length h.head, flatC_length h.tail, List.length_cons]; omega
theorem flatC_get : ∀ {cs : List Ce} (i : Nat) (c : Ce), All16 cs → cs[i]? = some c → ∀ (j : Nat) (v : Value), c.vals[j]? = some v → (flatC cs)[i * 18 + j]? = some v
  | [], i, c, _, h, _, _, _ => by simp at h
  | a :: t, 0, c, h, hi, j, v, hv => by
    simp at hi; subst hi
    rw [flatC_cons, Nat.zero_mul, Nat.zero_add, List.getElem?_append_left (List.getElem?_eq_some_iff.1 hv).1]
    exact hv
  | a :: t, i + 1, c, h, hi, j, v, hv => by
    have := flatC_get i c h.tail (by simpa using hi) j v hv
    rw [flatC_cons, List.getElem?_append_right (by rw [a.vals_length h.head]; omega), a.vals_length h.head, show (i + 1) * 18 + j - 18 = i * 18 + j by omega]
    exact this
theorem flatC_set : ∀ {cs : List Ce} (i : Nat) (c : Ce), All16 cs → c.m.length = 16 → i < cs.length → splice (flatC cs) (i * 18) c.vals = flatC (cs.set i c)
  | [], i, c, _, _, h => by simp at h
  | a :: t, 0, c, h, hc, _ => by
    have h1 := a.vals_length h.head
    have h2 := c.vals_length hc
    unfold splice
    rw [List.set_cons_zero, flatC_cons, flatC_cons, Nat.zero_mul, List.take_zero, List.nil_append, Nat.zero_add, h2, List.drop_left' h1]
  | a :: t, i + 1, c, h, hc, hi => by
    have h1 := a.vals_length h.head
    have ih := flatC_set i c h.tail hc (by simpa using hi)
    rw [List.set_cons_succ, flatC_cons, flatC_cons, ← ih]
    unfold splice
    rw [show (i + 1) * 18 = a.vals.length + i * 18 by omega, List.take_length_add_append, Nat.add_assoc, List.drop_length_add_append, List.append_assoc, List.append_assoc, List.append_assoc]
theorem All16.set {cs : List Ce} (h : All16 cs) (i : Nat) {c : Ce} (hc : c.m.length = 16) : All16 (cs.set i c) := by
  intro x hx
  rcases List.mem_or_eq_of_mem_set hx with h1 | h1
  · exact h x h1
  · rw [h1]; exact hc
/-- A block that is a row of cells. -/
def RowC (g : Nat) (cs : List Ce) (X : World) : Prop := All16 cs ∧ X.heap[g]? = some (.cells (flatC cs).toArray 26 (0, 0))
theorem RowC.below {n g : Nat} {cs : List Ce} {X Y : World} (h : RowC g cs X) (hB : Below n X Y) (hg : g < n) : RowC g cs Y := ⟨h.1, (hB.block g hg).trans h.2⟩
theorem RowC.other {g : Nat} {cs : List Ce} {X Y : World} (h : RowC g cs X) (hg : Y.heap[g]? = X.heap[g]?) : RowC g cs Y := ⟨h.1, hg.trans h.2⟩
theorem RowC.lt {g : Nat} {cs : List Ce} {X : World} (h : RowC g cs X) : g < X.heap.size := blk_lt h.2
theorem RowC.range {g : Nat} {cs : List Ce} {X : World} (h : RowC g cs X) {i : Nat} {c : Ce} (hi : cs[i]? = some c) : X.rangeAt g (i * 18) c.vals :=
  blk_range h.2 _ _ (fun j v hv => flatC_get i c h.1 hi j v hv)
theorem RowC.at {g : Nat} {cs : List Ce} {X : World} (h : RowC g cs X) (cap : Nat) (hc : cs.length ≤ cap) : CellsAt X (.slice (some ⟨g, 0, none⟩) cs.length cap) cs :=
  ⟨_, cap, rfl, hc, fun i c hi => ⟨g, 0, rfl, h.lt, by rw [Nat.zero_add]; exact h.range hi⟩⟩
theorem RowC.load {g : Nat} {cs : List Ce} {X : World} (h : RowC g cs X) {i : Nat} {c : Ce} (hi : cs[i]? = some c) : (Instr.loadAt 26 (.pointer (some ⟨g, i * 18, none⟩))).run Try.prog X = .ok (.agg c.vals.toArray) X :=
  cell_load (h.range hi) (h.1 c (List.mem_of_getElem? hi))
theorem RowC.store {g : Nat} {cs : List Ce} {X : World} (h : RowC g cs X) {i : Nat} (hi : i < cs.length) {c : Ce} (hc : c.m.length = 16) :
    (Instr.storeAt 26 (.pointer (some ⟨g, i * 18, none⟩)) (.agg c.vals.toArray)).run Try.prog X = .ok () (X.setCells g (i * 18) c.vals) ∧ RowC g (cs.set i c) (X.setCells g (i * 18) c.vals) := by
  have h18 := c.vals_length hc
  have hl := flatC_length h.1
  refine ⟨run_storeAt_mid X g (i * 18) 26 c.vals.toArray (blk_there h.2 _ _ (by rw [List.size_toArray]; omega)) (by rw [List.size_toArray, h18]; kernel_rfl) (all_oneCell_toArray c.one), h.1.set i hc, ?_⟩
  have := heap_setCells g 26 (0, 0) c.vals (i * 18) (flatC cs) X h.2 (by omega)
  rw [flatC_set i c h.1 hc hi] at this
  exact this
theorem All16.zeros (n : Nat) : All16 (List.replicate n Ce.zero) := fun c hc => by rw [(List.mem_replicate.1 hc).2]; rfl
theorem made_zeros (n : Nat) : madeCells zeroCells (n * 18) = (flatC (List.replicate n Ce.zero)).toArray := by
  apply Array.ext
  · rw [size_madeCells, List.size_toArray, flatC_length (All16.zeros n), List.length_replicate]
  · intro k h1 h2
    rw [size_madeCells] at h1
    have hi : k / 18 < n := by omega
    have hv : Ce.zero.vals[k % 18]? = some (zeroCells[k % 18]!) := by
      have : k % 18 < 18 := Nat.mod_lt _ (by omega)
      have h18 : zeroCells.size = 18 := rfl
      rw [getElem!_pos zeroCells (k % 18) (by omega), ← Array.getElem?_eq_getElem, Ce.zero_vals, List.getElem?_toArray]
    have hg := flatC_get (k / 18) Ce.zero (All16.zeros n) (by rw [List.getElem?_replicate, if_pos hi]) (k % 18) _ hv
    rw [show k / 18 * 18 + k % 18 = k by omega] at hg
    have e2 := (List.getElem?_eq_some_iff.1 hg).2
    have e3 : (flatC (List.replicate n Ce.zero)).toArray[k] = zeroCells[k % 18]! := by rw [List.getElem_toArray]; exact e2
    rw [e3]
    simp [madeCells]
theorem make_cells (n : Nat) (hn : n ≤ 1000000000) (w : World) :
    (Instr.makeSlice 27 (.int .i64 (n : Int)) (.int .i64 (n : Int))).run Try.prog w = .ok (.slice (some ⟨w.heap.size, 0, none⟩) n n) (w.alloc (.cells (flatC (List.replicate n Ce.zero)).toArray 26)) := by
  have hi : (Try.prog.info? 26).map (fun i => (i.zero, i.size, i.bytes)) = some (some (.agg zeroCells), 18, 32) := by kernel_rfl
  obtain ⟨i, hi, hz, hs, hb⟩ := info_parts hi
  have := run_make w 27 26 i (.agg zeroCells) Try.underlying27 hi hz .i64 .i64 (n : Int) (n : Int) (by omega) (Int.le_refl _) (by rw [hb]; omega) (by omega)
  rw [Int.toNat_natCast, hs] at this
  rw [this]
  rw [← made_zeros]; rfl
theorem RowC.new (w : World) (cs : List Ce) (h : All16 cs) : RowC w.heap.size cs (w.alloc (.cells (flatC cs).toArray 26)) := ⟨h, World.alloc_heap_new _ _⟩
theorem wpList_make_at {P : Program} {ops : Array Oper} {rest : List Oper} {o : Oper} {a : Act} {w w' : World} {Q : Exit → Act → World → Prop} {v vx vy : Value} {ty : TypeId} {x y : Operand} (hgd : o.guard = none) (ho : o.op = .makeSlice ty x y) (hx : a.eval x = vx) (hy : a.eval y = vy) (h : (Instr.makeSlice ty vx vy).run P w = .ok v w')
    (k : wpList P ops Q rest (a.put o.dst v) w') : wpList P ops Q (o :: rest) a w := by
  refine wpList_plain hgd fun _ hK => ?_
  unfold Oper.wp execOp
  simp only [ho, hx, hy, Sem.run_bind, h, Result.andThen_ok, Sem.run_pure]
  exact hK _ _ k
theorem CellsAt.take {w : World} {p : Option Addr} {n cap : Nat} {cs : List Ce} (h : CellsAt w (.slice p n cap) cs) (k : Nat) (hk : k ≤ cs.length) : CellsAt w (.slice p k cap) (cs.take k) := by
  obtain ⟨q, cap', e, hc, hf⟩ := h
  cases e
  have hl : (cs.take k).length = k := by simp; omega
  refine ⟨p, cap, by rw [hl], by omega, fun i c hi => ?_⟩
  have hik : i < k := by have := (List.getElem?_eq_some_iff.1 hi).1; omega
  exact hf i c (by rw [List.getElem?_take, if_pos hik] at hi; exact hi)
theorem CellsAt.drop {w : World} {p : Option Addr} {n cap : Nat} {cs : List Ce} (h : CellsAt w (.slice p n cap) cs) (k : Nat) (hk : k ≤ cs.length) : CellsAt w (.slice (if cap = k then p else p.map (fun x => x.add (k * 18))) (cs.length - k) (cap - k)) (cs.drop k) := by
  obtain ⟨q, cap', e, hc, hf⟩ := h
  cases e
  have hl : (cs.drop k).length = cs.length - k := by simp
  refine ⟨_, cap - k, by rw [hl], by omega, fun i c hi => ?_⟩
  have hik : i < cs.length - k := by have := (List.getElem?_eq_some_iff.1 hi).1; omega
  rw [List.getElem?_drop] at hi
  obtain ⟨g, o, rfl, hg, hr⟩ := hf (k + i) c hi
  rw [if_neg (by omega), Option.map_some, add_plain]
  exact ⟨g, o + k * 18, rfl, hg, by rw [show o + k * 18 + i * 18 = o + (k + i) * 18 by omega]; exact hr⟩
end Go.Proofs.Ytkdbbdlkfpjdfaa
