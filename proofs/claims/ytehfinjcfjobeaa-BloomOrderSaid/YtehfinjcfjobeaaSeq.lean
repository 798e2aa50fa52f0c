/- Small laws for ranges over functions: what a round keeps, labels' scopes, the wide fence.
   Conditions: those that each theorem names. -/
import Derived.RangeFuncNested
import Derived.RangeFuncBound
import Derived.RangeFuncCalls
import Derived.RangeFuncLeaves
import Derived.RangeFuncBox
import Derived.Shelf.Abstract
import Derived.Shelf.RegionOpen
import Derived.WalkKit
import Derived.OwnWalkIn
import Derived.TacticsInMore
import Derived.LoopNIn
import Derived.LoopIn
import Derived.WalkMore
namespace Go.Rg
set_option maxRecDepth 100000
set_option linter.unusedVariables false
set_option linter.unusedSimpArgs false
open Go Go.RowKit

theorem wide_d {m : Nat} : Fence.wide.depth.isSome = true → 1 ≤ m := fun h => by simp [Fence.wide] at h
theorem wpIn_scope_wide {P : Program} {n : Nat} {Q : Exit → Act → World → Prop} {a : Act} {w : World} {c : Code} (h : c.wpIn Fence.wide n P (Exit.noGoto Q) a w) : (Code.scope c).wpIn Fence.wide n P Q a w :=
  wpIn_wide.2 (wp_scope_straight (wpIn_wide.1 h))

/-- What a round keeps: the blocks of M lie as they lay. -/
def Keeps (M : Nat → Prop) (W W' : World) : Prop := ∀ k, M k → W'.heap[k]? = W.heap[k]?
theorem Keeps.refl (M : Nat → Prop) (W : World) : Keeps M W W := fun _ _ => rfl
theorem Keeps.trans {M : Nat → Prop} {A B C : World} (h : Keeps M A B) (k : Keeps M B C) : Keeps M A C := fun j hj => (k j hj).trans (h j hj)
theorem Keeps.cell {M : Nat → Prop} {W W' : World} (h : Keeps M W W') {b : Nat} (hb : M b) (o : Nat) (s : Option _) : W'.cell? ⟨b, o, s⟩ = W.cell? ⟨b, o, s⟩ := World.cell?_of_block (w := W) (h b hb)
theorem Keeps.boxed {M : Nat → Prop} {W W' : World} (h : Keeps M W W') {b : Nat} (hb : M b) {T : TypeId} {v : Value} (hv : Boxed W b T v) : Boxed W' b T v := (h b hb).trans hv
theorem keeps_t {M : Nat → Prop} {A B C : World} (h : Keeps M A B) (k : Keeps M B C) : Keeps M A C := h.trans k
theorem keeps_b {M : Nat → Prop} {w : World} (hM : ∀ k, M k → k < w.heap.size) (W : World) (l : Nat) (o o' : Obj) (hl : w.heap.size ≤ l) (h : W.heap[l]? = some o) (_ : o.isCells = false) (_ : o.isWalk = false) : Keeps M W (W.putObj l o') :=
  fun k hk => (grownBy_putObj' W l o').block k (by have := (Array.getElem?_eq_some_iff.1 h).1; have := hM k hk; omega) (fun e => by have := hM k hk; have := Option.some.inj e; omega)
theorem Keeps.grown {M : Nat → Prop} {W W' : World} {row : Option Nat} (hg : W.grownBy W' row) (hM : ∀ k, M k → k < W.heap.size ∧ some k ≠ row) : Keeps M W W' :=
  fun k hk => hg.block k (hM k hk).1 (hM k hk).2
theorem Keeps.of_below {M : Nat → Prop} {B : Nat} {W W' : World} (h : Below B W W') (hM : ∀ k, M k → k < B) : Keeps M W W' := fun k hk => h.block k (hM k hk)
theorem Keeps.drew (M : Nat → Prop) (W : World) : Keeps M W W.drew := fun _ _ => rfl

/-- What a state says that speaks of blocks of cells, and of what lies below B. -/
structure Stays (B : Nat) (W W' : World) : Prop where
  os : W'.os = W.os
  tape : W'.tape = W.tape
  output : W'.output = W.output
  size : W.heap.size ≤ W'.heap.size
  cells : ∀ (k : Nat) (c : Array Value) (e : TypeId) (f : Nat × Nat), W.heap[k]? = some (Obj.cells c e f) → W'.heap[k]? = some (Obj.cells c e f)
  low : ∀ k : Nat, k < B → k < W.heap.size → W'.heap[k]? = W.heap[k]?

theorem ownFrom_of_stays {β : Type} {B : Nat} {I : β → World → Prop} (h : ∀ s W W', Stays B W W' → I s W → I s W') : OwnFrom B I := by
  intro s W W' row hs hg hr
  refine h s W W' ⟨hg.os, hg.tape, hg.output, hg.size, fun k c e f hk => ?_, fun k hk hk' => ?_⟩ hs
  · refine (hg.block k (Array.getElem?_eq_some_iff.1 hk).1 (fun e' => ?_)).trans hk
    obtain ⟨_, o, ho, hc⟩ := hr k e'.symm
    rw [hk] at ho; cases ho; cases hc
  · exact hg.block k hk' (fun e' => by have := (hr k e'.symm).1; omega)

theorem Stays.boxed {B : Nat} {W W' : World} (h : Stays B W W') {b : Nat} {T : TypeId} {v : Value} (hv : Boxed W b T v) : Boxed W' b T v := h.cells _ _ _ _ hv
theorem Stays.row {B : Nat} {W W' : World} (h : Stays B W W') {base : Nat} {e : TypeId} {size : Nat} {v : Value} {k : Nat} {xs : List Value} (hr : W.ownsRow base e size v k xs) : W'.ownsRow base e size v k xs := by
  rcases hr with ⟨h1, h2 | ⟨g, cap, cur, hv, hb, hg, hrest⟩⟩
  · exact ⟨h1, .inl h2⟩
  · exact ⟨h1, .inr ⟨g, cap, cur, hv, hb, h.cells _ _ _ _ hg, hrest⟩⟩
theorem Stays.below {B n₀ : Nat} {W0 W W' : World} (h : Stays B W W') (hb : Below n₀ W0 W) (h1 : n₀ ≤ B) (h2 : n₀ ≤ W0.heap.size) : Below n₀ W0 W' :=
  ⟨h.os.trans hb.os, h.tape.trans hb.tape, h.output.trans hb.output, Nat.le_trans hb.size h.size, fun k hk => (h.low k (by omega) (by have := hb.size; omega)).trans (hb.block k hk)⟩

theorem Stays.refl (B : Nat) (W : World) : Stays B W W := ⟨rfl, rfl, rfl, Nat.le_refl _, fun _ _ _ _ h => h, fun _ _ _ => rfl⟩
theorem Stays.trans {B : Nat} {X Y Z : World} (h : Stays B X Y) (k : Stays B Y Z) : Stays B X Z :=
  ⟨k.os.trans h.os, k.tape.trans h.tape, k.output.trans h.output, Nat.le_trans h.size k.size, fun j c e f hj => k.cells j c e f (h.cells j c e f hj), fun j hj hj' => (k.low j hj (Nat.lt_of_lt_of_le hj' h.size)).trans (h.low j hj hj')⟩
theorem Stays.drewN (B : Nat) (W : World) (n : Nat) : Stays B W (W.drewN n) := ⟨rfl, rfl, rfl, Nat.le_refl _, fun _ _ _ _ h => h, fun _ _ _ => rfl⟩
theorem Stays.putObj {B : Nat} {W : World} {l : Nat} {o : Obj} (o' : Obj) (hl : W.heap[l]? = some o) (hc : o.isCells = false) (hB : B ≤ l) : Stays B W (W.putObj l o') := by
  have hg := grownBy_putObj' W l o'
  refine ⟨hg.os, hg.tape, hg.output, hg.size, fun k c e f hk => ?_, fun k hk hk' => hg.block k hk' (fun e => by have := Option.some.inj e; omega)⟩
  refine (hg.block k (Array.getElem?_eq_some_iff.1 hk).1 (fun e => ?_)).trans hk
  obtain rfl := Option.some.inj e
  rw [hk] at hl; cases hl; cases hc
theorem row_base {w : World} {base base' : Nat} {e : TypeId} {size : Nat} {v : Value} {n : Nat} {xs : List Value} (h : w.ownsRow base e size v n xs) (hb : base' ≤ base) : w.ownsRow base' e size v n xs := by
  rcases h with ⟨h1, h2 | ⟨g, cap, cur, hv, hg, hrest⟩⟩
  · exact ⟨h1, .inl h2⟩
  · exact ⟨h1, .inr ⟨g, cap, cur, hv, by omega, hrest⟩⟩
theorem row_shape {w : World} {base : Nat} {e : TypeId} {size : Nat} {v : Value} {n : Nat} {xs : List Value} (h : w.ownsRow base e size v n xs) : ∃ p c, v = .slice p n c := by
  rcases h.2 with ⟨rfl, rfl⟩ | ⟨g, cap, _, rfl, _⟩
  · exact ⟨_, _, rfl⟩
  · exact ⟨_, _, rfl⟩
theorem cell_of_lit {w : World} {g : Nat} {l : List Value} {e : TypeId} (h : w.heap[g]? = some (.cells l.toArray e (0, 0))) : ∀ j u, l[j]? = some u → w.cell? ((⟨g, 0, none⟩ : Addr).add j) = some u := by
  intro j u hu
  rw [Addr.add_lit]
  simp [World.cell?, h, hu]

/-- The built-ins max and min at two integers, in one piece. -/
theorem max2_int (k k' : IntKind) (x y : Int) : Builtin.max2 (.int k x) (.int k' y) = pure (.int k (max x y)) := by
  simp only [Builtin.max2, gt_iff_lt]
  by_cases h : x < y
  · rw [if_pos h, Int.max_eq_right (by omega)]
  · rw [if_neg h, Int.max_eq_left (by omega)]
theorem min2_int (k k' : IntKind) (x y : Int) : Builtin.min2 (.int k x) (.int k' y) = pure (.int k (min x y)) := by
  simp only [Builtin.min2]
  by_cases h : y < x
  · rw [if_pos h, Int.min_eq_right (by omega)]
  · rw [if_neg h, Int.min_eq_left (by omega)]
theorem max_two (ats : Array TypeId) (ty : TypeId) (a b : Value) : Builtin.max_ ats ty #[a, b] = (Builtin.max2 a b >>= fun s => pure s) := by simp only [Builtin.max_, List.foldlM_cons, List.foldlM_nil]
theorem min_two (ats : Array TypeId) (ty : TypeId) (a b : Value) : Builtin.min_ ats ty #[a, b] = (Builtin.min2 a b >>= fun s => pure s) := by simp only [Builtin.min_, List.foldlM_cons, List.foldlM_nil]

theorem wf_i64 {n : Int} (h : (Lit.int .i64 n).wf = true) : -9223372036854775808 ≤ n ∧ n ≤ 9223372036854775807 := by
  have hmin : IntKind.i64.min = -9223372036854775808 := rfl
  have hmax : IntKind.i64.max = 9223372036854775807 := rfl
  have h2 : IntKind.i64.min ≤ n ∧ n ≤ IntKind.i64.max := by simpa [Lit.wf] using h
  rw [hmin, hmax] at h2
  exact h2

end Go.Rg
