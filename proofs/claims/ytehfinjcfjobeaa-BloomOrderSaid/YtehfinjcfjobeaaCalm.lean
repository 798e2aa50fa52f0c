/- A region that draws its order and whose calls make blocks of their own: one walk of the text's order serves every order.
   Conditions: every operation yields one value in every world that grew out of the first; none writes to an old block. -/
import Derived.Deep.QuietTactic
import Derived.Below
import Derived.Tactics2
namespace Go.Rg
set_option maxRecDepth 100000
set_option linter.unusedVariables false
set_option linter.unusedSimpArgs false
open Go Go.RowKit

theorem calls_calm {P : Program} {f : FuncId} {args : Array Value} {w X : World} {v : Value} (hX : Below w.heap.size w X)
    (h : Calls P f args X fun e w' => e = .returned v ∧ Below X.heap.size X w') : Calls P f args X fun e w' => e = .returned v ∧ Below w.heap.size w w' :=
  h.mono fun _ _ ⟨he, hB⟩ => ⟨he, hX.trans (hB.mono hX.size)⟩
theorem calls_calm_same {P : Program} {f : FuncId} {args : Array Value} {w X : World} {v : Value} (hX : Below w.heap.size w X)
    (h : Calls P f args X fun e w' => e = .returned v ∧ X = w') : Calls P f args X fun e w' => e = .returned v ∧ Below w.heap.size w w' :=
  h.mono fun _ _ ⟨he, hB⟩ => ⟨he, hB ▸ hX⟩

theorem wp_region_calm_lit {P : Program} {id : Nat} {Q : Exit → Act → World → Prop} {a : Act} {w : World} {l : List Oper} (hm : P.follows .mixedOrders = true) (hB : Region.lexB .any l.toArray = true)
    (h : wpQuiet P l.toArray (fun X => Below w.heap.size w X) (fun a' => ∀ X, Below w.heap.size w X → Q .normal a' X) l a) : (Code.region id l.toArray true).wp P Q a w :=
  wp_region_quiet (C := fun X => Below w.heap.size w X) hm hB (Below.drew (Below.refl _ _)) (by simpa using h)

theorem calm_want {P : Program} {ops : Array Oper} {C : World → Prop} {Q : Act → Prop} {a : Act} {o : Oper} {rest : List Oper} (v : Value) (h : Region.wanted o (yielded ops a.tmps) = true) (h1 : ∀ X, C X → o.quietAt P a C X v)
    (h2 : ∀ K : Act → Prop, (∀ a, wpQuiet P ops C Q rest a → K a) → K (a.put o.dst v)) : wpQuiet P ops C Q (o :: rest) a := by
  unfold wpQuiet
  rw [if_pos h]
  exact ⟨v, h1, h2 _ (fun _ h => h)⟩
theorem calm_skip {P : Program} {ops : Array Oper} {C : World → Prop} {Q : Act → Prop} {a : Act} {o : Oper} {rest : List Oper} (h : Region.wanted o (yielded ops a.tmps) = false)
    (h2 : ∀ K : Act → Prop, (∀ a, wpQuiet P ops C Q rest a → K a) → K (a.put o.dst undef)) : wpQuiet P ops C Q (o :: rest) a := by
  unfold wpQuiet
  rw [if_neg (by simp [h])]
  exact h2 _ (fun _ h => h)

end Go.Rg
