/- A drawn region all of whose first operations only make blocks of their own, with a tail behind.
   Conditions: as in the law of steps. -/
import Derived.Test.YtehfinjcfjobeaaMore
import Derived.Test.YtehfinjcfjobeaaUse
import Derived.Below
namespace Go.Rg
set_option maxRecDepth 100000
set_option linter.unusedVariables false
set_option linter.unusedSimpArgs false
open Go Go.RowKit
set_option linter.unusedVariables false
variable {P : Program}
theorem wp_region_grow_tail {id : Nat} {Q : Exit → Act → World → Prop} {a : Act} {w : World} {l : List Oper} (n : Nat) (pre : List (List Nat))
    (hm : P.follows .mixedOrders = true) (hc : okPre l.toArray pre = true) (hp : preOk pre n = true) (hne : 0 < n) (ht : tailOk l.toArray n = true)
    (h : wpSteps P l.toArray pre n (fun X => Below w.heap.size w X) (fun _ _ => True) (fun _ X Y => Below X.heap.size X Y) a 0 [] (l.take n)
      (fun L => ∀ (vs : Nat → Value) (X : World), Below w.heap.size w X → (∀ i < n, (L.getD i anyPr) (vs i) X) → wpList P l.toArray Q (l.drop n) (putL l.toArray vs (List.range n) a) X)) :
    (Code.region id l.toArray true).wp P Q a w :=
  wp_region_steps_tail n pre _ _ _ hm hc hp hne ht (Below.drew (Below.refl _ _)) (fun _ => trivial) (fun j X Y _ hC _ hG => hC.trans (hG.mono hC.size)) (fun _ _ _ _ _ _ _ _ _ _ _ _ => trivial) h
theorem wp_region_grow {id : Nat} {Q : Exit → Act → World → Prop} {a : Act} {w : World} {l : List Oper} (pre : List (List Nat))
    (hm : P.follows .mixedOrders = true) (hc : okPre l.toArray pre = true) (hp : preOk pre l.length = true) (hne : 0 < l.length)
    (h : wpSteps P l.toArray pre l.length (fun X => Below w.heap.size w X) (fun _ _ => True) (fun _ X Y => Below X.heap.size X Y) a 0 [] l
      (fun L => ∀ (vs : Nat → Value) (X : World), Below w.heap.size w X → (∀ i < l.length, (L.getD i anyPr) (vs i) X) → Q .normal (putL l.toArray vs (List.range l.length) a) X)) :
    (Code.region id l.toArray true).wp P Q a w :=
  wp_region_steps pre _ _ _ hm hc hp hne (Below.drew (Below.refl _ _)) (fun _ => trivial) (fun j X Y _ hC _ hG => hC.trans (hG.mono hC.size)) (fun _ _ _ _ _ _ _ _ _ _ _ _ => trivial) h
end Go.Rg
