/- Two eyes, side by side.
   Conditions: those that each theorem names. -/
import Derived.Test.YtfmgkllnncibaaaP
import Derived.Test.YtfmgkllnncibaaaG
namespace Go.Proofs.Ytfmgkllnncibaaa
set_option linter.unusedVariables false
set_option linter.unusedSimpArgs false
open Go.RowKit Go.Rg
attribute [local go_sem] Rg.q_add Rg.q_add' Rg.q_xor Rg.q_or Rg.q_and ba_app
theorem EyeAt.other {eb xb : Nat} {y x : Ey} {X Y : World} (h : EyeAt eb y X) (hr : RefAt xb x X) (hT : Touch (fun k => k = xb) X Y) (hne : eb ≠ xb) : EyeAt eb y Y := by
  obtain ⟨p, cap, hc, h1, h2, h3⟩ := h
  refine ⟨p, cap, hc, hT.keep h1 hne, ?_, fun a ha => ⟨(h3 a ha).1, Nat.lt_of_lt_of_le (h3 a ha).2 hT.size⟩⟩
  by_cases h0 : y.s.length = 0
  · exact BytesAt.none _ _ _ _ _ h0 h0
  obtain ⟨p', cap', hv, hf⟩ := h2
  obtain ⟨g, o, e1, hg, hcc⟩ := hf 0 (by omega)
  cases hv
  subst e1
  have hgx : g ≠ xb := by
    rintro rfl
    have hr' : X.heap[g]? = some (.cells #[str x.s, .int .i64 x.e] 53 (0, 0)) := hr
    simp only [World.cell?, hr'] at hcc
    rcases o with _ | _ | o
    · simp at hcc
    · simp at hcc
    · simp at hcc
  refine BytesAt.kept ⟨_, _, rfl, hf⟩ ?_ hT.size
  rintro k hk hlt
  cases hk
  exact hT.block _ hlt hgx
theorem eye_not_ref {b : Nat} {y x : Ey} {X : World} (h : EyeAt b y X) (hr : RefAt b x X) : False := by
  obtain ⟨p, cap, hc, h1, h2, h3⟩ := h
  have := h1.symm.trans (show X.heap[b]? = _ from hr)
  simp at this
theorem Touch.none {M : Nat → Prop} {X Y : World} (h : Touch M X Y) (hM : ∀ k, ¬ M k) : Below X.heap.size X Y :=
  h.below (fun j hj => absurd hj (hM j)) (Nat.le_refl _)
/-- What stands till the operations 'i1' (upon the eye) and 'i2' (upon the document's eye) come, and what each operation does. -/
def PB (eb xb : Nat) (y x : Ey) (i1 i2 : Nat) (i : Nat) (X : World) : Prop := (i = i1 → EyeAt eb y X) ∧ (i = i2 → RefAt xb x X)
def PG (eb xb i1 i2 : Nat) (j : Nat) (X Y : World) : Prop := Touch (fun k => j = i1 ∧ k = eb ∨ j = i2 ∧ k = xb) X Y
theorem PB.keep {eb xb : Nat} {y x : Ey} {i1 i2 i j : Nat} {X Y : World} (hne : eb ≠ xb) (hij : j ≠ i) (hj : PB eb xb y x i1 i2 j X) (hG : PG eb xb i1 i2 j X Y) (h : PB eb xb y x i1 i2 i X) : PB eb xb y x i1 i2 i Y := by
  constructor
  · intro e
    have hE := h.1 e
    by_cases h2 : j = i2
    · exact hE.other (hj.2 h2) (Touch.weak hG (by rintro k _ (⟨a, b⟩ | ⟨a, b⟩) <;> omega)) hne
    · exact hE.below (Touch.none hG (by rintro k (⟨a, b⟩ | ⟨a, b⟩) <;> omega))
  · intro e
    have hE := h.2 e
    exact hE.keep hG (by rintro (⟨a, b⟩ | ⟨a, b⟩) <;> omega)
theorem PG.low {eb xb i1 i2 j n : Nat} {X Y : World} (hG : PG eb xb i1 i2 j X Y) (h1 : n ≤ eb) (h2 : n ≤ xb) (hn : n ≤ X.heap.size) : Below n X Y :=
  Touch.below hG (by rintro k (⟨a, b⟩ | ⟨a, b⟩) <;> omega) hn
theorem PG.eye {eb xb i1 i2 j : Nat} {X Y : World} (hj : j = i1) (hT : Touch (fun k => k = eb) X Y) : PG eb xb i1 i2 j X Y := Touch.weak hT (fun k _ hk => .inl ⟨hj, hk⟩)
theorem PG.ref {eb xb i1 i2 j : Nat} {X Y : World} (hj : j = i2) (hT : Touch (fun k => k = xb) X Y) : PG eb xb i1 i2 j X Y := Touch.weak hT (fun k _ hk => .inr ⟨hj, hk⟩)
theorem PG.keepE {eb xb : Nat} {y y' x : Ey} {i1 i2 j : Nat} {X Y : World} (hne : eb ≠ xb) (hij : j ≠ i1) (hj : PB eb xb y x i1 i2 j X) (hG : PG eb xb i1 i2 j X Y) (hE : EyeAt eb y' X) : EyeAt eb y' Y := by
  by_cases h2 : j = i2
  · exact hE.other (hj.2 h2) (Touch.weak hG (by rintro k _ (⟨a, b⟩ | ⟨a, b⟩) <;> omega)) hne
  · exact hE.below (Touch.none hG (by rintro k (⟨a, b⟩ | ⟨a, b⟩) <;> omega))
theorem PG.keepR {eb xb : Nat} {x' : Ey} {i1 i2 j : Nat} {X Y : World} (hne : eb ≠ xb) (hij : j ≠ i2) (hG : PG eb xb i1 i2 j X Y) (hE : RefAt xb x' X) : RefAt xb x' Y :=
  hE.keep hG (by rintro (⟨a, b⟩ | ⟨a, b⟩) <;> omega)
theorem PG.keepO {eb xb : Nat} {i1 i2 j : Nat} {X Y : World} {v : Value} {l : List UInt8} (hij : j ≠ i1) (hG : PG eb xb i1 i2 j X Y) (h : OwnB X v l) (hx : ∀ k, v.ownBlock = some k → xb < k) : OwnB Y v l :=
  h.kept (fun g hg => Touch.block hG g (h.lt hg) (by have := hx g hg; rintro (⟨a, b⟩ | ⟨a, b⟩) <;> omega))
end Go.Proofs.Ytfmgkllnncibaaa
