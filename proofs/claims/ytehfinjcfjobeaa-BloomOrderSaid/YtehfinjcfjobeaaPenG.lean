/- Contracts of package pen: the published vector.
   Conditions: those that each theorem names. -/
import Derived.Lib.SmallJoins
import Derived.Test.YtehfinjcfjobeaaPenF
import Derived.Test.YtehfinjcfjobeaaChain
namespace Go.Proofs.Ytehfinjcfjobeaa
set_option maxRecDepth 100000
set_option linter.unusedVariables false
set_option linter.unusedSimpArgs false
set_option linter.unusedVariables false
set_option linter.unusedSimpArgs false
open Go.RowKit Go.Rg
variable {lo : Nat}
attribute [local go_sem] Rg.q_add Rg.q_add' Rg.q_xor Rg.q_or Rg.q_and ba_app
/-! ### An eye's states, one behind the other -/
theorem EyeAt.len {b : Nat} {x y : Ey} {X : World} (h : EyeAt lo b x X) (k : EyeAt lo b y X) : x.s.length = y.s.length := by
  obtain ⟨p, c, _, h1, _⟩ := h
  obtain ⟨q, d, _, k1, _⟩ := k
  rw [h1] at k1
  simp at k1
  exact k1.1.2.1
theorem EyeAt.touch {b : Nat} {x : Ey} {X Y : World} {M : Nat → Prop} (h : EyeAt lo b x X) (hT : Below X.heap.size X Y) : EyeAt lo b x Y := h.below hT
structure Chain (b m : Nat) (x : Nat → Ey) : Prop where
  fall : ∀ i j, i < j → j ≤ m → (x j).s.length < (x i).s.length
theorem Chain.eq {b m : Nat} {x : Nat → Ey} (h : Chain b m x) {i j : Nat} {X : World} (hi : i ≤ m) (hj : j ≤ m) (h1 : EyeAt lo b (x i) X) (h2 : EyeAt lo b (x j) X) : i = j := by
  have e := h1.len h2
  rcases Nat.lt_trichotomy i j with c | c | c
  · have := h.fall i j c hj; omega
  · exact c
  · have := h.fall j i c hi; omega
def penvec : List UInt8 := [250, 1, 0, 0, 5, 2, 97, 98]
theorem num_65536 : numN 65536 = [250, 1, 0, 0] := by simp [numN, digits, beB_pos, beB_zero]
theorem size_65536 : sizeN 65536 = 4 := by simp [sizeN, digits, beB_pos, beB_zero]
theorem size_248 : sizeN 248 = 2 := by simp [sizeN, digits, beB_pos, beB_zero]
theorem num_5 : numN (zigN (-3)).toNat = [5] := by
  have : (zigN (-3)).toNat = 5 := by decide
  rw [this]; simp [numN]
theorem num_2 : numN 2 = [2] := by simp [numN]
def x0 : Ey := ⟨penvec, 0⟩
def x1 : Ey := ⟨[5, 2, 97, 98], 0⟩
def x2 : Ey := ⟨[2, 97, 98], 0⟩
def x3 : Ey := ⟨[], 0⟩
theorem step1 : x0.number 99999 = (65536, x1) := by
  simp [Ey.number, x0, x1, penvec, parse, valB, size_65536]
theorem step2 : x1.number 18446744073709551615 = (5, x2) := by
  simp [Ey.number, x1, x2, parse]
theorem step3 : x2.text 2 = ([97, 98], x3) := by
  simp [Ey.text, Ey.number, Ey.fixed, x2, x3, parse]
theorem step4 : x3.fin = x3 := rfl
/-- A pen of the call's own. -/
def PenIn (lo b : Nat) (l : List UInt8) (W : World) : Prop := ∃ r, PenAt b r l W ∧ lo ≤ b ∧ (∀ k, r = some k → lo ≤ k) ∧ lo ≤ W.heap.size
theorem PenIn.next {lo b : Nat} {l l' : List UInt8} {r r' : Option Nat} {w w' : World} (hb : lo ≤ b) (hr : ∀ k, r = some k → lo ≤ k) (hw : lo ≤ w.heap.size) (h : NewB w.heap.size r r' ∧ PenAt b r' l' w' ∧ Touch (PenM b r) w w') : PenIn lo b l' w' ∧ Below lo w w' := by
  obtain ⟨h1, h2, h3⟩ := h
  have hB : Below lo w w' := h3.below (by rintro j (rfl | h); exact hb; exact hr j h.symm) hw
  refine ⟨⟨r', h2, hb, ?_, Nat.le_trans hw hB.size⟩, hB⟩
  rintro k rfl
  rcases h1 with h | ⟨j, h, hj⟩
  · exact hr k h.symm
  · cases h; omega
theorem PenIn.below {lo b : Nat} {l : List UInt8} {w w' : World} (h : PenIn lo b l w) (hB : Below w.heap.size w w') : PenIn lo b l w' := by
  obtain ⟨r, h1, h2, h3, h4⟩ := h
  exact ⟨r, h1.below hB, h2, h3, Nat.le_trans h4 hB.size⟩
theorem number_in (u : UInt64) (lo b : Nat) (l : List UInt8) (w : World) (h : PenIn lo b l w) (hn : l.length ≤ 1000000000) :
    Calls Try.prog 48 #[ptr b, .int .u64 (U u)] w fun e w' => (∃ v, e = .returned v) ∧ PenIn lo b (l ++ numN u.toNat) w' ∧ Below lo w w' := by
  obtain ⟨r, h1, h2, h3, h4⟩ := h
  exact (number_any u b r l w h1 hn).mono fun e w' ⟨hv, r', q⟩ => ⟨hv, PenIn.next (l := l) h2 h3 h4 q⟩
theorem fixed_in (x : Value) (m : List UInt8) (lo b : Nat) (l : List UInt8) (w : World) (h : PenIn lo b l w) (hx : BytesAt w x m) (hn : l.length + m.length ≤ 1000000000) :
    Calls Try.prog 49 #[ptr b, x] w fun e w' => (∃ v, e = .returned v) ∧ PenIn lo b (l ++ m) w' ∧ Below lo w w' := by
  obtain ⟨r, h1, h2, h3, h4⟩ := h
  exact (fixed_any x m b r l w h1 hx hn).mono fun e w' ⟨hv, r', q⟩ => ⟨hv, PenIn.next (l := l) h2 h3 h4 q⟩
theorem bytes_in (lo b : Nat) (l : List UInt8) (w : World) (h : PenIn lo b l w) (hn : l.length ≤ 1000000000) :
    Calls Try.prog 33 #[ptr b] w fun e w' => ∃ v', e = .returned v' ∧ OwnB w' v' l ∧ (∀ k, v'.ownBlock = some k → w.heap.size ≤ k) ∧ Below w.heap.size w w' := by
  obtain ⟨r, h1, h2, h3, h4⟩ := h
  exact bytes_any b r l w h1 hn
theorem pen_new (w : World) : PenIn w.heap.size w.heap.size [] (w.alloc (.cells #[.slice none 0 0] 68)) := by
  refine ⟨none, ⟨.slice none 0 0, World.alloc_heap_new _ _, rfl, OwnB.nil _⟩, Nat.le_refl _, ?_, by simp⟩
  intro k h
  cases h
end Go.Proofs.Ytehfinjcfjobeaa
