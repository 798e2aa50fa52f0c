/- Contracts of package pen: what an eye reads.
   Conditions: those that each theorem names. -/
import Derived.Test.YtehfinjcfjobeaaPenC
namespace Go.Proofs.Ytehfinjcfjobeaa
set_option maxRecDepth 100000
set_option linter.unusedVariables false
set_option linter.unusedSimpArgs false
set_option linter.unusedVariables false
set_option linter.unusedSimpArgs false
open Go.RowKit Go.Rg
variable {lo : Nat}
attribute [local go_sem] Rg.q_add Rg.q_add' Rg.q_xor Rg.q_or Rg.q_and ba_app
/-- An eye: what is left, and its error. -/
structure Ey where
  s : List UInt8
  e : Int
def EyeAt (lo b : Nat) (x : Ey) (W : World) : Prop :=
  ∃ (p : Option Addr) (cap : Nat), x.s.length ≤ cap ∧ W.heap[b]? = some (.cells #[.slice p x.s.length cap, .int .i64 x.e] 79 (0, 0)) ∧ BytesAt W (.slice p x.s.length cap) x.s ∧ ∀ a, p = some a → a.block ≠ b ∧ a.block < W.heap.size ∧ a.block < lo
theorem EyeAt.cells {b : Nat} {x : Ey} {W : World} (h : EyeAt lo b x W) : ∃ p cap, W.cell? ⟨b, 0, none⟩ = some (.slice p x.s.length cap) ∧ W.cell? ⟨b, 1, none⟩ = some (.int .i64 x.e) ∧ W.frozen? ⟨b, 0, none⟩ = false ∧ W.frozen? ⟨b, 1, none⟩ = false ∧ x.s.length ≤ cap ∧ BytesAt W (.slice p x.s.length cap) x.s ∧
    W.heap[b]? = some (.cells #[.slice p x.s.length cap, .int .i64 x.e] 79 (0, 0)) ∧ ∀ a, p = some a → a.block ≠ b ∧ a.block < W.heap.size ∧ a.block < lo := by
  obtain ⟨p, cap, hc, h1, h2, h3⟩ := h
  exact ⟨p, cap, by simp [World.cell?, h1], by simp [World.cell?, h1], free_of h1 0, free_of h1 1, hc, h2, h1, h3⟩
theorem EyeAt.below {b : Nat} {x : Ey} {W X : World} (h : EyeAt lo b x W) (hX : Below W.heap.size W X) : EyeAt lo b x X := by
  obtain ⟨p, cap, hc, h1, h2, h3⟩ := h
  exact ⟨p, cap, hc, (hX.block b (blk_lt h1)).trans h1, h2.below hX, fun a ha => ⟨(h3 a ha).1, Nat.lt_of_lt_of_le (h3 a ha).2.1 hX.size, (h3 a ha).2.2⟩⟩
theorem EyeAt.weak {lo lo' b : Nat} {x : Ey} {W : World} (h : EyeAt lo b x W) (hl : lo ≤ lo') : EyeAt lo' b x W := by
  obtain ⟨p, cap, hc, h1, h2, h3⟩ := h
  exact ⟨p, cap, hc, h1, h2, fun a ha => ⟨(h3 a ha).1, (h3 a ha).2.1, Nat.lt_of_lt_of_le (h3 a ha).2.2 hl⟩⟩
/-- .. where the eye's block and all below 'lo' are as they were. -/
theorem EyeAt.kept {b : Nat} {x : Ey} {W X : World} (h : EyeAt lo b x W) (hb : X.heap[b]? = W.heap[b]?) (hz : W.heap.size ≤ X.heap.size) (hl : ∀ k, k < lo → k < W.heap.size → X.heap[k]? = W.heap[k]?) : EyeAt lo b x X := by
  obtain ⟨p, cap, hc, h1, h2, h3⟩ := h
  exact ⟨p, cap, hc, hb.trans h1, h2.kept (fun k hk hlt => by cases p with | none => cases hk | some a => cases hk; exact hl _ (h3 a rfl).2.2 hlt) hz, fun a ha => ⟨(h3 a ha).1, Nat.lt_of_lt_of_le (h3 a ha).2.1 hz, (h3 a ha).2.2⟩⟩
theorem EyeAt.lt {b : Nat} {x : Ey} {W : World} (h : EyeAt lo b x W) : b < W.heap.size := by
  obtain ⟨p, cap, hc, h1, _⟩ := h
  exact blk_lt h1
theorem bytes_other {b i : Nat} {W : World} {p : Option Addr} {n cap : Nat} {l : List UInt8} {v : Value} (h : BytesAt W (.slice p n cap) l) (hp : ∀ a, p = some a → a.block ≠ b) : BytesAt (W.setCell ⟨b, i, none⟩ v) (.slice p n cap) l := by
  refine h.kept (fun k hk _ => Below.heap_setCell _ _ _ _ ?_) (by show _ ≤ (W.heap.modify _ _).size; rw [Array.size_modify]; exact Nat.le_refl _)
  rintro rfl
  cases p with
  | none => cases hk
  | some a => cases hk; exact hp a rfl rfl
theorem size_set (W : World) (p : Addr) (v : Value) : (W.setCell p v).heap.size = W.heap.size := by show (W.heap.modify _ _).size = _; rw [Array.size_modify]
def Ey.fail (x : Ey) (f : Int) : Ey := if x.e = 0 ∧ f ≠ 0 then ⟨[], f⟩ else x

set_option maxRecDepth 100000 in
theorem read_any (v : Value) (l : List UInt8) (w : World) (h : BytesAt w v l) (hn : l.length ≤ 1000000000) :
    Calls Try.prog 24 #[v] w fun e w' => ∃ b, e = .returned (ptr b) ∧ w.heap.size ≤ b ∧ EyeAt w'.heap.size b ⟨l, 0⟩ w' ∧ Below w.heap.size w w' := by
  go_enter Try.func24, Try.ntmps24
  go_wp2_with fail
  refine (bytes_clone _ l w h (by omega)).mono ?_
  rintro e w1 ⟨v1, rfl, q1, q2, q3⟩
  obtain ⟨p1, c1, rfl, hlc, _⟩ := q1.shape
  have Q1 := Lib.hid q1
  have Q2 := Lib.hid q2
  clear q1 q2
  go_wp2_with fail
  go_ret
  have hA := (Below.refl w1.heap.size w1).alloc (Nat.le_refl _) (.cells #[.slice p1 l.length c1, .int .i64 0] 79)
  refine ⟨_, rfl, q3.size, ⟨p1, c1, hlc, World.alloc_heap_new _ _, Q1.out.at.below hA, ?_⟩, q3.trans (hA.mono q3.size)⟩
  intro a ha
  subst ha
  have := Q1.out.lt (k := a.block) rfl
  exact ⟨by omega, Nat.lt_of_lt_of_le this hA.size, Nat.lt_of_lt_of_le this hA.size⟩
set_option maxRecDepth 100000 in
theorem fail_any (b : Nat) (x : Ey) (f : Int) (w : World) (h : EyeAt lo b x w) :
    Calls Try.prog 40 #[ptr b, .int .i64 f] w fun e w' => (∃ v, e = .returned v) ∧ EyeAt lo b (x.fail f) w' ∧ Touch (fun k => k = b) w w' := by
  obtain ⟨p, cap, k0, k1, f0, f1, hc, hb, hh, hp⟩ := h.cells
  have H := Lib.hid h
  have HH := Lib.hid hh
  clear h hb hh
  go_enter Try.func40, Try.ntmps40
  by_cases h1 : x.e = 0
  · have e1 : (x.e == 0) = true := by simp [h1]
    by_cases h2 : f = 0
    · have e2 : (f != 0) = false := by simp [h2]
      have e3 : x.fail f = x := by unfold Ey.fail; rw [if_neg (by simp [h2])]
      clear h1 h2
      go_wp2_with fail
      go_end0
      exact ⟨⟨_, rfl⟩, by rw [e3]; exact H.out, Touch.refl _ _⟩
    · have e2 : (f != 0) = true := by simp [h2]
      have e3 : x.fail f = ⟨[], f⟩ := by unfold Ey.fail; rw [if_pos ⟨h1, h2⟩]
      have E3 := Lib.hid e3
      clear h1 h2 e3
      go_wp2_with fail
      go_end0
      rw [E3.out]
      refine ⟨⟨_, rfl⟩, ⟨none, 0, Nat.le_refl _, (block_set _ (block_set _ HH.out)).trans rfl, BytesAt.none _ _ _ _ _ rfl rfl, fun a ha => by cases ha⟩, ?_⟩
      exact ((Touch.refl (fun k => k = b) w).set b 1 _ (.inl rfl)).set b 0 _ (.inl rfl)
  · have e1 : (x.e == 0) = false := by simp [h1]
    have e3 : x.fail f = x := by unfold Ey.fail; rw [if_neg (by simp [h1])]
    clear h1
    go_wp2_with fail
    go_end0
    exact ⟨⟨_, rfl⟩, by rw [e3]; exact H.out, Touch.refl _ _⟩
theorem err_any (b : Nat) (x : Ey) (w : World) (h : EyeAt lo b x w) : Calls Try.prog 27 #[ptr b] w fun e w' => e = .returned (.int .i64 x.e) ∧ w = w' := by
  obtain ⟨p, cap, k0, k1, _⟩ := h.cells
  clear h
  go_enter Try.func27, Try.ntmps27
  go_wp2_with fail
  go_ret
  exact ⟨rfl, rfl⟩
theorem left_any (b : Nat) (x : Ey) (w : World) (h : EyeAt lo b x w) : Calls Try.prog 28 #[ptr b] w fun e w' => e = .returned (.int .i64 (x.s.length : Int)) ∧ w = w' := by
  obtain ⟨p, cap, k0, k1, _⟩ := h.cells
  clear h
  go_enter Try.func28, Try.ntmps28
  go_wp2_with fail
  go_ret
  exact ⟨rfl, rfl⟩
def Ey.fin (x : Ey) : Ey := if x.s = [] then x else x.fail 13
set_option maxRecDepth 100000 in
theorem eye_take (b n : Nat) (x : Ey) (w : World) (h : EyeAt lo b x w) (hn : n ≤ x.s.length) : Calls Try.prog 55 #[ptr b, .int .i64 (n : Int)] w fun e w' => (∃ v, e = .returned v ∧ BytesAt w' v (x.s.take n)) ∧ EyeAt lo b ⟨x.s.drop n, x.e⟩ w' ∧ Touch (fun k => k = b) w w' := by
  obtain ⟨p, cap, k0, k1, f0, f1, hc, hb, hh, hp⟩ := h.cells
  have HH := Lib.hid hh
  have HB := Lib.hid hb
  have e1 : decide (n ≤ cap) = true := decide_eq_true (by omega)
  have hcn : n ≤ cap := by omega
  clear h hb hh
  go_enter Try.func55, Try.ntmps55
  go_wp2_with fail
  · go_ret
    have hz : (w.setCell ⟨b, 0, none⟩ (.slice p (x.s.length - n) 0)).heap.size = w.heap.size := size_set _ _ _
    refine ⟨⟨_, rfl, (bytes_other HB.out (fun a ha => (hp a ha).1)).pre n n hn⟩, ⟨p, 0, by simp; omega, (block_set _ HH.out).trans (by simp), BytesAt.none _ _ _ _ _ (by simp; omega) (by simp; omega), fun a ha => ⟨(hp a ha).1, by rw [hz]; exact (hp a ha).2⟩⟩, ?_⟩
    exact (Touch.refl (fun k => k = b) w).set b 0 _ (.inl rfl)
  · go_ret
    have hz : (w.setCell ⟨b, 0, none⟩ (.slice (Option.map (fun x => x.add n) p) (x.s.length - n) (cap - n))).heap.size = w.heap.size := size_set _ _ _
    refine ⟨⟨_, rfl, (bytes_other HB.out (fun a ha => (hp a ha).1)).pre n n hn⟩, ⟨Option.map (fun x => x.add n) p, cap - n, by simp; omega, (block_set _ HH.out).trans (by simp), ?_, ?_⟩, ?_⟩
    · have := (bytes_other (i := 0) (v := .slice (Option.map (fun x => x.add n) p) (x.s.length - n) (cap - n)) HB.out (fun a ha => (hp a ha).1)).sub n (x.s.length - n) (cap - n) (by omega)
      rw [List.take_of_length_le (by simp)] at this
      simpa using this
    · intro a ha
      cases p with
      | none => cases ha
      | some q =>
        cases ha
        rw [hz]
        have hq := hp q rfl
        have e : (q.add n).block = q.block := by unfold Addr.add; split <;> rfl
        rw [e]; exact hq
    · exact (Touch.refl (fun k => k = b) w).set b 0 _ (.inl rfl)
end Go.Proofs.Ytehfinjcfjobeaa
