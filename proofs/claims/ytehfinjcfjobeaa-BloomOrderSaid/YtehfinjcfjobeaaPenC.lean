/- Contracts of package pen: what a pen writes, more.
   Conditions: those that each theorem names. -/
import Derived.Test.YtehfinjcfjobeaaPenB
namespace Go.Proofs.Ytehfinjcfjobeaa
set_option maxRecDepth 100000
set_option linter.unusedVariables false
set_option linter.unusedSimpArgs false
set_option linter.unusedVariables false
set_option linter.unusedSimpArgs false
open Go.RowKit Go.Rg
attribute [local go_sem] Rg.q_add Rg.q_add' Rg.q_xor Rg.q_or Rg.q_and ba_app
theorem own_app {w : World} {v : Value} {l m : List UInt8} (h : w.ownsRow 0 5 1 v (l.length + m.length) (l.map byteV ++ m.map byteV)) : OwnB w v (l ++ m) := by
  unfold OwnB
  rw [List.length_append, List.map_append]
  exact h
set_option maxRecDepth 100000 in
set_option maxHeartbeats 4000000 in
theorem fixed_any (x : Value) (m : List UInt8) (b : Nat) (r : Option Nat) (l : List UInt8) (w : World) (h : PenAt b r l w) (hx : BytesAt w x m) (hn : l.length + m.length ≤ 1000000000) :
    Calls Try.prog 49 #[ptr b, x] w fun e w' => (∃ v, e = .returned v) ∧ ∃ r', NewB w.heap.size r r' ∧ PenAt b r' (l ++ m) w' ∧ Touch (PenM b r) w w' := by
  obtain ⟨v, h1, rfl, h3⟩ := h
  obtain ⟨i0, hi0, hz0, hz1, hz2⟩ := info_parts infoC
  have c0 : w.cell? ⟨b, 0, none⟩ = some v := by simp [World.cell?, h1]
  obtain ⟨pv, cv, rfl, hlc, _, _⟩ := h3.shape
  obtain ⟨p, cap, rfl, hf⟩ := id hx
  have HO := Lib.hid h3
  have H1 := Lib.hid h1
  have hA := Below.refl w.heap.size w
  go_enter Try.func49, Try.ntmps49
  cases p with
  | none =>
    have h0 : m = [] := by
      cases m with
      | nil => rfl
      | cons c l => obtain ⟨g, o, e, _⟩ := hf 0 (by simp); cases e
    subst h0
    have f2 := free_of h1 0
    obtain ⟨r', q1, q2, q3⟩ := PenAt.stored (w1 := w) (w2 := w) h1 h3 hA (World.grownBy.refl _ _) h3 (.inl rfl)
    have Q1 := Lib.hid q1
    have Q2 := Lib.hid q2
    have Q3 := Lib.hid q3
    clear hf hx q1 q2 q3 h1 h3
    go_wp2_with (at_builtin; refine wpList_append_own_none _ rfl _ _ 25 rfl 0 5 i0 1 Try.underlying25 hi0 hz1 _ l.length cap (l.map byteV) rfl HO.out rfl ?_)
    go_end0
    rw [List.append_nil]
    exact ⟨⟨_, rfl⟩, r', Q1.out, Q2.out, Q3.out⟩
  | some ad =>
    have HC := Lib.hid hx.cells
    have hm : l.length + m.length ≤ maxLen := by unfold maxLen; omega
    have hm2 : (l.length + m.length) * 1 ≤ 140737488355328 := by omega
    clear hf hx h1 h3
    go_wp2_with (at_builtin; refine wpList_append_own_at _ rfl _ _ 25 rfl 0 5 i0 (.int .u8 0) 1 1 Try.underlying25 hi0 hz0 hz1 hz2 rfl (by decide) _ l.length (l.map byteV) rfl HO.out ad m.length cap (m.map byteV) rfl (by simp) HC.out (bytes_oneCell m) hm hm2 (Nat.zero_le _) ?_)
    intro v' w2 ho hg hni hat
    have hbox := PenAt.box H1.out HO.out hA hg
    have f2 := free_of hbox 0
    have c2 : w2.cell? ⟨b, 0, none⟩ = some (.slice pv l.length cv) := by simp [World.cell?, hbox]
    obtain ⟨r', q1, q2, q3⟩ := PenAt.stored H1.out HO.out hA hg (own_app ho) (by simpa using hat)
    obtain ⟨p', cp', e', _⟩ := (own_app ho).shape
    rw [List.length_append] at e'
    subst e'
    have Q1 := Lib.hid q1
    have Q2 := Lib.hid q2
    have Q3 := Lib.hid q3
    clear q1 q2 q3 hbox ho hat hni hg
    go_wp2_with fail
    go_end0
    exact ⟨⟨_, rfl⟩, r', Q1.out, Q2.out, Q3.out⟩
set_option maxRecDepth 100000 in
theorem bytes_any (b : Nat) (r : Option Nat) (l : List UInt8) (w : World) (h : PenAt b r l w) (hn : l.length ≤ 1000000000) :
    Calls Try.prog 33 #[ptr b] w fun e w' => ∃ v', e = .returned v' ∧ OwnB w' v' l ∧ (∀ k, v'.ownBlock = some k → w.heap.size ≤ k) ∧ Below w.heap.size w w' := by
  obtain ⟨v, h1, rfl, h3⟩ := h
  have c0 : w.cell? ⟨b, 0, none⟩ = some v := by simp [World.cell?, h1]
  obtain ⟨pv, cv, rfl, hlc, _, _⟩ := h3.shape
  have H3 := Lib.hid h3
  clear h3
  go_enter Try.func33, Try.ntmps33
  go_wp2_with fail
  refine (bytes_clone _ l w H3.out.at (by omega)).mono ?_
  rintro e w1 ⟨v1, rfl, q1, q2, q3⟩
  have Q1 := Lib.hid q1
  have Q2 := Lib.hid q2
  clear q1 q2
  go_wp2_with fail
  go_ret
  exact ⟨v1, rfl, Q1.out, Q2.out, q3⟩
theorem number_nil (v : Value) (w : World) : Calls Try.prog 48 #[.pointer none, v] w fun e w' => (∃ v, e = .returned v) ∧ w = w' := by
  go_enter Try.func48, Try.ntmps48
  go_wp2_with fail
  refine bodyPost_ret (results_none rfl _ _ _) rfl ?_
  exact ⟨⟨_, rfl⟩, rfl⟩
theorem fixed_nil (v : Value) (w : World) : Calls Try.prog 49 #[.pointer none, v] w fun e w' => (∃ v, e = .returned v) ∧ w = w' := by
  go_enter Try.func49, Try.ntmps49
  go_wp2_with fail
  go_end0
  exact ⟨⟨_, rfl⟩, rfl⟩
theorem bytes_nil (w : World) : Calls Try.prog 33 #[.pointer none] w fun e w' => e = .returned (.slice none 0 0) ∧ w = w' := by
  go_enter Try.func33, Try.ntmps33
  go_wp2_with fail
  go_ret
  exact ⟨rfl, rfl⟩
end Go.Proofs.Ytehfinjcfjobeaa
