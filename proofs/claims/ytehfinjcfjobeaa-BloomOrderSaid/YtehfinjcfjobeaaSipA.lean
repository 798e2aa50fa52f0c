/- Contracts of package sip's rounds.
   Conditions: those that each theorem names. -/
import Derived.Test.YtehfinjcfjobeaaRows
import Derived.WalkKit
import Derived.WalkSpells
import Derived.WalkLawsBesides
import Derived.Lib.Hide
import Derived.Test.YtehfinjcfjobeaaBytes
import Derived.Test.YtehfinjcfjobeaaTail
namespace Go.Proofs.Ytehfinjcfjobeaa
set_option maxRecDepth 100000
set_option linter.unusedVariables false
set_option linter.unusedSimpArgs false
open Go.RowKit Go.Rg
attribute [local go_sem] Rg.q_add Rg.q_add' Rg.q_xor Rg.q_or Rg.q_and

def rot (x : UInt64) (k : Nat) : UInt64 := (x <<< k.toUInt64) ||| (x >>> (64 - k).toUInt64)
theorem rot_eq (x : UInt64) (k : Nat) (h0 : 0 < k) (hk : k < 64) : bits .or .u64 (IntKind.u64.wrap (U x * 2 ^ k)) (U x / 2 ^ (64 - k)) = U (rot x k) := by
  rw [q_shl x k hk, q_shr x (64 - k) (by omega), q_or]; rfl
theorem ret_int {k : IntKind} {a b : Int} (h : a = b) : Ending.returned (.int k a) = .returned (.int k b) := by rw [h]
theorem and63 (k : Nat) (hk : k < 64) : bits .and .u64 (k : Int) 63 = k := by
  have := bits_mask .u64 64 (by decide) wraps_u64 6 (by decide) (k : Int) (by omega) (by omega)
  rw [show (2 : Int) ^ 6 - 1 = 63 from rfl] at this
  rw [this]; omega
theorem rot_any (x : UInt64) (k : Nat) (h0 : 0 < k) (hk : k < 64) (w : World) : Calls Try.prog 60 #[.int .u64 (U x), .int .i64 k] w fun e w' => e = .returned (.int .u64 (U (rot x k))) ∧ w' = w := by
  have hx := U_nonneg x
  have hx' := U_lt x
  have hm := and63 k hk
  go_enter Try.func60, Try.ntmps60
  go_wp2
  go_ret
  exact ⟨ret_int (rot_eq x k h0 hk), rfl⟩

/-- One round, as the code does it. -/
structure S4 where
  a : UInt64
  b : UInt64
  c : UInt64
  d : UInt64
def S4.round (s : S4) : S4 :=
  let a := s.a + s.b
  let c := s.c + s.d
  let b := rot s.b 13 ^^^ a
  let d := rot s.d 16 ^^^ c
  let a := rot a 32
  let c := c + b
  let a := a + d
  let b := rot b 17 ^^^ c
  let d := rot d 21 ^^^ a
  let c := rot c 32
  ⟨a, b, c, d⟩
def S4.vals (s : S4) : List Value := [.int .u64 (U s.a), .int .u64 (U s.b), .int .u64 (U s.c), .int .u64 (U s.d)]

/-- Block b alone may have changed; no block is new. -/
structure Only (b : Nat) (w w' : World) : Prop where
  os : w'.os = w.os
  tape : w'.tape = w.tape
  output : w'.output = w.output
  size : w'.heap.size = w.heap.size
  block : ∀ k : Nat, k ≠ b → w'.heap[k]? = w.heap[k]?
theorem Only.refl (b : Nat) (w : World) : Only b w w := ⟨rfl, rfl, rfl, rfl, fun _ _ => rfl⟩
theorem Only.trans {b : Nat} {x y z : World} (h : Only b x y) (k : Only b y z) : Only b x z :=
  ⟨k.os.trans h.os, k.tape.trans h.tape, k.output.trans h.output, k.size.trans h.size, fun j hj => (k.block j hj).trans (h.block j hj)⟩
theorem Only.drew {b : Nat} {x y : World} (h : Only b x y) : Only b x y.drew := ⟨h.os, h.tape, h.output, h.size, h.block⟩
theorem Only.drewN {b : Nat} {x y : World} (h : Only b x y) (n : Nat) : Only b x (y.drewN n) := ⟨h.os, h.tape, h.output, h.size, h.block⟩
theorem Only.setCell {b : Nat} {x y : World} (h : Only b x y) (i : Nat) (v : Value) : Only b x (y.setCell ⟨b, i, none⟩ v) :=
  ⟨h.os, h.tape, h.output, by show (y.heap.modify _ _).size = _; rw [Array.size_modify]; exact h.size, fun k hk => (Below.heap_setCell y _ v k hk).trans (h.block k hk)⟩
theorem block_drew {w : World} {b : Nat} {o : Obj} (h : w.heap[b]? = some o) : w.drew.heap[b]? = some o := h

set_option maxRecDepth 100000 in
set_option maxHeartbeats 2000000 in
theorem round_any (s : S4) (rest : List Value) (T : TypeId) (b : Nat) (w : World) (hb : w.heap[b]? = some (.cells (s.vals ++ rest).toArray T (0, 0))) :
    Calls Try.prog 58 #[.pointer (some ⟨b, 0, none⟩)] w fun e w' => (∃ v, e = .returned v) ∧ w'.heap[b]? = some (.cells (s.round.vals ++ rest).toArray T (0, 0)) ∧ Only b w w' := by
  obtain ⟨a0, b0, c0, d0⟩ := s
  have k0 : w.cell? ⟨b, 0, none⟩ = some (.int .u64 (U a0)) := by simp [World.cell?, hb, S4.vals]
  have k1 : w.cell? ⟨b, 1, none⟩ = some (.int .u64 (U b0)) := by simp [World.cell?, hb, S4.vals]
  have k2 : w.cell? ⟨b, 2, none⟩ = some (.int .u64 (U c0)) := by simp [World.cell?, hb, S4.vals]
  have k3 : w.cell? ⟨b, 3, none⟩ = some (.int .u64 (U d0)) := by simp [World.cell?, hb, S4.vals]
  have f0 : w.frozen? ⟨b, 0, none⟩ = false := by simp [World.frozen?, hb]
  have f1 : w.frozen? ⟨b, 1, none⟩ = false := by simp [World.frozen?, hb]
  have f2 : w.frozen? ⟨b, 2, none⟩ = false := by simp [World.frozen?, hb]
  have f3 : w.frozen? ⟨b, 3, none⟩ = false := by simp [World.frozen?, hb]
  have HB := Lib.hid hb
  clear hb
  go_enter Try.func58, Try.ntmps58
  go_wp2_with fail
  refine wp_region_still_tail 11 (by kernel_rfl) (by kernel_rfl) ?_
  simp only [List.take_succ_cons, List.take_zero, List.drop_succ_cons, List.drop_zero]
  change wpStill _ _ (World.drew _) (fun a' => wpList _ _ _ _ a' (World.drew _)) _ _
  repeat still_step
  refine wpStill_nil ?_
  go_wp2_with fail
  generalize ha1 : a0 + b0 = a1
  have Ha1 := Lib.hid ha1
  clear ha1
  refine wp_region_still_tail 11 (by kernel_rfl) (by kernel_rfl) ?_
  simp only [List.take_succ_cons, List.take_zero, List.drop_succ_cons, List.drop_zero]
  change wpStill _ _ (World.drew _) (fun a' => wpList _ _ _ _ a' (World.drew _)) _ _
  repeat still_step
  refine wpStill_nil ?_
  go_wp2_with fail
  generalize hc1 : c0 + d0 = c1
  have Hc1 := Lib.hid hc1
  clear hc1
  refine wp_region_still_tail 13 (by kernel_rfl) (by kernel_rfl) ?_
  simp only [List.take_succ_cons, List.take_zero, List.drop_succ_cons, List.drop_zero]
  change wpStill _ _ (World.drew _) (fun a' => wpList _ _ _ _ a' (World.drew _)) _ _
  repeat still_step
  still_call (rot_any _ 13 (by decide) (by decide) _)
  repeat still_step
  refine wpStill_nil ?_
  go_wp2_with fail
  generalize hb1 : rot b0 13 ^^^ a1 = b1
  have Hb1 := Lib.hid hb1
  clear hb1
  refine wp_region_still_tail 13 (by kernel_rfl) (by kernel_rfl) ?_
  simp only [List.take_succ_cons, List.take_zero, List.drop_succ_cons, List.drop_zero]
  change wpStill _ _ (World.drew _) (fun a' => wpList _ _ _ _ a' (World.drew _)) _ _
  repeat still_step
  still_call (rot_any _ 16 (by decide) (by decide) _)
  repeat still_step
  refine wpStill_nil ?_
  go_wp2_with fail
  generalize hd1 : rot d0 16 ^^^ c1 = d1
  have Hd1 := Lib.hid hd1
  clear hd1
  go_wp2_with (go_at_call 60; refine (rot_any _ 32 (by decide) (by decide) _).mono ?_; rintro e w' ⟨rfl, rfl⟩)
  generalize ha2 : rot a1 32 = a2
  have Ha2 := Lib.hid ha2
  clear ha2
  clear k0 k1 k2 k3 f0 f1 f2 f3
  generalize hw5 : (((((w.setCell ⟨b, 0, none⟩ (.int .u64 (U a1))).setCell ⟨b, 2, none⟩ (.int .u64 (U c1))).setCell ⟨b, 1, none⟩ (.int .u64 (U b1))).setCell ⟨b, 3, none⟩ (.int .u64 (U d1))).setCell ⟨b, 0, none⟩ (.int .u64 (U a2))).drew.drew.drew.drew = w5
  have hb5 : w5.heap[b]? = some (.cells ((S4.mk a2 b1 c1 d1).vals ++ rest).toArray T (0, 0)) := by rw [← hw5]; refine Eq.trans (block_drew (block_drew (block_drew (block_drew (block_set _ (block_set _ (block_set _ (block_set _ (block_set _ HB.out))))))))) ?_; simp [S4.vals]
  have ho5 : Only b w w5 := by rw [← hw5]; exact ((((((Only.refl b w).setCell 0 _).setCell 2 _).setCell 1 _).setCell 3 _).setCell 0 _).drew.drew.drew.drew
  have k0 : w5.cell? ⟨b, 0, none⟩ = some (.int .u64 (U a2)) := by simp [World.cell?, hb5, S4.vals]
  have f0 : w5.frozen? ⟨b, 0, none⟩ = false := by simp [World.frozen?, hb5]
  have k1 : w5.cell? ⟨b, 1, none⟩ = some (.int .u64 (U b1)) := by simp [World.cell?, hb5, S4.vals]
  have f1 : w5.frozen? ⟨b, 1, none⟩ = false := by simp [World.frozen?, hb5]
  have k2 : w5.cell? ⟨b, 2, none⟩ = some (.int .u64 (U c1)) := by simp [World.cell?, hb5, S4.vals]
  have f2 : w5.frozen? ⟨b, 2, none⟩ = false := by simp [World.frozen?, hb5]
  have k3 : w5.cell? ⟨b, 3, none⟩ = some (.int .u64 (U d1)) := by simp [World.cell?, hb5, S4.vals]
  have f3 : w5.frozen? ⟨b, 3, none⟩ = false := by simp [World.frozen?, hb5]
  have HB5 := Lib.hid hb5
  clear hw5 hb5
  refine wp_region_still_tail 11 (by kernel_rfl) (by kernel_rfl) ?_
  simp only [List.take_succ_cons, List.take_zero, List.drop_succ_cons, List.drop_zero]
  change wpStill _ _ (World.drew _) (fun a' => wpList _ _ _ _ a' (World.drew _)) _ _
  repeat still_step
  refine wpStill_nil ?_
  go_wp2_with fail
  generalize hc2 : c1 + b1 = c2
  have Hc2 := Lib.hid hc2
  clear hc2
  refine wp_region_still_tail 11 (by kernel_rfl) (by kernel_rfl) ?_
  simp only [List.take_succ_cons, List.take_zero, List.drop_succ_cons, List.drop_zero]
  change wpStill _ _ (World.drew _) (fun a' => wpList _ _ _ _ a' (World.drew _)) _ _
  repeat still_step
  refine wpStill_nil ?_
  go_wp2_with fail
  generalize ha3 : a2 + d1 = a3
  have Ha3 := Lib.hid ha3
  clear ha3
  refine wp_region_still_tail 13 (by kernel_rfl) (by kernel_rfl) ?_
  simp only [List.take_succ_cons, List.take_zero, List.drop_succ_cons, List.drop_zero]
  change wpStill _ _ (World.drew _) (fun a' => wpList _ _ _ _ a' (World.drew _)) _ _
  repeat still_step
  still_call (rot_any _ 17 (by decide) (by decide) _)
  repeat still_step
  refine wpStill_nil ?_
  go_wp2_with fail
  generalize hb2 : rot b1 17 ^^^ c2 = b2
  have Hb2 := Lib.hid hb2
  clear hb2
  refine wp_region_still_tail 13 (by kernel_rfl) (by kernel_rfl) ?_
  simp only [List.take_succ_cons, List.take_zero, List.drop_succ_cons, List.drop_zero]
  change wpStill _ _ (World.drew _) (fun a' => wpList _ _ _ _ a' (World.drew _)) _ _
  repeat still_step
  still_call (rot_any _ 21 (by decide) (by decide) _)
  repeat still_step
  refine wpStill_nil ?_
  go_wp2_with fail
  generalize hd2 : rot d1 21 ^^^ a3 = d2
  have Hd2 := Lib.hid hd2
  clear hd2
  go_wp2_with (go_at_call 60; refine (rot_any _ 32 (by decide) (by decide) _).mono ?_; rintro e w' ⟨rfl, rfl⟩)
  generalize hc3 : rot c2 32 = c3
  have Hc3 := Lib.hid hc3
  clear hc3
  clear k0 k1 k2 k3 f0 f1 f2 f3
  generalize hw9 : (((((w5.setCell ⟨b, 2, none⟩ (.int .u64 (U c2))).setCell ⟨b, 0, none⟩ (.int .u64 (U a3))).setCell ⟨b, 1, none⟩ (.int .u64 (U b2))).setCell ⟨b, 3, none⟩ (.int .u64 (U d2))).setCell ⟨b, 2, none⟩ (.int .u64 (U c3))).drew.drew.drew.drew = w9
  have hb9 : w9.heap[b]? = some (.cells ((S4.mk a3 b2 c3 d2).vals ++ rest).toArray T (0, 0)) := by rw [← hw9]; refine Eq.trans (block_drew (block_drew (block_drew (block_drew (block_set _ (block_set _ (block_set _ (block_set _ (block_set _ HB5.out))))))))) ?_; simp [S4.vals]
  have ho9 : Only b w w9 := by rw [← hw9]; exact (((((ho5.setCell 2 _).setCell 0 _).setCell 1 _).setCell 3 _).setCell 2 _).drew.drew.drew.drew
  have k0 : w9.cell? ⟨b, 0, none⟩ = some (.int .u64 (U a3)) := by simp [World.cell?, hb9, S4.vals]
  have f0 : w9.frozen? ⟨b, 0, none⟩ = false := by simp [World.frozen?, hb9]
  have k1 : w9.cell? ⟨b, 1, none⟩ = some (.int .u64 (U b2)) := by simp [World.cell?, hb9, S4.vals]
  have f1 : w9.frozen? ⟨b, 1, none⟩ = false := by simp [World.frozen?, hb9]
  have k2 : w9.cell? ⟨b, 2, none⟩ = some (.int .u64 (U c3)) := by simp [World.cell?, hb9, S4.vals]
  have f2 : w9.frozen? ⟨b, 2, none⟩ = false := by simp [World.frozen?, hb9]
  have k3 : w9.cell? ⟨b, 3, none⟩ = some (.int .u64 (U d2)) := by simp [World.cell?, hb9, S4.vals]
  have f3 : w9.frozen? ⟨b, 3, none⟩ = false := by simp [World.frozen?, hb9]
  have HB9 := Lib.hid hb9
  clear hw9 hb9
  have hr : (S4.mk a0 b0 c0 d0).round = S4.mk a3 b2 c3 d2 := by
    simp only [S4.round]
    rw [Ha1.out, Hc1.out, Hb1.out, Hd1.out, Ha2.out, Hc2.out, Ha3.out, Hb2.out, Hd2.out, Hc3.out]
  rw [hr]
  go_end0
  exact ⟨⟨_, rfl⟩, HB9.out, ho9⟩
end Go.Proofs.Ytehfinjcfjobeaa
