/- Package sip.
   Conditions: those that each theorem names. -/
import Derived.Test.YtkdbbdlkfpjdfaaRows
import Derived.WalkKit
import Derived.WalkSpells
import Derived.WalkLawsBesides
import Derived.Lib.Hide
import Derived.Test.YtkdbbdlkfpjdfaaBs
/- Contracts of package sip's rounds.
   Conditions: those that each theorem names. -/
namespace Go.Proofs.Ytkdbbdlkfpjdfaa
set_option maxRecDepth 100000
set_option linter.unusedVariables false
set_option linter.unusedSimpArgs false
open Go.RowKit Go.Rg
attribute [local go_sem] Rg.q_add Rg.q_add' Rg.q_xor Rg.q_or Rg.q_and

def rot (x : UInt64) (k : Nat) : UInt64 := (x <<< k.toUInt64) ||| (x >>> (64 - k).toUInt64)
theorem rot_eq (x : UInt64) (k : Nat) (h0 : 0 < k) (hk : k < 64) : bits .or .u64 (IntKind.u64.wrap (U x * 2 ^ k)) (U x / 2 ^ (64 - k)) = U (rot x k) := by
  rw [q_shl x k hk, q_shr x (64 - k) (by omega), q_or]; rfl
theorem ret_int {k : IntKind} {a b : Int} (h : a = b) : Ending.returned (.int k a) = .returned (.int k b) := by rw [h]
theorem and63 (k : Nat) (hk : k < 64) : bits .and .u64 (k : Int) 63 = k := by
  have := bits_mask .u64 64 (by decide) wraps_u64 6 (by decide) (k : Int) (by omega) (by omega)
  rw [show (2 : Int) ^ 6 - 1 = 63 from rfl] at this
  rw [this]; omega
theorem rot_any (x : UInt64) (k : Nat) (h0 : 0 < k) (hk : k < 64) (w : World) : Calls Try.prog 107 #[.int .u64 (U x), .int .i64 k] w fun e w' => e = .returned (.int .u64 (U (rot x k))) ∧ w' = w := by
  have hx := U_nonneg x
  have hx' := U_lt x
  have hm := and63 k hk
  go_enter Try.func107, Try.ntmps107
  go_wp2
  go_ret
  exact ⟨ret_int (rot_eq x k h0 hk), rfl⟩

/-- One round, as the code does it. -/
structure S4 where
  a : UInt64
  b : UInt64
  c : UInt64
  d : UInt64
def S4.round (s : S4) : S4 :=
  let a := s.a + s.b
  let c := s.c + s.d
  let b := rot s.b 13 ^^^ a
  let d := rot s.d 16 ^^^ c
  let a := rot a 32
  let c := c + b
  let a := a + d
  let b := rot b 17 ^^^ c
  let d := rot d 21 ^^^ a
  let c := rot c 32
  ⟨a, b, c, d⟩
def S4.vals (s : S4) : List Value := [.int .u64 (U s.a), .int .u64 (U s.b), .int .u64 (U s.c), .int .u64 (U s.d)]

/-- Block b alone may have changed; no block is new. -/
structure Only (b : Nat) (w w' : World) : Prop where
  os : w'.os = w.os
  tape : w'.tape = w.tape
  output : w'.output = w.output
  size : w'.heap.size = w.heap.size
  block : ∀ k : Nat, k ≠ b → w'.heap[k]? = w.heap[k]?
theorem Only.refl (b : Nat) (w : World) : Only b w w := ⟨rfl, rfl, rfl, rfl, fun _ _ => rfl⟩
theorem Only.trans {b : Nat} {x y z : World} (h : Only b x y) (k : Only b y z) : Only b x z :=
  ⟨k.os.trans h.os, k.tape.trans h.tape, k.output.trans h.output, k.size.trans h.size, fun j hj => (k.block j hj).trans (h.block j hj)⟩
theorem Only.drew {b : Nat} {x y : World} (h : Only b x y) : Only b x y.drew := ⟨h.os, h.tape, h.output, h.size, h.block⟩
theorem Only.drewN {b : Nat} {x y : World} (h : Only b x y) (n : Nat) : Only b x (y.drewN n) := ⟨h.os, h.tape, h.output, h.size, h.block⟩
theorem Only.setCell {b : Nat} {x y : World} (h : Only b x y) (i : Nat) (v : Value) : Only b x (y.setCell ⟨b, i, none⟩ v) :=
  ⟨h.os, h.tape, h.output, by show (y.heap.modify _ _).size = _; rw [Array.size_modify]; exact h.size, fun k hk => (Below.heap_setCell y _ v k hk).trans (h.block k hk)⟩
theorem block_drew {w : World} {b : Nat} {o : Obj} (h : w.heap[b]? = some o) : w.drew.heap[b]? = some o := h

set_option maxRecDepth 100000 in
set_option maxHeartbeats 2000000 in
theorem round_any (s : S4) (rest : List Value) (T : TypeId) (b : Nat) (w : World) (hb : w.heap[b]? = some (.cells (s.vals ++ rest).toArray T (0, 0))) :
    Calls Try.prog 103 #[.pointer (some ⟨b, 0, none⟩)] w fun e w' => (∃ v, e = .returned v) ∧ w'.heap[b]? = some (.cells (s.round.vals ++ rest).toArray T (0, 0)) ∧ Only b w w' := by
  obtain ⟨a0, b0, c0, d0⟩ := s
  have k0 : w.cell? ⟨b, 0, none⟩ = some (.int .u64 (U a0)) := by simp [World.cell?, hb, S4.vals]
  have k1 : w.cell? ⟨b, 1, none⟩ = some (.int .u64 (U b0)) := by simp [World.cell?, hb, S4.vals]
  have k2 : w.cell? ⟨b, 2, none⟩ = some (.int .u64 (U c0)) := by simp [World.cell?, hb, S4.vals]
  have k3 : w.cell? ⟨b, 3, none⟩ = some (.int .u64 (U d0)) := by simp [World.cell?, hb, S4.vals]
  have f0 : w.frozen? ⟨b, 0, none⟩ = false := by simp [World.frozen?, hb]
  have f1 : w.frozen? ⟨b, 1, none⟩ = false := by simp [World.frozen?, hb]
  have f2 : w.frozen? ⟨b, 2, none⟩ = false := by simp [World.frozen?, hb]
  have f3 : w.frozen? ⟨b, 3, none⟩ = false := by simp [World.frozen?, hb]
  have HB := Lib.hid hb
  clear hb
  go_enter Try.func103, Try.ntmps103
  go_wp2_with fail
  refine wp_region_still_tail 11 (by kernel_rfl) (by kernel_rfl) ?_
  simp only [List.take_succ_cons, List.take_zero, List.drop_succ_cons, List.drop_zero]
  change wpStill _ _ (World.drew _) (fun a' => wpList _ _ _ _ a' (World.drew _)) _ _
  repeat still_step
  refine wpStill_nil ?_
  go_wp2_with fail
  generalize ha1 : a0 + b0 = a1
  have Ha1 := Lib.hid ha1
  clear ha1
  refine wp_region_still_tail 11 (by kernel_rfl) (by kernel_rfl) ?_
  simp only [List.take_succ_cons, List.take_zero, List.drop_succ_cons, List.drop_zero]
  change wpStill _ _ (World.drew _) (fun a' => wpList _ _ _ _ a' (World.drew _)) _ _
  repeat still_step
  refine wpStill_nil ?_
  go_wp2_with fail
  generalize hc1 : c0 + d0 = c1
  have Hc1 := Lib.hid hc1
  clear hc1
  refine wp_region_still_tail 13 (by kernel_rfl) (by kernel_rfl) ?_
  simp only [List.take_succ_cons, List.take_zero, List.drop_succ_cons, List.drop_zero]
  change wpStill _ _ (World.drew _) (fun a' => wpList _ _ _ _ a' (World.drew _)) _ _
  repeat still_step
  still_call (rot_any _ 13 (by decide) (by decide) _)
  repeat still_step
  refine wpStill_nil ?_
  go_wp2_with fail
  generalize hb1 : rot b0 13 ^^^ a1 = b1
  have Hb1 := Lib.hid hb1
  clear hb1
  refine wp_region_still_tail 13 (by kernel_rfl) (by kernel_rfl) ?_
  simp only [List.take_succ_cons, List.take_zero, List.drop_succ_cons, List.drop_zero]
  change wpStill _ _ (World.drew _) (fun a' => wpList _ _ _ _ a' (World.drew _)) _ _
  repeat still_step
  still_call (rot_any _ 16 (by decide) (by decide) _)
  repeat still_step
  refine wpStill_nil ?_
  go_wp2_with fail
  generalize hd1 : rot d0 16 ^^^ c1 = d1
  have Hd1 := Lib.hid hd1
  clear hd1
  go_wp2_with (go_at_call 107; refine (rot_any _ 32 (by decide) (by decide) _).mono ?_; rintro e w' ⟨rfl, rfl⟩)
  generalize ha2 : rot a1 32 = a2
  have Ha2 := Lib.hid ha2
  clear ha2
  clear k0 k1 k2 k3 f0 f1 f2 f3
  generalize hw5 : (((((w.setCell ⟨b, 0, none⟩ (.int .u64 (U a1))).setCell ⟨b, 2, none⟩ (.int .u64 (U c1))).setCell ⟨b, 1, none⟩ (.int .u64 (U b1))).setCell ⟨b, 3, none⟩ (.int .u64 (U d1))).setCell ⟨b, 0, none⟩ (.int .u64 (U a2))).drew.drew.drew.drew = w5
  have hb5 : w5.heap[b]? = some (.cells ((S4.mk a2 b1 c1 d1).vals ++ rest).toArray T (0, 0)) := by rw [← hw5]; refine Eq.trans (block_drew (block_drew (block_drew (block_drew (block_set _ (block_set _ (block_set _ (block_set _ (block_set _ HB.out))))))))) ?_; simp [S4.vals]
  have ho5 : Only b w w5 := by rw [← hw5]; exact ((((((Only.refl b w).setCell 0 _).setCell 2 _).setCell 1 _).setCell 3 _).setCell 0 _).drew.drew.drew.drew
  have k0 : w5.cell? ⟨b, 0, none⟩ = some (.int .u64 (U a2)) := by simp [World.cell?, hb5, S4.vals]
  have f0 : w5.frozen? ⟨b, 0, none⟩ = false := by simp [World.frozen?, hb5]
  have k1 : w5.cell? ⟨b, 1, none⟩ = some (.int .u64 (U b1)) := by simp [World.cell?, hb5, S4.vals]
  have f1 : w5.frozen? ⟨b, 1, none⟩ = false := by simp [World.frozen?, hb5]
  have k2 : w5.cell? ⟨b, 2, none⟩ = some (.int .u64 (U c1)) := by simp [World.cell?, hb5, S4.vals]
  have f2 : w5.frozen? ⟨b, 2, none⟩ = false := by simp [World.frozen?, hb5]
  have k3 : w5.cell? ⟨b, 3, none⟩ = some (.int .u64 (U d1)) := by simp [World.cell?, hb5, S4.vals]
  have f3 : w5.frozen? ⟨b, 3, none⟩ = false := by simp [World.frozen?, hb5]
  have HB5 := Lib.hid hb5
  clear hw5 hb5
  refine wp_region_still_tail 11 (by kernel_rfl) (by kernel_rfl) ?_
  simp only [List.take_succ_cons, List.take_zero, List.drop_succ_cons, List.drop_zero]
  change wpStill _ _ (World.drew _) (fun a' => wpList _ _ _ _ a' (World.drew _)) _ _
  repeat still_step
  refine wpStill_nil ?_
  go_wp2_with fail
  generalize hc2 : c1 + b1 = c2
  have Hc2 := Lib.hid hc2
  clear hc2
  refine wp_region_still_tail 11 (by kernel_rfl) (by kernel_rfl) ?_
  simp only [List.take_succ_cons, List.take_zero, List.drop_succ_cons, List.drop_zero]
  change wpStill _ _ (World.drew _) (fun a' => wpList _ _ _ _ a' (World.drew _)) _ _
  repeat still_step
  refine wpStill_nil ?_
  go_wp2_with fail
  generalize ha3 : a2 + d1 = a3
  have Ha3 := Lib.hid ha3
  clear ha3
  refine wp_region_still_tail 13 (by kernel_rfl) (by kernel_rfl) ?_
  simp only [List.take_succ_cons, List.take_zero, List.drop_succ_cons, List.drop_zero]
  change wpStill _ _ (World.drew _) (fun a' => wpList _ _ _ _ a' (World.drew _)) _ _
  repeat still_step
  still_call (rot_any _ 17 (by decide) (by decide) _)
  repeat still_step
  refine wpStill_nil ?_
  go_wp2_with fail
  generalize hb2 : rot b1 17 ^^^ c2 = b2
  have Hb2 := Lib.hid hb2
  clear hb2
  refine wp_region_still_tail 13 (by kernel_rfl) (by kernel_rfl) ?_
  simp only [List.take_succ_cons, List.take_zero, List.drop_succ_cons, List.drop_zero]
  change wpStill _ _ (World.drew _) (fun a' => wpList _ _ _ _ a' (World.drew _)) _ _
  repeat still_step
  still_call (rot_any _ 21 (by decide) (by decide) _)
  repeat still_step
  refine wpStill_nil ?_
  go_wp2_with fail
  generalize hd2 : rot d1 21 ^^^ a3 = d2
  have Hd2 := Lib.hid hd2
  clear hd2
  go_wp2_with (go_at_call 107; refine (rot_any _ 32 (by decide) (by decide) _).mono ?_; rintro e w' ⟨rfl, rfl⟩)
  generalize hc3 : rot c2 32 = c3
  have Hc3 := Lib.hid hc3
  clear hc3
  clear k0 k1 k2 k3 f0 f1 f2 f3
  generalize hw9 : (((((w5.setCell ⟨b, 2, none⟩ (.int .u64 (U c2))).setCell ⟨b, 0, none⟩ (.int .u64 (U a3))).setCell ⟨b, 1, none⟩ (.int .u64 (U b2))).setCell ⟨b, 3, none⟩ (.int .u64 (U d2))).setCell ⟨b, 2, none⟩ (.int .u64 (U c3))).drew.drew.drew.drew = w9
  have hb9 : w9.heap[b]? = some (.cells ((S4.mk a3 b2 c3 d2).vals ++ rest).toArray T (0, 0)) := by rw [← hw9]; refine Eq.trans (block_drew (block_drew (block_drew (block_drew (block_set _ (block_set _ (block_set _ (block_set _ (block_set _ HB5.out))))))))) ?_; simp [S4.vals]
  have ho9 : Only b w w9 := by rw [← hw9]; exact (((((ho5.setCell 2 _).setCell 0 _).setCell 1 _).setCell 3 _).setCell 2 _).drew.drew.drew.drew
  have k0 : w9.cell? ⟨b, 0, none⟩ = some (.int .u64 (U a3)) := by simp [World.cell?, hb9, S4.vals]
  have f0 : w9.frozen? ⟨b, 0, none⟩ = false := by simp [World.frozen?, hb9]
  have k1 : w9.cell? ⟨b, 1, none⟩ = some (.int .u64 (U b2)) := by simp [World.cell?, hb9, S4.vals]
  have f1 : w9.frozen? ⟨b, 1, none⟩ = false := by simp [World.frozen?, hb9]
  have k2 : w9.cell? ⟨b, 2, none⟩ = some (.int .u64 (U c3)) := by simp [World.cell?, hb9, S4.vals]
  have f2 : w9.frozen? ⟨b, 2, none⟩ = false := by simp [World.frozen?, hb9]
  have k3 : w9.cell? ⟨b, 3, none⟩ = some (.int .u64 (U d2)) := by simp [World.cell?, hb9, S4.vals]
  have f3 : w9.frozen? ⟨b, 3, none⟩ = false := by simp [World.frozen?, hb9]
  have HB9 := Lib.hid hb9
  clear hw9 hb9
  have hr : (S4.mk a0 b0 c0 d0).round = S4.mk a3 b2 c3 d2 := by
    simp only [S4.round]
    rw [Ha1.out, Hc1.out, Hb1.out, Hd1.out, Ha2.out, Hc2.out, Ha3.out, Hb2.out, Hd2.out, Hc3.out]
  rw [hr]
  go_end0
  exact ⟨⟨_, rfl⟩, HB9.out, ho9⟩
end Go.Proofs.Ytkdbbdlkfpjdfaa

/- Contracts of package sip.
   Conditions: those that each theorem names. -/
namespace Go.Proofs.Ytkdbbdlkfpjdfaa
set_option maxRecDepth 100000
set_option linter.unusedVariables false
set_option linter.unusedSimpArgs false
open Go.RowKit Go.Rg
attribute [local go_sem] Rg.q_add Rg.q_add' Rg.q_xor Rg.q_or Rg.q_and
def S4.take (s : S4) (x : UInt64) : S4 :=
  let r := (S4.mk s.a s.b s.c (s.d ^^^ x)).round.round
  ⟨r.a ^^^ x, r.b, r.c, r.d⟩

theorem cellS {w : World} {b : Nat} {s : S4} {rest : List Value} {T : TypeId} (hb : w.heap[b]? = some (.cells (s.vals ++ rest).toArray T (0, 0))) :
    w.cell? ⟨b, 0, none⟩ = some (.int .u64 (U s.a)) ∧ w.cell? ⟨b, 1, none⟩ = some (.int .u64 (U s.b)) ∧ w.cell? ⟨b, 2, none⟩ = some (.int .u64 (U s.c)) ∧ w.cell? ⟨b, 3, none⟩ = some (.int .u64 (U s.d)) := by
  refine ⟨?_, ?_, ?_, ?_⟩ <;> simp [World.cell?, hb, S4.vals]
theorem freeS {w : World} {b : Nat} {cs : Array Value} {T : TypeId} (hb : w.heap[b]? = some (.cells cs T (0, 0))) (i : Nat) : w.frozen? ⟨b, i, none⟩ = false := by
  simp [World.frozen?, hb]

set_option maxRecDepth 100000 in
set_option maxHeartbeats 2000000 in
theorem take_any (s : S4) (x : UInt64) (rest : List Value) (T : TypeId) (b : Nat) (w : World) (hb : w.heap[b]? = some (.cells (s.vals ++ rest).toArray T (0, 0))) :
    Calls Try.prog 102 #[.pointer (some ⟨b, 0, none⟩), .int .u64 (U x)] w fun e w' => (∃ v, e = .returned v) ∧ w'.heap[b]? = some (.cells ((s.take x).vals ++ rest).toArray T (0, 0)) ∧ Only b w w' := by
  obtain ⟨k0, k1, k2, k3⟩ := cellS hb
  have f3 := freeS hb 3
  have HB := Lib.hid hb
  clear hb
  generalize hS : s.take x = st
  have HS := Lib.hid hS
  clear hS
  go_enter Try.func102, Try.ntmps102
  go_wp2_with fail
  generalize hw1 : w.setCell ⟨b, 3, none⟩ (.int .u64 (U (s.d ^^^ x))) = w1
  have hb1 : w1.heap[b]? = some (.cells ((S4.mk s.a s.b s.c (s.d ^^^ x)).vals ++ rest).toArray T (0, 0)) := by rw [← hw1]; refine Eq.trans (block_set _ HB.out) ?_; simp [S4.vals]
  have ho1 : Only b w w1 := by rw [← hw1]; exact (Only.refl b w).setCell 3 _
  clear hw1 k0 k1 k2 k3 f3
  refine (round_any _ rest T b w1 hb1).mono ?_
  rintro e w2 ⟨⟨v2, rfl⟩, hb2, ho2⟩
  clear hb1
  have HB2 := Lib.hid hb2
  clear hb2
  go_wp2_with fail
  refine (round_any _ rest T b w2 HB2.out).mono ?_
  rintro e w3 ⟨⟨v3, rfl⟩, hb3, ho3⟩
  have ho : Only b w w3 := (ho1.trans ho2).trans ho3
  clear HB2 ho1 ho2 ho3
  obtain ⟨k0, k1, k2, k3⟩ := cellS hb3
  have f0 := freeS hb3 0
  have HB3 := Lib.hid hb3
  clear hb3 k1 k2 k3
  have ht : st = ⟨(S4.mk s.a s.b s.c (s.d ^^^ x)).round.round.a ^^^ x, (S4.mk s.a s.b s.c (s.d ^^^ x)).round.round.b, (S4.mk s.a s.b s.c (s.d ^^^ x)).round.round.c, (S4.mk s.a s.b s.c (s.d ^^^ x)).round.round.d⟩ := HS.out.symm
  have HT := Lib.hid ht
  clear ht HS
  generalize (S4.mk s.a s.b s.c (s.d ^^^ x)).round.round = r at *
  go_wp2_with fail
  go_end0
  refine ⟨⟨_, rfl⟩, ?_, ho.setCell 0 _⟩
  refine Eq.trans (block_set _ HB3.out) ?_
  rw [HT.out]
  simp [S4.vals]

/-- A sum that is being written. -/
structure Sp where
  s : S4
  last : UInt64
  n : Nat
def Sp.vals (p : Sp) : List Value := p.s.vals ++ [.int .u64 (U p.last), .int .i64 (p.n : Int)]
def sh (c : UInt8) (m : Nat) : UInt64 := c.toUInt64 <<< (8 * m).toUInt64
def Sp.step (p : Sp) (c : UInt8) : Sp :=
  let last := p.last ||| sh c (p.n % 8)
  if (p.n + 1) % 8 = 0 then ⟨p.s.take last, 0, p.n + 1⟩ else ⟨p.s, last, p.n + 1⟩
def Sp.write (p : Sp) (l : List UInt8) : Sp := l.foldl Sp.step p

theorem U_byte (c : UInt8) : (c.toNat : Int) = U c.toUInt64 := by unfold U; simp
theorem Sp.write_snoc (p : Sp) (l : List UInt8) (c : UInt8) : p.write (l ++ [c]) = (p.write l).step c := by simp [Sp.write]
theorem Sp.step_n (p : Sp) (c : UInt8) : (p.step c).n = p.n + 1 := by unfold Sp.step; dsimp only; split <;> rfl
theorem Sp.write_n (p : Sp) (l : List UInt8) : (p.write l).n = p.n + l.length := by
  induction l generalizing p with
  | nil => rfl
  | cons c l ih => show ((p.step c).write l).n = _; rw [ih, Sp.step_n]; simp; omega
theorem cellP {w : World} {b : Nat} {p : Sp} {T : TypeId} (hb : w.heap[b]? = some (.cells p.vals.toArray T (0, 0))) :
    w.cell? ⟨b, 4, none⟩ = some (.int .u64 (U p.last)) ∧ w.cell? ⟨b, 5, none⟩ = some (.int .i64 (p.n : Int)) := by
  refine ⟨?_, ?_⟩ <;> simp [World.cell?, hb, S4.vals, Sp.vals]
theorem Only.cell {b : Nat} {w w' : World} (h : Only b w w') {g o : Nat} (hg : g ≠ b) : w'.cell? ⟨g, o, none⟩ = w.cell? ⟨g, o, none⟩ := World.cell?_of_block (w := w) (h.block g hg)

set_option maxRecDepth 100000 in
set_option maxHeartbeats 2000000 in
theorem write_any (p : Sp) (l : List UInt8) (v : Value) (T : TypeId) (b : Nat) (w : World) (hb : w.heap[b]? = some (.cells p.vals.toArray T (0, 0))) (hl : BytesAt w v l) (hd : ∀ q n c, v = .slice (some q) n c → 0 < l.length → q.block ≠ b) (hn : p.n + l.length ≤ 1000000000000) :
    Calls Try.prog 91 #[.pointer (some ⟨b, 0, none⟩), v] w fun e w' => (∃ v, e = .returned v) ∧ w'.heap[b]? = some (.cells (p.write l).vals.toArray T (0, 0)) ∧ Only b w w' := by
  obtain ⟨pa, cap, rfl, hf⟩ := hl
  have HB := Lib.hid hb
  clear hb
  go_enter Try.func91, Try.ntmps91
  go_wp2_with fail
  go_loopw [5, 10] (fun _ c wr => ∃ i : Nat, i ≤ l.length ∧ c = .int .i64 i ∧ Hid (wr.heap[b]? = some (.cells (p.write (l.take i)).vals.toArray T (0, 0))) ∧ Only b w wr) (fun _ c _ => l.length - (intOf c).toNat)
  case atStart => exact ⟨0, by omega, rfl, HB, Only.refl b w⟩
  case round =>
    obtain ⟨i, hi, rfl, hB, ho⟩ := hrel
    by_cases hil : i < l.length
    · obtain ⟨g, o, rfl, hg, hc⟩ := hf i hil
      have hgb : g ≠ b := hd _ _ _ rfl (by omega)
      have e1 : decide (i < l.length) = true := decide_eq_true hil
      have ht : l.take (i + 1) = l.take i ++ [l[i]?.getD 0] := by
        rw [List.take_add_one, List.getElem?_eq_getElem hil]; rfl
      generalize l[i]?.getD 0 = c at *
      rw [U_byte] at hc
      have hq := Sp.write_n p (l.take i)
      rw [List.length_take, Nat.min_eq_left (by omega)] at hq
      have hs : p.write (l.take (i + 1)) = (p.write (l.take i)).step c := by rw [ht, Sp.write_snoc]
      have HS := Lib.hid hs
      clear ht hs
      generalize p.write (l.take i) = q at *
      have hqn : q.n ≤ 1000000000000 := by omega
      have cc : wr.cell? ⟨g, o + i, none⟩ = some (.int .u8 (U c.toUInt64)) := (ho.cell hgb).trans hc
      obtain ⟨k4, k5⟩ := cellP hB.out
      have f4 := freeS hB.out 4
      have f5 := freeS hB.out 5
      clear hf hq
      have u0 := U_nonneg c.toUInt64
      have u1 : U c.toUInt64 < 256 := by rw [← U_byte]; have := c.toNat_lt; omega
      have E1 : IntKind.u64.wrap (U c.toUInt64) = U c.toUInt64 := by rw [wrap_u64]; omega
      obtain ⟨m, hm⟩ : ∃ m, m = q.n % 8 := ⟨_, rfl⟩
      have hm8 : m < 8 := by omega
      have E2 : (q.n : Int).tmod 8 = (m : Int) := by rw [Int.tmod_eq_emod_of_nonneg (by omega)]; omega
      have E3 : IntKind.i64.wrap (8 * (m : Int)) = ((8 * m : Nat) : Int) := by rw [IntKind.wrap_i64]; omega
      have E4 : IntKind.u64.wrap (U c.toUInt64 * 2 ^ (8 * m)) = U (sh c m) := q_shl _ _ (by omega)
      have HM := Lib.hid hm
      clear hm
      by_cases hz : (q.n + 1) % 8 = 0
      · have E5 : (((q.n : Int) + 1) % 8 == 0) = true := by rw [beq_iff_eq]; omega
        have hst : q.step c = ⟨q.s.take (q.last ||| sh c m), 0, q.n + 1⟩ := by unfold Sp.step; rw [if_pos hz, ← HM.out]
        rw [hst] at HS
        clear hst
        generalize hx : q.last ||| sh c m = x at *
        have HX := Lib.hid hx
        clear hx
        have E6 : bits .or .u64 (U q.last) (U (sh c m)) = U x := by rw [q_or, HX.out]
        go_wp2_with fail
        refine wp_region_still_tail 16 (by kernel_rfl) (by kernel_rfl) ?_
        simp only [List.take_succ_cons, List.take_zero, List.drop_succ_cons, List.drop_zero]
        change wpStill _ _ (World.drew _) (fun a' => wpList _ _ _ _ a' (World.drew _)) _ _
        repeat still_step
        refine wpStill_nil ?_
        go_wp2_with fail
        generalize hw1 : ((wr.setCell ⟨b, 4, none⟩ (.int .u64 (U x))).setCell ⟨b, 5, none⟩ (.int .i64 ((q.n : Int) + 1))).drew = w1
        have hb1 : w1.heap[b]? = some (.cells (q.s.vals ++ [Value.int .u64 (U x), Value.int .i64 ((q.n : Int) + 1)]).toArray T (0, 0)) := by rw [← hw1]; refine Eq.trans (block_drew (block_set _ (block_set _ hB.out))) ?_; simp [S4.vals, Sp.vals]
        have ho1 : Only b w w1 := by rw [← hw1]; exact ((ho.setCell 4 _).setCell 5 _).drew
        have k4 : w1.cell? ⟨b, 4, none⟩ = some (.int .u64 (U x)) := by simp [World.cell?, hb1, S4.vals]
        have f4 := freeS hb1 4
        have HB1 := Lib.hid hb1
        clear hw1 hb1 k5 f5 cc
        refine wp_region_still_tail 7 (by kernel_rfl) (by kernel_rfl) ?_
        simp only [List.take_succ_cons, List.take_zero, List.drop_succ_cons, List.drop_zero]
        change wpStill _ _ (World.drew _) (fun a' => wpList _ _ _ _ a' (World.drew _)) _ _
        repeat still_step
        refine wpStill_nil ?_
        go_wp2_with fail
        refine (take_any q.s x _ T b _ (block_drew HB1.out)).mono ?_
        rintro e w2 ⟨⟨v2, rfl⟩, hb2, ho2⟩
        have k4 : w2.cell? ⟨b, 4, none⟩ = some (.int .u64 (U x)) := by simp [World.cell?, hb2, S4.vals]
        have f4 := freeS hb2 4
        have HB2 := Lib.hid hb2
        have ho3 : Only b w w2 := ho1.trans ((Only.refl b w1).drew.trans ho2)
        clear hb2 ho2
        go_wp2_with fail
        refine ⟨⟨i + 1, by omega, by go_num, ?_, ho3.setCell 4 _⟩, by simp [intOf]; omega⟩
        show (World.heap _)[b]? = _
        rw [HS.out]
        refine Eq.trans (block_set _ HB2.out) ?_
        simp [S4.vals, Sp.vals, U]
      · have E5 : (((q.n : Int) + 1) % 8 == 0) = false := by rw [beq_eq_false_iff_ne]; omega
        have hst : q.step c = ⟨q.s, q.last ||| sh c m, q.n + 1⟩ := by unfold Sp.step; rw [if_neg hz, ← HM.out]
        rw [hst] at HS
        clear hst
        generalize hx : q.last ||| sh c m = x at *
        have HX := Lib.hid hx
        clear hx
        have E6 : bits .or .u64 (U q.last) (U (sh c m)) = U x := by rw [q_or, HX.out]
        go_wp2_with fail
        refine wp_region_still_tail 16 (by kernel_rfl) (by kernel_rfl) ?_
        simp only [List.take_succ_cons, List.take_zero, List.drop_succ_cons, List.drop_zero]
        change wpStill _ _ (World.drew _) (fun a' => wpList _ _ _ _ a' (World.drew _)) _ _
        repeat still_step
        refine wpStill_nil ?_
        go_wp2_with fail
        refine ⟨⟨i + 1, by omega, by go_num, ?_, ((ho.setCell 4 _).setCell 5 _).drew⟩, by simp [intOf]; omega⟩
        show (World.heap _)[b]? = _
        rw [HS.out]
        refine Eq.trans (block_drew (block_set _ (block_set _ hB.out))) ?_
        simp [S4.vals, Sp.vals]
    · have e1 : decide (i < l.length) = false := decide_eq_false hil
      have hb' := hB.out
      rw [List.take_of_length_le (by omega)] at hb'
      have HB' := Lib.hid hb'
      clear hb'
      go_wp2_with fail
      go_end0
      exact ⟨⟨_, rfl⟩, HB'.out, ho⟩
end Go.Proofs.Ytkdbbdlkfpjdfaa

/- Contracts of package sip: sums, new ones, clones, hashes.
   Conditions: those that each theorem names. -/
namespace Go.Proofs.Ytkdbbdlkfpjdfaa
set_option maxRecDepth 100000
set_option linter.unusedVariables false
set_option linter.unusedSimpArgs false
open Go.RowKit Go.Rg
attribute [local go_sem] Rg.q_add Rg.q_add' Rg.q_xor Rg.q_or Rg.q_and
theorem Only.below' {b : Nat} {w w' : World} (h : Only b w w') : Below b w w' := ⟨h.os, h.tape, h.output, Nat.le_of_eq h.size.symm, fun k hk => h.block k (by omega)⟩

def S4.rounds : Nat → S4 → S4
  | 0, s => s
  | i + 1, s => (S4.rounds i s).round

def S4.fin (s : S4) : UInt64 :=
  let r := (S4.mk s.a s.b (s.c ^^^ 255) s.d).round.round.round.round
  r.a ^^^ r.b ^^^ r.c ^^^ r.d
def top (n : Nat) : UInt64 := n.toUInt64 <<< (56 : Nat).toUInt64
def Sp.sum (p : Sp) : UInt64 := (p.s.take (p.last ||| top p.n)).fin

set_option maxRecDepth 100000 in
set_option maxHeartbeats 2000000 in
theorem sum_any (p : Sp) (T : TypeId) (b : Nat) (w : World) (hb : w.heap[b]? = some (.cells p.vals.toArray T (0, 0))) :
    Calls Try.prog 92 #[.pointer (some ⟨b, 0, none⟩)] w fun e w' => e = .returned (.int .u64 (U p.sum)) ∧ Below w.heap.size w w' := by
  obtain ⟨k4, k5⟩ := cellP hb
  obtain ⟨k0, k1, k2, k3⟩ := cellS (s := p.s) (rest := [Value.int .u64 (U p.last), Value.int .i64 (p.n : Int)]) hb
  generalize hS : p.sum = st
  have HS := Lib.hid hS
  clear hS
  have E1 : IntKind.u64.wrap (p.n : Int) = U p.n.toUInt64 := by rw [wrap_u64]; unfold U; simp
  have E2 : IntKind.u64.wrap (U p.n.toUInt64 * 72057594037927936) = U (top p.n) := q_shl p.n.toUInt64 56 (by omega)
  have E3 : bits .or .u64 (U p.last) (U (top p.n)) = U (p.last ||| top p.n) := q_or _ _
  generalize hx : p.last ||| top p.n = x at *
  have HX := Lib.hid hx
  clear hx
  go_enter Try.func92, Try.ntmps92
  go_wp2_with fail
  have hlt := (Array.getElem?_eq_some_iff.1 hb).1
  generalize hw1 : w.alloc (.cells #[.int .u64 (U p.s.a), .int .u64 (U p.s.b), .int .u64 (U p.s.c), .int .u64 (U p.s.d)] 141) = w1
  have hB1 : Below w.heap.size w w1 := by rw [← hw1]; exact (Below.refl _ _).alloc (Nat.le_refl _) _
  have hb1 : w1.heap[w.heap.size]? = some (.cells (p.s.vals ++ []).toArray 141 (0, 0)) := by rw [← hw1]; exact World.alloc_heap_new _ _
  have k4' : w1.cell? ⟨b, 4, none⟩ = some (.int .u64 (U p.last)) := (hB1.cell (p := ⟨b, 4, none⟩) hlt).trans k4
  have k5' : w1.cell? ⟨b, 5, none⟩ = some (.int .i64 (p.n : Int)) := (hB1.cell (p := ⟨b, 5, none⟩) hlt).trans k5
  have HB1 := Lib.hid hb1
  clear hw1 hb1 hb k0 k1 k2 k3 k4 k5
  refine wp_region_still_tail 11 (by kernel_rfl) (by kernel_rfl) ?_
  simp only [List.take_succ_cons, List.take_zero, List.drop_succ_cons, List.drop_zero]
  change wpStill _ _ (World.drew _) (fun a' => wpList _ _ _ _ a' (World.drew _)) _ _
  repeat still_step
  refine wpStill_nil ?_
  go_wp2_with fail
  refine (take_any p.s x [] 141 _ _ (block_drew HB1.out)).mono ?_
  rintro e w2 ⟨⟨v2, rfl⟩, hb2, ho2⟩
  have hB2 : Below w.heap.size w w2 := hB1.trans (Below.drew (Below.refl _ _) |>.trans ho2.below')
  generalize hT : p.s.take x = t at *
  have HT := Lib.hid hT
  clear hT
  obtain ⟨k0, k1, k2, k3⟩ := cellS hb2
  have f2 := freeS hb2 2
  have HB2 := Lib.hid hb2
  clear hb2 ho2 hB1
  have E4 : bits .xor .u64 (U t.c) 255 = U (t.c ^^^ 255) := q_xor t.c 255
  generalize hc : t.c ^^^ 255 = c' at *
  have HC := Lib.hid hc
  clear hc
  go_wp2_with fail
  generalize hw3 : w2.setCell ⟨w.heap.size, 2, none⟩ (.int .u64 (U c')) = w3
  have hb3 : w3.heap[w.heap.size]? = some (.cells ((S4.mk t.a t.b c' t.d).vals ++ []).toArray 141 (0, 0)) := by rw [← hw3]; refine Eq.trans (block_set _ HB2.out) ?_; simp [S4.vals]
  have hB3 : Below w.heap.size w w3 := by rw [← hw3]; exact hB2.setCell (Nat.le_refl _) _
  have HB3 := Lib.hid hb3
  clear hw3 hb3 hB2 k0 k1 k2 k3 f2
  go_loopw [26, 28] (fun c _ wr => ∃ i : Nat, i ≤ 4 ∧ c = .int .i64 i ∧ Hid (wr.heap[w.heap.size]? = some (.cells ((S4.rounds i ⟨t.a, t.b, c', t.d⟩).vals ++ []).toArray 141 (0, 0))) ∧ Below w.heap.size w wr) (fun c _ _ => 4 - (intOf c).toNat)
  case atStart => exact ⟨0, by omega, rfl, HB3, hB3⟩
  case round =>
    obtain ⟨i, hi, rfl, hb, hB⟩ := hrel
    by_cases hil : i < 4
    · have e1 : decide ((i : Int) < 4) = true := decide_eq_true (by omega)
      go_wp2_with fail
      refine (round_any _ [] 141 _ _ hb.out).mono ?_
      rintro e w4 ⟨⟨v4, rfl⟩, hb4, ho4⟩
      have HB4 := Lib.hid hb4
      clear hb4
      go_wp2_with fail
      go_roundw
      case rel => exact ⟨i + 1, by omega, by go_num, HB4, hB.trans ho4.below'⟩
      case measure => simp [intOf]; omega
    · have e1 : decide ((i : Int) < 4) = false := decide_eq_false (by omega)
      obtain rfl : i = 4 := by omega
      have hr : S4.rounds 4 ⟨t.a, t.b, c', t.d⟩ = (S4.mk t.a t.b c' t.d).round.round.round.round := rfl
      have hst : st = (S4.mk t.a t.b c' t.d).round.round.round.round.a ^^^ (S4.mk t.a t.b c' t.d).round.round.round.round.b ^^^ (S4.mk t.a t.b c' t.d).round.round.round.round.c ^^^ (S4.mk t.a t.b c' t.d).round.round.round.round.d := by
        rw [← HS.out, Sp.sum, HX.out, HT.out, ← HC.out]; rfl
      have HST := Lib.hid hst
      rw [hr] at hb
      clear hst hr
      generalize (S4.mk t.a t.b c' t.d).round.round.round.round = r at *
      obtain ⟨k0, k1, k2, k3⟩ := cellS hb.out
      go_wp2_with fail
      go_ret
      exact ⟨by rw [HST.out]; rfl, hB⟩

def newS (A B : UInt64) : S4 := ⟨A ^^^ 8317987319222330741, B ^^^ 7237128888997146477, A ^^^ 7816392313619706465, B ^^^ 8387220255154660723⟩
def newP (A B : UInt64) : Sp := ⟨newS A B, 0, 0⟩
abbrev keyV (A B : UInt64) : Value := .agg #[.int .u64 (U A), .int .u64 (U B)]

set_option maxRecDepth 100000 in
set_option maxHeartbeats 2000000 in
theorem new_any (A B : UInt64) (w : World) :
    Calls Try.prog 90 #[keyV A B] w fun e w' => ∃ b, e = .returned (.pointer (some ⟨b, 0, none⟩)) ∧ w.heap.size ≤ b ∧ w'.heap[b]? = some (.cells (newP A B).vals.toArray 143 (0, 0)) ∧ Below w.heap.size w w' := by
  have E1 : bits .xor .u64 (U A) 8317987319222330741 = U (A ^^^ 8317987319222330741) := q_xor A 8317987319222330741
  have E2 : bits .xor .u64 (U B) 7237128888997146477 = U (B ^^^ 7237128888997146477) := q_xor B 7237128888997146477
  have E3 : bits .xor .u64 (U A) 7816392313619706465 = U (A ^^^ 7816392313619706465) := q_xor A 7816392313619706465
  have E4 : bits .xor .u64 (U B) 8387220255154660723 = U (B ^^^ 8387220255154660723) := q_xor B 8387220255154660723
  go_enter Try.func90, Try.ntmps90
  go_wp2_with fail
  go_ret
  refine ⟨_, rfl, ?_, (by rw [show w.heap.size + 1 = (w.alloc (.cells #[.int .u64 (U A), .int .u64 (U B)] 98)).heap.size by simp]; exact World.alloc_heap_new _ _), ((Below.refl _ _).alloc (Nat.le_refl _) _).alloc (by simp) _⟩
  simp

theorem write_nil (v : Value) (w : World) : Calls Try.prog 91 #[.pointer none, v] w fun e w' => (∃ v, e = .returned v) ∧ w = w' := by
  go_enter Try.func91, Try.ntmps91
  go_wp2_with fail
  refine bodyPost_ret (results_none rfl _ _ _) rfl ?_
  exact ⟨⟨_, rfl⟩, rfl⟩
theorem sum_nil (w : World) : Calls Try.prog 92 #[.pointer none] w fun e w' => e = .returned (.int .u64 0) ∧ w = w' := by
  go_enter Try.func92, Try.ntmps92
  go_wp2_with fail
  go_ret
  exact ⟨rfl, rfl⟩
theorem BytesAt.blk {w : World} {v : Value} {l : List UInt8} (h : BytesAt w v l) {q : Addr} {n c : Nat} (e : v = .slice (some q) n c) (h0 : 0 < l.length) : q.block < w.heap.size := by
  obtain ⟨p, cap, rfl, hf⟩ := h
  obtain ⟨g, o, e', hg, hc⟩ := hf 0 h0
  cases e; cases e'; exact hg
/-- A slice of slices of bytes that can be read. -/
def RowsAt (w : World) (v : Value) (ls : List (List UInt8)) : Prop :=
  ∃ p cap, v = .slice p ls.length cap ∧ ∀ i, i < ls.length → ∃ g o u, p = some ⟨g, o, none⟩ ∧ g < w.heap.size ∧ w.cell? ⟨g, o + i, none⟩ = some u ∧ BytesAt w u (ls[i]?.getD [])
theorem RowsAt.below {w w' : World} {v : Value} {l : List (List UInt8)} (h : RowsAt w v l) (hB : Below w.heap.size w w') : RowsAt w' v l := by
  obtain ⟨p, cap, rfl, hf⟩ := h
  refine ⟨p, cap, rfl, fun i hi => ?_⟩
  obtain ⟨g, o, u, e, hg, hc, hu⟩ := hf i hi
  exact ⟨g, o, u, e, Nat.lt_of_lt_of_le hg hB.size, (hB.cell (p := ⟨g, o + i, none⟩) hg).trans hc, hu.below hB⟩
theorem Sp.write_append (p : Sp) (l m : List UInt8) : p.write (l ++ m) = (p.write l).write m := by simp [Sp.write]
def hashS (A B : UInt64) (l : List UInt8) : UInt64 := ((newP A B).write l).sum
theorem flat_take (ls : List (List UInt8)) (i : Nat) (h : i < ls.length) : (ls.take (i + 1)).flatten = (ls.take i).flatten ++ ls[i]?.getD [] := by
  rw [List.take_succ_eq_append_getElem h, List.flatten_append, List.getElem?_eq_getElem h]; simp
theorem flat_take_le (ls : List (List UInt8)) (i : Nat) : (ls.take i).flatten.length ≤ ls.flatten.length := by
  have : ls.flatten = (ls.take i).flatten ++ (ls.drop i).flatten := by rw [← List.flatten_append, List.take_append_drop]
  rw [this, List.length_append]; omega

set_option maxRecDepth 100000 in
set_option maxHeartbeats 2000000 in
theorem hash_any (A B : UInt64) (v : Value) (ls : List (List UInt8)) (w : World) (hr : RowsAt w v ls) (hn : ls.flatten.length ≤ 1000000000000) (hk : ls.length ≤ 1000000000000) :
    Calls Try.prog 60 #[keyV A B, v] w fun e w' => e = .returned (.int .u64 (U (hashS A B ls.flatten))) ∧ Below w.heap.size w w' := by
  obtain ⟨p, cap, rfl, hf⟩ := hr
  go_enter Try.func60, Try.ntmps60
  go_wp2_with fail
  refine (new_any A B _).mono ?_
  rintro e w1 ⟨b, rfl, hbn, hb, hB1⟩
  have hbn' : w.heap.size + 1 ≤ b := by simpa using hbn
  have hB : Below w.heap.size w w1 := ((Below.refl _ _).alloc (Nat.le_refl _) _).trans (hB1.mono (by simp))
  have HB := Lib.hid hb
  clear hb hB1 hbn
  go_wp2_with fail
  go_loopw [7, 12] (fun _ c wr => ∃ i : Nat, i ≤ ls.length ∧ c = .int .i64 i ∧ Hid (wr.heap[b]? = some (.cells ((newP A B).write (ls.take i).flatten).vals.toArray 143 (0, 0))) ∧ Below w.heap.size w wr) (fun _ c _ => ls.length - (intOf c).toNat)
  case atStart => exact ⟨0, by omega, rfl, HB, hB⟩
  case round =>
    obtain ⟨i, hi, rfl, hb, hB⟩ := hrel
    by_cases hil : i < ls.length
    · obtain ⟨g, o, u, rfl, hg, hc, hu⟩ := hf i hil
      have e1 : decide (i < ls.length) = true := decide_eq_true hil
      have ht := flat_take ls i hil
      have hl1 := flat_take_le ls (i + 1)
      rw [ht, List.length_append] at hl1
      have cc : wr.cell? ⟨g, o + i, none⟩ = some u := (hB.cell (p := ⟨g, o + i, none⟩) hg).trans hc
      have hu' := hu.below hB
      have hblk : ∀ q n c, u = .slice (some q) n c → 0 < (ls[i]?.getD []).length → q.block ≠ b := fun q n c e h0 => by
        have := hu.blk e h0; omega
      have HT := Lib.hid ht
      have HU := Lib.hid hu'
      have HK := Lib.hid hblk
      clear hf ht hc hu hu' hblk
      have hnn := Sp.write_n (newP A B) (ls.take i).flatten
      have hn0 : (newP A B).n = 0 := rfl
      go_wp2_with fail
      refine (write_any _ _ u 143 b wr hb.out HU.out HK.out (by omega)).mono ?_
      rintro e w2 ⟨⟨v2, rfl⟩, hb2, ho2⟩
      rw [← Sp.write_append, ← HT.out] at hb2
      have HB2 := Lib.hid hb2
      have hB2 : Below w.heap.size w w2 := hB.trans (ho2.below'.mono (by omega))
      clear hb2 ho2 hnn hn0
      go_wp2_with fail
      go_roundw
      case rel => exact ⟨i + 1, by omega, by go_num, HB2, hB2⟩
      case measure => simp [intOf]; omega
    · have e1 : decide (i < ls.length) = false := decide_eq_false hil
      have hb' := hb.out
      rw [List.take_of_length_le (by omega)] at hb'
      have HB' := Lib.hid hb'
      clear hb'
      go_wp2_with fail
      refine (sum_any _ 143 b wr HB'.out).mono ?_
      rintro e w2 ⟨rfl, hB2⟩
      go_wp2_with fail
      go_ret
      exact ⟨rfl, hB.trans (hB2.mono hB.size)⟩

end Go.Proofs.Ytkdbbdlkfpjdfaa

/- Contracts of package sip: seeds and marks.
   Conditions: those that each theorem names. -/
namespace Go.Proofs.Ytkdbbdlkfpjdfaa
set_option maxRecDepth 100000
set_option linter.unusedVariables false
set_option linter.unusedSimpArgs false
open Go.RowKit Go.Rg
attribute [local go_sem] Rg.q_add Rg.q_add' Rg.q_xor Rg.q_or Rg.q_and
/-! ### Seeds and marks -/
def sA (n : Int) : UInt64 := UInt64.ofNat (n % 18446744073709551616).toNat
def sB (n : Int) : UInt64 := 18446744073709551615 ^^^ sA n
theorem U_sA (n : Int) : IntKind.u64.wrap n = U (sA n) := by
  rw [wrap_u64]; unfold U sA
  rw [UInt64.toNat_ofNat']; omega
abbrev seedV (n : Int) : Value := keyV (sA n) (sB n)
theorem seed_any (n : Int) (w : World) : Calls Try.prog 61 #[.int .i64 n] w fun e w' => e = .returned (seedV n) ∧ Below w.heap.size w w' := by
  have E1 := U_sA n
  have E2 : bits .xor .u64 IntKind.u64.max (U (sA n)) = U (sB n) := by rw [show IntKind.u64.max = U 18446744073709551615 from rfl]; exact q_xor 18446744073709551615 (sA n)
  have E3 : IntKind.u64.signed = false := rfl
  go_enter Try.func61, Try.ntmps61
  go_wp2_with fail
  exact bodyPost_ret (v := seedV n) (by simp [results, Try.results61, go_sem]) rfl ⟨rfl, (Below.refl _ _).alloc (Nat.le_refl _) _⟩

def mb (h : UInt64) (k : Nat) : UInt8 := (h >>> (8 * (7 - k)).toUInt64).toUInt8
def markH (h1 h2 : UInt64) (j : Nat) : UInt8 := if j < 8 then mb h1 j else mb h2 (j - 8)
def markB (l : List UInt8) : List UInt8 := (List.range 16).map (markH (hashS (sA 1) (sB 1) l) (hashS (sA 2) (sB 2) l))
abbrev markV (m : List UInt8) : Value := .agg (m.map byteV).toArray
/-- The first m bytes are there. -/
def arr (h1 h2 : UInt64) (m : Nat) : List Value := (List.range 16).map fun j => if j < m then byteV (markH h1 h2 j) else .int .u8 0
theorem arr_set (h1 h2 : UInt64) (m : Nat) : (arr h1 h2 m).set m (byteV (markH h1 h2 m)) = arr h1 h2 (m + 1) := by
  apply List.ext_getElem
  · simp [arr]
  · intro j hj1 hj2
    simp only [arr, List.getElem_set, List.getElem_map, List.getElem_range]
    by_cases e : m = j
    · subst e; simp
    · rw [if_neg e]
      by_cases h : j < m
      · rw [if_pos h, if_pos (by omega)]
      · rw [if_neg h, if_neg (by omega)]

theorem fill {w : World} {b : Nat} {T : TypeId} {pre post : List Value} {x v : Value} (i : Nat) (hi : i = pre.length) (h : w.heap[b]? = some (.cells (pre ++ x :: post).toArray T (0, 0))) :
    (w.setCell ⟨b, i, none⟩ v).heap[b]? = some (.cells ((pre ++ [v]) ++ post).toArray T (0, 0)) := by
  subst hi
  refine (block_set _ h).trans ?_
  simp
end Go.Proofs.Ytkdbbdlkfpjdfaa

