/- Contracts of package sip: sums, new ones, clones, hashes.
   Conditions: those that each theorem names. -/
import Derived.Test.YtehfinjcfjobeaaSipB
namespace Go.Proofs.Ytehfinjcfjobeaa
set_option maxRecDepth 100000
set_option linter.unusedVariables false
set_option linter.unusedSimpArgs false
open Go.RowKit Go.Rg
attribute [local go_sem] Rg.q_add Rg.q_add' Rg.q_xor Rg.q_or Rg.q_and
theorem Only.below' {b : Nat} {w w' : World} (h : Only b w w') : Below b w w' := ⟨h.os, h.tape, h.output, Nat.le_of_eq h.size.symm, fun k hk => h.block k (by omega)⟩

def S4.rounds : Nat → S4 → S4
  | 0, s => s
  | i + 1, s => (S4.rounds i s).round

def S4.fin (s : S4) : UInt64 :=
  let r := (S4.mk s.a s.b (s.c ^^^ 255) s.d).round.round.round.round
  r.a ^^^ r.b ^^^ r.c ^^^ r.d
def top (n : Nat) : UInt64 := n.toUInt64 <<< (56 : Nat).toUInt64
def Sp.sum (p : Sp) : UInt64 := (p.s.take (p.last ||| top p.n)).fin

set_option maxRecDepth 100000 in
set_option maxHeartbeats 2000000 in
theorem sum_any (p : Sp) (T : TypeId) (b : Nat) (w : World) (hb : w.heap[b]? = some (.cells p.vals.toArray T (0, 0))) :
    Calls Try.prog 52 #[.pointer (some ⟨b, 0, none⟩)] w fun e w' => e = .returned (.int .u64 (U p.sum)) ∧ Below w.heap.size w w' := by
  obtain ⟨k4, k5⟩ := cellP hb
  obtain ⟨k0, k1, k2, k3⟩ := cellS (s := p.s) (rest := [Value.int .u64 (U p.last), Value.int .i64 (p.n : Int)]) hb
  generalize hS : p.sum = st
  have HS := Lib.hid hS
  clear hS
  have E1 : IntKind.u64.wrap (p.n : Int) = U p.n.toUInt64 := by rw [wrap_u64]; unfold U; simp
  have E2 : IntKind.u64.wrap (U p.n.toUInt64 * 72057594037927936) = U (top p.n) := q_shl p.n.toUInt64 56 (by omega)
  have E3 : bits .or .u64 (U p.last) (U (top p.n)) = U (p.last ||| top p.n) := q_or _ _
  generalize hx : p.last ||| top p.n = x at *
  have HX := Lib.hid hx
  clear hx
  go_enter Try.func52, Try.ntmps52
  go_wp2_with fail
  have hlt := (Array.getElem?_eq_some_iff.1 hb).1
  generalize hw1 : w.alloc (.cells #[.int .u64 (U p.s.a), .int .u64 (U p.s.b), .int .u64 (U p.s.c), .int .u64 (U p.s.d)] 99) = w1
  have hB1 : Below w.heap.size w w1 := by rw [← hw1]; exact (Below.refl _ _).alloc (Nat.le_refl _) _
  have hb1 : w1.heap[w.heap.size]? = some (.cells (p.s.vals ++ []).toArray 99 (0, 0)) := by rw [← hw1]; exact World.alloc_heap_new _ _
  have k4' : w1.cell? ⟨b, 4, none⟩ = some (.int .u64 (U p.last)) := (hB1.cell (p := ⟨b, 4, none⟩) hlt).trans k4
  have k5' : w1.cell? ⟨b, 5, none⟩ = some (.int .i64 (p.n : Int)) := (hB1.cell (p := ⟨b, 5, none⟩) hlt).trans k5
  have HB1 := Lib.hid hb1
  clear hw1 hb1 hb k0 k1 k2 k3 k4 k5
  refine wp_region_still_tail 11 (by kernel_rfl) (by kernel_rfl) ?_
  simp only [List.take_succ_cons, List.take_zero, List.drop_succ_cons, List.drop_zero]
  change wpStill _ _ (World.drew _) (fun a' => wpList _ _ _ _ a' (World.drew _)) _ _
  repeat still_step
  refine wpStill_nil ?_
  go_wp2_with fail
  refine (take_any p.s x [] 99 _ _ (block_drew HB1.out)).mono ?_
  rintro e w2 ⟨⟨v2, rfl⟩, hb2, ho2⟩
  have hB2 : Below w.heap.size w w2 := hB1.trans (Below.drew (Below.refl _ _) |>.trans ho2.below')
  generalize hT : p.s.take x = t at *
  have HT := Lib.hid hT
  clear hT
  obtain ⟨k0, k1, k2, k3⟩ := cellS hb2
  have f2 := freeS hb2 2
  have HB2 := Lib.hid hb2
  clear hb2 ho2 hB1
  have E4 : bits .xor .u64 (U t.c) 255 = U (t.c ^^^ 255) := q_xor t.c 255
  generalize hc : t.c ^^^ 255 = c' at *
  have HC := Lib.hid hc
  clear hc
  go_wp2_with fail
  generalize hw3 : w2.setCell ⟨w.heap.size, 2, none⟩ (.int .u64 (U c')) = w3
  have hb3 : w3.heap[w.heap.size]? = some (.cells ((S4.mk t.a t.b c' t.d).vals ++ []).toArray 99 (0, 0)) := by rw [← hw3]; refine Eq.trans (block_set _ HB2.out) ?_; simp [S4.vals]
  have hB3 : Below w.heap.size w w3 := by rw [← hw3]; exact hB2.setCell (Nat.le_refl _) _
  have HB3 := Lib.hid hb3
  clear hw3 hb3 hB2 k0 k1 k2 k3 f2
  go_loopw [26, 28] (fun c _ wr => ∃ i : Nat, i ≤ 4 ∧ c = .int .i64 i ∧ Hid (wr.heap[w.heap.size]? = some (.cells ((S4.rounds i ⟨t.a, t.b, c', t.d⟩).vals ++ []).toArray 99 (0, 0))) ∧ Below w.heap.size w wr) (fun c _ _ => 4 - (intOf c).toNat)
  case atStart => exact ⟨0, by omega, rfl, HB3, hB3⟩
  case round =>
    obtain ⟨i, hi, rfl, hb, hB⟩ := hrel
    by_cases hil : i < 4
    · have e1 : decide ((i : Int) < 4) = true := decide_eq_true (by omega)
      go_wp2_with fail
      refine (round_any _ [] 99 _ _ hb.out).mono ?_
      rintro e w4 ⟨⟨v4, rfl⟩, hb4, ho4⟩
      have HB4 := Lib.hid hb4
      clear hb4
      go_wp2_with fail
      go_roundw
      case rel => exact ⟨i + 1, by omega, by go_num, HB4, hB.trans ho4.below'⟩
      case measure => simp [intOf]; omega
    · have e1 : decide ((i : Int) < 4) = false := decide_eq_false (by omega)
      obtain rfl : i = 4 := by omega
      have hr : S4.rounds 4 ⟨t.a, t.b, c', t.d⟩ = (S4.mk t.a t.b c' t.d).round.round.round.round := rfl
      have hst : st = (S4.mk t.a t.b c' t.d).round.round.round.round.a ^^^ (S4.mk t.a t.b c' t.d).round.round.round.round.b ^^^ (S4.mk t.a t.b c' t.d).round.round.round.round.c ^^^ (S4.mk t.a t.b c' t.d).round.round.round.round.d := by
        rw [← HS.out, Sp.sum, HX.out, HT.out, ← HC.out]; rfl
      have HST := Lib.hid hst
      rw [hr] at hb
      clear hst hr
      generalize (S4.mk t.a t.b c' t.d).round.round.round.round = r at *
      obtain ⟨k0, k1, k2, k3⟩ := cellS hb.out
      go_wp2_with fail
      go_ret
      exact ⟨by rw [HST.out]; rfl, hB⟩

def newS (A B : UInt64) : S4 := ⟨A ^^^ 8317987319222330741, B ^^^ 7237128888997146477, A ^^^ 7816392313619706465, B ^^^ 8387220255154660723⟩
def newP (A B : UInt64) : Sp := ⟨newS A B, 0, 0⟩
abbrev keyV (A B : UInt64) : Value := .agg #[.int .u64 (U A), .int .u64 (U B)]

set_option maxRecDepth 100000 in
set_option maxHeartbeats 2000000 in
theorem new_any (A B : UInt64) (w : World) :
    Calls Try.prog 50 #[keyV A B] w fun e w' => ∃ b, e = .returned (.pointer (some ⟨b, 0, none⟩)) ∧ w.heap.size ≤ b ∧ w'.heap[b]? = some (.cells (newP A B).vals.toArray 101 (0, 0)) ∧ Below w.heap.size w w' := by
  have E1 : bits .xor .u64 (U A) 8317987319222330741 = U (A ^^^ 8317987319222330741) := q_xor A 8317987319222330741
  have E2 : bits .xor .u64 (U B) 7237128888997146477 = U (B ^^^ 7237128888997146477) := q_xor B 7237128888997146477
  have E3 : bits .xor .u64 (U A) 7816392313619706465 = U (A ^^^ 7816392313619706465) := q_xor A 7816392313619706465
  have E4 : bits .xor .u64 (U B) 8387220255154660723 = U (B ^^^ 8387220255154660723) := q_xor B 8387220255154660723
  go_enter Try.func50, Try.ntmps50
  go_wp2_with fail
  go_ret
  refine ⟨_, rfl, ?_, (by rw [show w.heap.size + 1 = (w.alloc (.cells #[.int .u64 (U A), .int .u64 (U B)] 74)).heap.size by simp]; exact World.alloc_heap_new _ _), ((Below.refl _ _).alloc (Nat.le_refl _) _).alloc (by simp) _⟩
  simp

theorem write_nil (v : Value) (w : World) : Calls Try.prog 51 #[.pointer none, v] w fun e w' => (∃ v, e = .returned v) ∧ w = w' := by
  go_enter Try.func51, Try.ntmps51
  go_wp2_with fail
  refine bodyPost_ret (results_none rfl _ _ _) rfl ?_
  exact ⟨⟨_, rfl⟩, rfl⟩
theorem sum_nil (w : World) : Calls Try.prog 52 #[.pointer none] w fun e w' => e = .returned (.int .u64 0) ∧ w = w' := by
  go_enter Try.func52, Try.ntmps52
  go_wp2_with fail
  go_ret
  exact ⟨rfl, rfl⟩
theorem BytesAt.blk {w : World} {v : Value} {l : List UInt8} (h : BytesAt w v l) {q : Addr} {n c : Nat} (e : v = .slice (some q) n c) (h0 : 0 < l.length) : q.block < w.heap.size := by
  obtain ⟨p, cap, rfl, hf⟩ := h
  obtain ⟨g, o, e', hg, hc⟩ := hf 0 h0
  cases e; cases e'; exact hg
/-- A slice of slices of bytes that can be read. -/
def RowsAt (w : World) (v : Value) (ls : List (List UInt8)) : Prop :=
  ∃ p cap, v = .slice p ls.length cap ∧ ∀ i, i < ls.length → ∃ g o u, p = some ⟨g, o, none⟩ ∧ g < w.heap.size ∧ w.cell? ⟨g, o + i, none⟩ = some u ∧ BytesAt w u (ls[i]?.getD [])
theorem RowsAt.below {w w' : World} {v : Value} {l : List (List UInt8)} (h : RowsAt w v l) (hB : Below w.heap.size w w') : RowsAt w' v l := by
  obtain ⟨p, cap, rfl, hf⟩ := h
  refine ⟨p, cap, rfl, fun i hi => ?_⟩
  obtain ⟨g, o, u, e, hg, hc, hu⟩ := hf i hi
  exact ⟨g, o, u, e, Nat.lt_of_lt_of_le hg hB.size, (hB.cell (p := ⟨g, o + i, none⟩) hg).trans hc, hu.below hB⟩
theorem Sp.write_append (p : Sp) (l m : List UInt8) : p.write (l ++ m) = (p.write l).write m := by simp [Sp.write]
def hashS (A B : UInt64) (l : List UInt8) : UInt64 := ((newP A B).write l).sum
theorem flat_take (ls : List (List UInt8)) (i : Nat) (h : i < ls.length) : (ls.take (i + 1)).flatten = (ls.take i).flatten ++ ls[i]?.getD [] := by
  rw [List.take_succ_eq_append_getElem h, List.flatten_append, List.getElem?_eq_getElem h]; simp
theorem flat_take_le (ls : List (List UInt8)) (i : Nat) : (ls.take i).flatten.length ≤ ls.flatten.length := by
  have : ls.flatten = (ls.take i).flatten ++ (ls.drop i).flatten := by rw [← List.flatten_append, List.take_append_drop]
  rw [this, List.length_append]; omega

set_option maxRecDepth 100000 in
set_option maxHeartbeats 2000000 in
theorem hash_any (A B : UInt64) (v : Value) (ls : List (List UInt8)) (w : World) (hr : RowsAt w v ls) (hn : ls.flatten.length ≤ 1000000000000) (hk : ls.length ≤ 1000000000000) :
    Calls Try.prog 34 #[keyV A B, v] w fun e w' => e = .returned (.int .u64 (U (hashS A B ls.flatten))) ∧ Below w.heap.size w w' := by
  obtain ⟨p, cap, rfl, hf⟩ := hr
  go_enter Try.func34, Try.ntmps34
  go_wp2_with fail
  refine (new_any A B _).mono ?_
  rintro e w1 ⟨b, rfl, hbn, hb, hB1⟩
  have hbn' : w.heap.size + 1 ≤ b := by simpa using hbn
  have hB : Below w.heap.size w w1 := ((Below.refl _ _).alloc (Nat.le_refl _) _).trans (hB1.mono (by simp))
  have HB := Lib.hid hb
  clear hb hB1 hbn
  go_wp2_with fail
  go_loopw [7, 12] (fun _ c wr => ∃ i : Nat, i ≤ ls.length ∧ c = .int .i64 i ∧ Hid (wr.heap[b]? = some (.cells ((newP A B).write (ls.take i).flatten).vals.toArray 101 (0, 0))) ∧ Below w.heap.size w wr) (fun _ c _ => ls.length - (intOf c).toNat)
  case atStart => exact ⟨0, by omega, rfl, HB, hB⟩
  case round =>
    obtain ⟨i, hi, rfl, hb, hB⟩ := hrel
    by_cases hil : i < ls.length
    · obtain ⟨g, o, u, rfl, hg, hc, hu⟩ := hf i hil
      have e1 : decide (i < ls.length) = true := decide_eq_true hil
      have ht := flat_take ls i hil
      have hl1 := flat_take_le ls (i + 1)
      rw [ht, List.length_append] at hl1
      have cc : wr.cell? ⟨g, o + i, none⟩ = some u := (hB.cell (p := ⟨g, o + i, none⟩) hg).trans hc
      have hu' := hu.below hB
      have hblk : ∀ q n c, u = .slice (some q) n c → 0 < (ls[i]?.getD []).length → q.block ≠ b := fun q n c e h0 => by
        have := hu.blk e h0; omega
      have HT := Lib.hid ht
      have HU := Lib.hid hu'
      have HK := Lib.hid hblk
      clear hf ht hc hu hu' hblk
      have hnn := Sp.write_n (newP A B) (ls.take i).flatten
      have hn0 : (newP A B).n = 0 := rfl
      go_wp2_with fail
      refine (write_any _ _ u 101 b wr hb.out HU.out HK.out (by omega)).mono ?_
      rintro e w2 ⟨⟨v2, rfl⟩, hb2, ho2⟩
      rw [← Sp.write_append, ← HT.out] at hb2
      have HB2 := Lib.hid hb2
      have hB2 : Below w.heap.size w w2 := hB.trans (ho2.below'.mono (by omega))
      clear hb2 ho2 hnn hn0
      go_wp2_with fail
      go_roundw
      case rel => exact ⟨i + 1, by omega, by go_num, HB2, hB2⟩
      case measure => simp [intOf]; omega
    · have e1 : decide (i < ls.length) = false := decide_eq_false hil
      have hb' := hb.out
      rw [List.take_of_length_le (by omega)] at hb'
      have HB' := Lib.hid hb'
      clear hb'
      go_wp2_with fail
      refine (sum_any _ 101 b wr HB'.out).mono ?_
      rintro e w2 ⟨rfl, hB2⟩
      go_wp2_with fail
      go_ret
      exact ⟨rfl, hB.trans (hB2.mono hB.size)⟩

end Go.Proofs.Ytehfinjcfjobeaa
