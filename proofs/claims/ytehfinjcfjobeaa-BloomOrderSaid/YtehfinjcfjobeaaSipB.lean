/- Contracts of package sip.
   Conditions: those that each theorem names. -/
import Derived.Test.YtehfinjcfjobeaaSipA
namespace Go.Proofs.Ytehfinjcfjobeaa
set_option maxRecDepth 100000
set_option linter.unusedVariables false
set_option linter.unusedSimpArgs false
open Go.RowKit Go.Rg
attribute [local go_sem] Rg.q_add Rg.q_add' Rg.q_xor Rg.q_or Rg.q_and
def S4.take (s : S4) (x : UInt64) : S4 :=
  let r := (S4.mk s.a s.b s.c (s.d ^^^ x)).round.round
  ⟨r.a ^^^ x, r.b, r.c, r.d⟩

theorem cellS {w : World} {b : Nat} {s : S4} {rest : List Value} {T : TypeId} (hb : w.heap[b]? = some (.cells (s.vals ++ rest).toArray T (0, 0))) :
    w.cell? ⟨b, 0, none⟩ = some (.int .u64 (U s.a)) ∧ w.cell? ⟨b, 1, none⟩ = some (.int .u64 (U s.b)) ∧ w.cell? ⟨b, 2, none⟩ = some (.int .u64 (U s.c)) ∧ w.cell? ⟨b, 3, none⟩ = some (.int .u64 (U s.d)) := by
  refine ⟨?_, ?_, ?_, ?_⟩ <;> simp [World.cell?, hb, S4.vals]
theorem freeS {w : World} {b : Nat} {cs : Array Value} {T : TypeId} (hb : w.heap[b]? = some (.cells cs T (0, 0))) (i : Nat) : w.frozen? ⟨b, i, none⟩ = false := by
  simp [World.frozen?, hb]

set_option maxRecDepth 100000 in
set_option maxHeartbeats 2000000 in
theorem take_any (s : S4) (x : UInt64) (rest : List Value) (T : TypeId) (b : Nat) (w : World) (hb : w.heap[b]? = some (.cells (s.vals ++ rest).toArray T (0, 0))) :
    Calls Try.prog 57 #[.pointer (some ⟨b, 0, none⟩), .int .u64 (U x)] w fun e w' => (∃ v, e = .returned v) ∧ w'.heap[b]? = some (.cells ((s.take x).vals ++ rest).toArray T (0, 0)) ∧ Only b w w' := by
  obtain ⟨k0, k1, k2, k3⟩ := cellS hb
  have f3 := freeS hb 3
  have HB := Lib.hid hb
  clear hb
  generalize hS : s.take x = st
  have HS := Lib.hid hS
  clear hS
  go_enter Try.func57, Try.ntmps57
  go_wp2_with fail
  generalize hw1 : w.setCell ⟨b, 3, none⟩ (.int .u64 (U (s.d ^^^ x))) = w1
  have hb1 : w1.heap[b]? = some (.cells ((S4.mk s.a s.b s.c (s.d ^^^ x)).vals ++ rest).toArray T (0, 0)) := by rw [← hw1]; refine Eq.trans (block_set _ HB.out) ?_; simp [S4.vals]
  have ho1 : Only b w w1 := by rw [← hw1]; exact (Only.refl b w).setCell 3 _
  clear hw1 k0 k1 k2 k3 f3
  refine (round_any _ rest T b w1 hb1).mono ?_
  rintro e w2 ⟨⟨v2, rfl⟩, hb2, ho2⟩
  clear hb1
  have HB2 := Lib.hid hb2
  clear hb2
  go_wp2_with fail
  refine (round_any _ rest T b w2 HB2.out).mono ?_
  rintro e w3 ⟨⟨v3, rfl⟩, hb3, ho3⟩
  have ho : Only b w w3 := (ho1.trans ho2).trans ho3
  clear HB2 ho1 ho2 ho3
  obtain ⟨k0, k1, k2, k3⟩ := cellS hb3
  have f0 := freeS hb3 0
  have HB3 := Lib.hid hb3
  clear hb3 k1 k2 k3
  have ht : st = ⟨(S4.mk s.a s.b s.c (s.d ^^^ x)).round.round.a ^^^ x, (S4.mk s.a s.b s.c (s.d ^^^ x)).round.round.b, (S4.mk s.a s.b s.c (s.d ^^^ x)).round.round.c, (S4.mk s.a s.b s.c (s.d ^^^ x)).round.round.d⟩ := HS.out.symm
  have HT := Lib.hid ht
  clear ht HS
  generalize (S4.mk s.a s.b s.c (s.d ^^^ x)).round.round = r at *
  go_wp2_with fail
  go_end0
  refine ⟨⟨_, rfl⟩, ?_, ho.setCell 0 _⟩
  refine Eq.trans (block_set _ HB3.out) ?_
  rw [HT.out]
  simp [S4.vals]

/-- A sum that is being written. -/
structure Sp where
  s : S4
  last : UInt64
  n : Nat
def Sp.vals (p : Sp) : List Value := p.s.vals ++ [.int .u64 (U p.last), .int .i64 (p.n : Int)]
def sh (c : UInt8) (m : Nat) : UInt64 := c.toUInt64 <<< (8 * m).toUInt64
def Sp.step (p : Sp) (c : UInt8) : Sp :=
  let last := p.last ||| sh c (p.n % 8)
  if (p.n + 1) % 8 = 0 then ⟨p.s.take last, 0, p.n + 1⟩ else ⟨p.s, last, p.n + 1⟩
def Sp.write (p : Sp) (l : List UInt8) : Sp := l.foldl Sp.step p

theorem U_byte (c : UInt8) : (c.toNat : Int) = U c.toUInt64 := by unfold U; simp
theorem Sp.write_snoc (p : Sp) (l : List UInt8) (c : UInt8) : p.write (l ++ [c]) = (p.write l).step c := by simp [Sp.write]
theorem Sp.step_n (p : Sp) (c : UInt8) : (p.step c).n = p.n + 1 := by unfold Sp.step; dsimp only; split <;> rfl
theorem Sp.write_n (p : Sp) (l : List UInt8) : (p.write l).n = p.n + l.length := by
  induction l generalizing p with
  | nil => rfl
  | cons c l ih => show ((p.step c).write l).n = _; rw [ih, Sp.step_n]; simp; omega
theorem cellP {w : World} {b : Nat} {p : Sp} {T : TypeId} (hb : w.heap[b]? = some (.cells p.vals.toArray T (0, 0))) :
    w.cell? ⟨b, 4, none⟩ = some (.int .u64 (U p.last)) ∧ w.cell? ⟨b, 5, none⟩ = some (.int .i64 (p.n : Int)) := by
  refine ⟨?_, ?_⟩ <;> simp [World.cell?, hb, S4.vals, Sp.vals]
theorem Only.cell {b : Nat} {w w' : World} (h : Only b w w') {g o : Nat} (hg : g ≠ b) : w'.cell? ⟨g, o, none⟩ = w.cell? ⟨g, o, none⟩ := World.cell?_of_block (w := w) (h.block g hg)

set_option maxRecDepth 100000 in
set_option maxHeartbeats 2000000 in
theorem write_any (p : Sp) (l : List UInt8) (v : Value) (T : TypeId) (b : Nat) (w : World) (hb : w.heap[b]? = some (.cells p.vals.toArray T (0, 0))) (hl : BytesAt w v l) (hd : ∀ q n c, v = .slice (some q) n c → 0 < l.length → q.block ≠ b) (hn : p.n + l.length ≤ 1000000000000) :
    Calls Try.prog 51 #[.pointer (some ⟨b, 0, none⟩), v] w fun e w' => (∃ v, e = .returned v) ∧ w'.heap[b]? = some (.cells (p.write l).vals.toArray T (0, 0)) ∧ Only b w w' := by
  obtain ⟨pa, cap, rfl, hf⟩ := hl
  have HB := Lib.hid hb
  clear hb
  go_enter Try.func51, Try.ntmps51
  go_wp2_with fail
  go_loopw [5, 10] (fun _ c wr => ∃ i : Nat, i ≤ l.length ∧ c = .int .i64 i ∧ Hid (wr.heap[b]? = some (.cells (p.write (l.take i)).vals.toArray T (0, 0))) ∧ Only b w wr) (fun _ c _ => l.length - (intOf c).toNat)
  case atStart => exact ⟨0, by omega, rfl, HB, Only.refl b w⟩
  case round =>
    obtain ⟨i, hi, rfl, hB, ho⟩ := hrel
    by_cases hil : i < l.length
    · obtain ⟨g, o, rfl, hg, hc⟩ := hf i hil
      have hgb : g ≠ b := hd _ _ _ rfl (by omega)
      have e1 : decide (i < l.length) = true := decide_eq_true hil
      have ht : l.take (i + 1) = l.take i ++ [l[i]?.getD 0] := by
        rw [List.take_add_one, List.getElem?_eq_getElem hil]; rfl
      generalize l[i]?.getD 0 = c at *
      rw [U_byte] at hc
      have hq := Sp.write_n p (l.take i)
      rw [List.length_take, Nat.min_eq_left (by omega)] at hq
      have hs : p.write (l.take (i + 1)) = (p.write (l.take i)).step c := by rw [ht, Sp.write_snoc]
      have HS := Lib.hid hs
      clear ht hs
      generalize p.write (l.take i) = q at *
      have hqn : q.n ≤ 1000000000000 := by omega
      have cc : wr.cell? ⟨g, o + i, none⟩ = some (.int .u8 (U c.toUInt64)) := (ho.cell hgb).trans hc
      obtain ⟨k4, k5⟩ := cellP hB.out
      have f4 := freeS hB.out 4
      have f5 := freeS hB.out 5
      clear hf hq
      have u0 := U_nonneg c.toUInt64
      have u1 : U c.toUInt64 < 256 := by rw [← U_byte]; have := c.toNat_lt; omega
      have E1 : IntKind.u64.wrap (U c.toUInt64) = U c.toUInt64 := by rw [wrap_u64]; omega
      obtain ⟨m, hm⟩ : ∃ m, m = q.n % 8 := ⟨_, rfl⟩
      have hm8 : m < 8 := by omega
      have E2 : (q.n : Int).tmod 8 = (m : Int) := by rw [Int.tmod_eq_emod_of_nonneg (by omega)]; omega
      have E3 : IntKind.i64.wrap (8 * (m : Int)) = ((8 * m : Nat) : Int) := by rw [IntKind.wrap_i64]; omega
      have E4 : IntKind.u64.wrap (U c.toUInt64 * 2 ^ (8 * m)) = U (sh c m) := q_shl _ _ (by omega)
      have HM := Lib.hid hm
      clear hm
      by_cases hz : (q.n + 1) % 8 = 0
      · have E5 : (((q.n : Int) + 1) % 8 == 0) = true := by rw [beq_iff_eq]; omega
        have hst : q.step c = ⟨q.s.take (q.last ||| sh c m), 0, q.n + 1⟩ := by unfold Sp.step; rw [if_pos hz, ← HM.out]
        rw [hst] at HS
        clear hst
        generalize hx : q.last ||| sh c m = x at *
        have HX := Lib.hid hx
        clear hx
        have E6 : bits .or .u64 (U q.last) (U (sh c m)) = U x := by rw [q_or, HX.out]
        go_wp2_with fail
        refine wp_region_still_tail 16 (by kernel_rfl) (by kernel_rfl) ?_
        simp only [List.take_succ_cons, List.take_zero, List.drop_succ_cons, List.drop_zero]
        change wpStill _ _ (World.drew _) (fun a' => wpList _ _ _ _ a' (World.drew _)) _ _
        repeat still_step
        refine wpStill_nil ?_
        go_wp2_with fail
        generalize hw1 : ((wr.setCell ⟨b, 4, none⟩ (.int .u64 (U x))).setCell ⟨b, 5, none⟩ (.int .i64 ((q.n : Int) + 1))).drew = w1
        have hb1 : w1.heap[b]? = some (.cells (q.s.vals ++ [Value.int .u64 (U x), Value.int .i64 ((q.n : Int) + 1)]).toArray T (0, 0)) := by rw [← hw1]; refine Eq.trans (block_drew (block_set _ (block_set _ hB.out))) ?_; simp [S4.vals, Sp.vals]
        have ho1 : Only b w w1 := by rw [← hw1]; exact ((ho.setCell 4 _).setCell 5 _).drew
        have k4 : w1.cell? ⟨b, 4, none⟩ = some (.int .u64 (U x)) := by simp [World.cell?, hb1, S4.vals]
        have f4 := freeS hb1 4
        have HB1 := Lib.hid hb1
        clear hw1 hb1 k5 f5 cc
        refine wp_region_still_tail 7 (by kernel_rfl) (by kernel_rfl) ?_
        simp only [List.take_succ_cons, List.take_zero, List.drop_succ_cons, List.drop_zero]
        change wpStill _ _ (World.drew _) (fun a' => wpList _ _ _ _ a' (World.drew _)) _ _
        repeat still_step
        refine wpStill_nil ?_
        go_wp2_with fail
        refine (take_any q.s x _ T b _ (block_drew HB1.out)).mono ?_
        rintro e w2 ⟨⟨v2, rfl⟩, hb2, ho2⟩
        have k4 : w2.cell? ⟨b, 4, none⟩ = some (.int .u64 (U x)) := by simp [World.cell?, hb2, S4.vals]
        have f4 := freeS hb2 4
        have HB2 := Lib.hid hb2
        have ho3 : Only b w w2 := ho1.trans ((Only.refl b w1).drew.trans ho2)
        clear hb2 ho2
        go_wp2_with fail
        refine ⟨⟨i + 1, by omega, by go_num, ?_, ho3.setCell 4 _⟩, by simp [intOf]; omega⟩
        show (World.heap _)[b]? = _
        rw [HS.out]
        refine Eq.trans (block_set _ HB2.out) ?_
        simp [S4.vals, Sp.vals, U]
      · have E5 : (((q.n : Int) + 1) % 8 == 0) = false := by rw [beq_eq_false_iff_ne]; omega
        have hst : q.step c = ⟨q.s, q.last ||| sh c m, q.n + 1⟩ := by unfold Sp.step; rw [if_neg hz, ← HM.out]
        rw [hst] at HS
        clear hst
        generalize hx : q.last ||| sh c m = x at *
        have HX := Lib.hid hx
        clear hx
        have E6 : bits .or .u64 (U q.last) (U (sh c m)) = U x := by rw [q_or, HX.out]
        go_wp2_with fail
        refine wp_region_still_tail 16 (by kernel_rfl) (by kernel_rfl) ?_
        simp only [List.take_succ_cons, List.take_zero, List.drop_succ_cons, List.drop_zero]
        change wpStill _ _ (World.drew _) (fun a' => wpList _ _ _ _ a' (World.drew _)) _ _
        repeat still_step
        refine wpStill_nil ?_
        go_wp2_with fail
        refine ⟨⟨i + 1, by omega, by go_num, ?_, ((ho.setCell 4 _).setCell 5 _).drew⟩, by simp [intOf]; omega⟩
        show (World.heap _)[b]? = _
        rw [HS.out]
        refine Eq.trans (block_drew (block_set _ (block_set _ hB.out))) ?_
        simp [S4.vals, Sp.vals]
    · have e1 : decide (i < l.length) = false := decide_eq_false hil
      have hb' := hB.out
      rw [List.take_of_length_le (by omega)] at hb'
      have HB' := Lib.hid hb'
      clear hb'
      go_wp2_with fail
      go_end0
      exact ⟨⟨_, rfl⟩, HB'.out, ho⟩
end Go.Proofs.Ytehfinjcfjobeaa
