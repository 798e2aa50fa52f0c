/- Contracts of package pen: numbers that are read.
   Conditions: those that each theorem names. -/
import Derived.Test.YtehfinjcfjobeaaPenD
namespace Go.Proofs.Ytehfinjcfjobeaa
set_option maxRecDepth 100000
set_option linter.unusedVariables false
set_option linter.unusedSimpArgs false
set_option linter.unusedVariables false
set_option linter.unusedSimpArgs false
open Go.RowKit Go.Rg
attribute [local go_sem] Rg.q_add Rg.q_add' Rg.q_xor Rg.q_or Rg.q_and ba_app
def valB (l : List UInt8) : Nat := l.foldl (fun a c => a * 256 + c.toNat) 0
theorem valB_snoc (l : List UInt8) (c : UInt8) : valB (l ++ [c]) = valB l * 256 + c.toNat := by simp [valB]
theorem fold_lt : ∀ (l : List UInt8) (a k : Nat), a < 256 ^ k → l.foldl (fun a c => a * 256 + c.toNat) a < 256 ^ (k + l.length)
  | [], a, k, h => h
  | c :: l, a, k, h => by
    have hc := c.toNat_lt
    have := fold_lt l (a * 256 + c.toNat) (k + 1) (by rw [Nat.pow_succ]; omega)
    rw [List.foldl_cons, List.length_cons, show k + (l.length + 1) = k + 1 + l.length by omega]
    exact this
theorem valB_lt (l : List UInt8) : valB l < 256 ^ l.length := by
  have := fold_lt l 0 0 (by simp)
  rwa [Nat.zero_add] at this
/-- A number at the beginning of bytes, how many it takes, and an error. -/
def parse : List UInt8 → Nat × Nat × Nat
  | [] => (0, 0, 10)
  | c :: t =>
    if c.toNat ≤ 247 then (c.toNat, 1, 0)
    else if t.length + 1 < c.toNat - 246 then (0, 0, 10)
    else if sizeN (valB (t.take (c.toNat - 247))) ≠ c.toNat - 246 then (0, 0, 11)
    else (valB (t.take (c.toNat - 247)), c.toNat - 246, 0)
theorem parse_cons (c : UInt8) (t : List UInt8) : parse (c :: t) = if c.toNat ≤ 247 then (c.toNat, 1, 0) else if t.length + 1 < c.toNat - 246 then (0, 0, 10)
    else if sizeN (valB (t.take (c.toNat - 247))) ≠ c.toNat - 246 then (0, 0, 11) else (valB (t.take (c.toNat - 247)), c.toNat - 246, 0) := rfl
theorem parse_lt (l : List UInt8) : (parse l).1 < 18446744073709551616 ∧ (parse l).2.1 ≤ l.length ∧ ((parse l).2.2 = 0 ∨ (parse l).2.2 = 10 ∨ (parse l).2.2 = 11) := by
  unfold parse
  cases l with
  | nil => simp
  | cons c t =>
    have hc := c.toNat_lt
    dsimp only
    split
    · simp; omega
    · split
      · simp
      · split
        · simp
        · have h1 := valB_lt (t.take (c.toNat - 247))
          have h2 : (256 : Nat) ^ (t.take (c.toNat - 247)).length ≤ 256 ^ 8 := Nat.pow_le_pow_right (by omega) (by rw [List.length_take]; omega)
          have e8 : (256 : Nat) ^ 8 = 18446744073709551616 := by simp
          rw [e8] at h2
          refine ⟨?_, ?_, .inl rfl⟩
          · omega
          simp; omega
theorem shl_step (n : Nat) (c : UInt8) (h : n < 72057594037927936) : bits .or .u64 (IntKind.u64.wrap (U (UInt64.ofNat n) * 256)) (c.toNat : Int) = U (UInt64.ofNat (n * 256 + c.toNat)) := by
  have hc := c.toNat_lt
  have a1 : IntKind.u64.wrap (U (UInt64.ofNat n) * 256) = U (UInt64.ofNat (n * 256)) := by
    rw [U_nat n (by omega), U_nat (n * 256) (by omega), wrap_u64]; omega
  have a2 : (c.toNat : Int) = U (UInt64.ofNat c.toNat) := (U_nat _ (by omega)).symm
  rw [a1, a2, q_or]
  congr 1
  apply UInt64.toNat_inj.1
  rw [UInt64.toNat_or, UInt64.toNat_ofNat', UInt64.toNat_ofNat', UInt64.toNat_ofNat', Nat.mod_eq_of_lt (by omega), Nat.mod_eq_of_lt (by omega), Nat.mod_eq_of_lt (by omega), Nat.or_comm]
  have e : ∀ a b i : Nat, b < 2 ^ i → b ||| 2 ^ i * a = b + 2 ^ i * a := fun a b i h => by rw [Nat.or_comm, ← Nat.two_pow_add_eq_or_of_lt h a, Nat.add_comm]
  have := e n c.toNat 8 (by omega)
  rw [show (2 : Nat) ^ 8 = 256 from rfl] at this
  rw [Nat.mul_comm n 256, this]; omega

set_option maxRecDepth 100000 in
set_option maxHeartbeats 2000000 in
theorem parse_any (v : Value) (l : List UInt8) (w : World) (h : BytesAt w v l) (hcap : ∀ p n c, v = .slice p n c → l.length ≤ c) (hn : l.length ≤ 1000000000) :
    Calls Try.prog 54 #[v] w fun e w' => e = .returned (.tuple #[.int .u64 (U (UInt64.ofNat (parse l).1)), .int .i64 ((parse l).2.1 : Int), .int .i64 ((parse l).2.2 : Int)]) ∧ w = w' := by
  obtain ⟨p, cap, rfl, hf⟩ := id h
  have hc := hcap _ _ _ rfl
  clear hcap
  cases l with
  | nil =>
    have e1 : parse [] = (0, 0, 10) := rfl
    clear hf h
    go_enter Try.func54, Try.ntmps54
    go_wp2_with fail
    go_ret3
    exact ⟨rfl, rfl⟩
  | cons c t =>
    obtain ⟨g, o, rfl, hg, hc0⟩ := hf 0 (by simp)
    have hc0' : w.cell? ⟨g, o, none⟩ = some (.int .u8 (c.toNat : Int)) := by simpa using hc0
    have hct := c.toNat_lt
    have hF := Lib.hid hf
    have hlen : (c :: t).length = t.length + 1 := rfl
    rw [hlen] at hc hn ⊢
    clear hf h hc0 hlen
    go_enter Try.func54, Try.ntmps54
    by_cases h1 : c.toNat ≤ 247
    · have e1 : decide ((c.toNat : Int) ≤ 247) = true := decide_eq_true (by omega)
      have e2 : IntKind.u64.wrap (c.toNat : Int) = (c.toNat : Int) := by rw [wrap_u64]; omega
      have e3 : parse (c :: t) = (c.toNat, 1, 0) := by rw [parse_cons, if_pos h1]
      rw [e3]
      have e4 : U (UInt64.ofNat c.toNat) = (c.toNat : Int) := U_nat _ (by omega)
      go_wp2_with fail
      go_ret3
      exact ⟨rfl, rfl⟩
    have e1 : decide ((c.toNat : Int) ≤ 247) = false := decide_eq_false (by omega)
    obtain ⟨k, hk⟩ : ∃ k, c.toNat = 247 + (k + 1) := ⟨c.toNat - 248, by omega⟩
    have e2 : 1 + (c.toNat : Int) - 247 = (k : Int) + 2 := by omega
    have hk8 : k + 1 ≤ 8 := by omega
    by_cases h2 : t.length + 1 < k + 2
    · have e3 : parse (c :: t) = (0, 0, 10) := by rw [parse_cons, if_neg h1, if_pos (by omega)]
      have e4 : decide (((t.length : Int) + 1) < (k : Int) + 2) = true := decide_eq_true (by omega)
      rw [e3]
      clear hk h1
      go_wp2_with fail
      go_ret3
      exact ⟨rfl, rfl⟩
    · have e4 : decide (((t.length : Int) + 1) < (k : Int) + 2) = false := decide_eq_false (by omega)
      have HP := Lib.hid (show parse (c :: t) = if sizeN (valB (t.take (k + 1))) ≠ k + 2 then (0, 0, 11) else (valB (t.take (k + 1)), k + 2, 0) by
        rw [parse_cons, if_neg h1, if_neg (by omega), show c.toNat - 247 = k + 1 by omega, show c.toNat - 246 = k + 2 by omega])
      clear hk h1
      go_wp2_with fail
      have hv0 : (0 : Int) = U (UInt64.ofNat (valB (t.take 0))) := by rw [U_nat _ (by simp [valB])]; simp [valB]
      clear e2 e1 e4 hct hc0'
      go_loopw [6, 36] (fun u i wr => wr = w ∧ ∃ j : Nat, j ≤ k + 1 ∧ i = .int .i64 j ∧ u = .int .u64 (U (UInt64.ofNat (valB (t.take j))))) (fun _ i _ => k + 1 - (intOf i).toNat)
      case atStart => exact ⟨rfl, 0, by omega, rfl, by rw [← hv0]⟩
      case round =>
        obtain ⟨rfl, j, hj, rfl, rfl⟩ := hrel
        by_cases hjl : j < k + 1
        · have e5 : decide ((j : Int) < (k : Int) + 1) = true := decide_eq_true (by omega)
          obtain ⟨x, hx⟩ : ∃ x, t[j]? = some x := ⟨_, List.getElem?_eq_getElem (by omega)⟩
          have c1 : wr.cell? ⟨g, o + 1 + j, none⟩ = some (.int .u8 (x.toNat : Int)) := by
            obtain ⟨g1, o1, e, _, hc1⟩ := hF.out (j + 1) (by rw [List.length_cons]; omega)
            cases e
            rw [show o + 1 + j = o + (j + 1) by omega, hc1, List.getElem?_cons_succ, hx]; rfl
          have hvl : valB (t.take j) < 72057594037927936 := by
            have h1 := valB_lt (t.take j)
            have h3 : (256 : Nat) ^ (t.take j).length ≤ 256 ^ 7 := Nat.pow_le_pow_right (by omega) (by rw [List.length_take]; omega)
            have e7 : (256 : Nat) ^ 7 = 72057594037927936 := by simp
            omega
          have hst := shl_step (valB (t.take j)) x hvl
          obtain ⟨y, hy⟩ : ∃ y, y = UInt64.ofNat (valB (t.take j) * 256 + x.toNat) := ⟨_, rfl⟩
          rw [← hy] at hst
          have HY := Lib.hid hy
          have htk : t.take (j + 1) = t.take j ++ [x] := by
            rw [List.take_add_one, hx]; rfl
          have hxt := x.toNat_lt
          have e6 : IntKind.u64.wrap (x.toNat : Int) = (x.toNat : Int) := by rw [wrap_u64]; omega
          have HT := Lib.hid htk
          clear htk hx hv0 hy
          go_wp2_with fail
          refine ⟨⟨trivial, j + 1, by omega, by go_num, ?_⟩, by simp [intOf]; omega⟩
          rw [HT.out, valB_snoc, ← HY.out]
        · have e5 : decide ((j : Int) < (k : Int) + 1) = false := decide_eq_false (by omega)
          obtain rfl : j = k + 1 := by omega
          clear hv0
          have hvl : valB (t.take (k + 1)) < 18446744073709551616 := by
            have h1 := valB_lt (t.take (k + 1))
            have h3 : (256 : Nat) ^ (t.take (k + 1)).length ≤ 256 ^ 8 := Nat.pow_le_pow_right (by omega) (by rw [List.length_take]; omega)
            have e7 : (256 : Nat) ^ 8 = 18446744073709551616 := by simp
            omega
          have hu : (UInt64.ofNat (valB (t.take (k + 1)))).toNat = valB (t.take (k + 1)) := by rw [UInt64.toNat_ofNat', Nat.mod_eq_of_lt hvl]
          go_wp2_with fail
          refine (size_any (UInt64.ofNat (valB (t.take (k + 1)))) wr).mono ?_
          rintro e w2 ⟨rfl, rfl⟩
          rw [hu]
          have hP := HP.out
          clear hu hvl
          generalize hsz : sizeN (valB (t.take (k + 1))) = sz at *
          by_cases h3 : sz = k + 2
          · rw [if_neg (by omega)] at hP
            have e6 : (((sz : Nat) : Int) != (k : Int) + 2) = false := by rw [h3]; simp
            have HP2 := Lib.hid hP
            clear hsz h3 hP
            go_wp2_with fail
            go_ret3
            rw [HP2.out]
            exact ⟨rfl, rfl⟩
          · rw [if_pos h3] at hP
            have e6 : (((sz : Nat) : Int) != (k : Int) + 2) = true := by simp; omega
            have HP2 := Lib.hid hP
            clear hsz hP
            go_wp2_with fail
            go_ret3
            rw [HP2.out]
            exact ⟨rfl, rfl⟩
end Go.Proofs.Ytehfinjcfjobeaa
