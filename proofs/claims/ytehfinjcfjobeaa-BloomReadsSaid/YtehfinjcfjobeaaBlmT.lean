/- The document's answers of law 15: bits as bytes.
   Conditions: those that each theorem names. -/
import Derived.Test.YtehfinjcfjobeaaBlmR
import Derived.Test.YtehfinjcfjobeaaPq
namespace Go.Proofs.Ytehfinjcfjobeaa
set_option maxRecDepth 100000
set_option linter.unusedVariables false
set_option linter.unusedSimpArgs false
open Go.RowKit Go.Rg
theorem byte_step (y : Nat) (j : Nat) (hj : 0 < j) : 2 * (y / 2 ^ j) + y / 2 ^ (j - 1) % 2 = y / 2 ^ (j - 1) := by
  obtain ⟨k, rfl⟩ : ∃ k, j = k + 1 := ⟨j - 1, by omega⟩
  rw [Nat.add_sub_cancel, Nat.pow_succ, ← Nat.div_div_eq_div_mul]
  omega
set_option maxHeartbeats 4000000 in
theorem refbytes15 (v : Value) (l : List UInt8) (w : World) (h : SlL w v (boolsV (bitsOf l))) (hl : l.length ≤ 1024) :
    Calls Try.prog 23 #[v] w fun e w' => e = .returned (str (fltB l)) ∧ Below w.heap.size w w' := by
  have hlen : (boolsV (bitsOf l)).length = 8 * l.length := by rw [boolsV_length, bitsOf_length]
  have hget := fun q hq => boolsV_get (l := l) (q := q) hq
  obtain ⟨p, cap, rfl, hcap, _⟩ := id h
  rw [hlen] at h ⊢
  have f0 : ((8 * l.length : Nat) : Int) / 8 = (l.length : Int) := by omega
  have f1 : (0 : Int) ≤ ((8 * l.length : Nat) : Int) := by omega
  have f2 : ((8 * l.length : Nat) : Int) ≤ 8192 := by omega
  have kN := fun X => ref_number (UInt64.ofNat l.length) X
  have hU : U (UInt64.ofNat l.length) = (l.length : Int) := by unfold U; rw [UInt64.toNat_ofNat', Nat.mod_eq_of_lt (by omega)]
  have hUN : (UInt64.ofNat l.length).toNat = l.length := by rw [UInt64.toNat_ofNat', Nat.mod_eq_of_lt (by omega)]
  rw [hU, hUN] at kN
  have hNl : 8 * l.length = 8 * l.length := rfl
  generalize hN : 8 * l.length = N at h hget f0 f1 f2 ⊢
  have HN := Lib.hid hN
  have HS := Lib.hid h
  have HG := Lib.hid hget
  have KN := Lib.hid kN
  clear h hget kN hlen hU hUN hNl hN
  go_enter Try.func23, Try.ntmps23
  go_wp2_with fail
  refine (KN.out w).mono ?_
  rintro e w1 ⟨rfl, hB1⟩
  have HB1 := Lib.hid hB1
  clear hB1 KN
  go_wp2_with fail
  go_loopw [3, 4, 5, 6] (fun s c _ _ wr => ∃ i : Nat, i ≤ l.length ∧ c = .int .i64 ((8 * i : Nat) : Int) ∧ s = str (numN l.length ++ l.take i) ∧ Hid (Below w.heap.size w wr)) (fun _ c _ _ _ => N - (intOf c).toNat)
  case atStart => exact ⟨0, by omega, rfl, by simp, HB1⟩
  case round =>
    obtain ⟨i, hi, rfl, rfl, HW⟩ := hrel
    by_cases hil : i < l.length
    · have e1 : decide (((8 * i : Nat) : Int) < (N : Int)) = true := decide_eq_true (by have := HN.out; omega)
      obtain ⟨y, hy⟩ : ∃ y, l[i]? = some y := ⟨_, List.getElem?_eq_getElem hil⟩
      have hbit : ∀ j, j < 8 → bitB l (8 * i + j) = decide (y.toNat / 2 ^ j % 2 = 1) := by
        intro j hj
        unfold bitB
        rw [show (8 * i + j) / 8 = i by omega, show (8 * i + j) % 8 = j by omega, List.getD_eq_getElem?_getD, hy]; rfl
      have HBIT := Lib.hid hbit
      have HY := Lib.hid hy
      have i8 : 8 * i + 8 ≤ N := by have := HN.out; omega
      have i9 : N ≤ 8192 := by have := HN.out; omega
      have hy0 : y.toNat < 256 := y.toNat_lt
      clear hbit hy
      obtain ⟨I, hI⟩ : ∃ I, 8 * i = I := ⟨_, rfl⟩
      rw [hI] at e1 i8 ⊢
      have HI := Lib.hid hI
      clear hI
      obtain ⟨S, hS⟩ : ∃ S, numN l.length ++ l.take i = S := ⟨_, rfl⟩
      rw [hS]
      have HSS := Lib.hid hS
      clear hS
      go_wp2_with fail
      go_loopw [5, 6] (fun x k ws => ∃ j : Nat, j ≤ 8 ∧ k = .int .i64 ((j : Int) - 1) ∧ x = .int .i64 ((y.toNat / 2 ^ j : Nat) : Int) ∧ ws = wr) (fun _ k _ => (intOf k + 1).toNat)
      case atStart => exact ⟨8, by omega, rfl, by rw [Nat.div_eq_of_lt (by simpa using hy0)]; rfl, rfl⟩
      case round =>
        obtain ⟨j, hj, rfl, rfl, rfl⟩ := hrel
        by_cases hj0 : 0 < j
        · obtain ⟨k, rfl⟩ : ∃ k, j = k + 1 := ⟨j - 1, by omega⟩
          have e2 : decide ((0 : Int) ≤ ((k + 1 : Nat) : Int) - 1) = true := decide_eq_true (by omega)
          have e3 : ((k + 1 : Nat) : Int) - 1 = (k : Int) := by omega
          have hst := byte_step y.toNat (k + 1) (by omega)
          rw [Nat.add_sub_cancel] at hst
          have hq : y.toNat / 2 ^ (k + 1) ≤ 255 := Nat.le_trans (Nat.div_le_self _ _) (by omega)
          have hgt := HG.out (I + k) (by omega)
          have hbk := HBIT.out k (by omega)
          rw [HI.out] at hbk
          rw [hbk] at hgt
          obtain ⟨g, o, hpe, _, hc⟩ := HS.out.get hgt
          subst hpe
          have hc' := hc wr HW.out
          obtain ⟨q, hqd⟩ : ∃ q, y.toNat / 2 ^ (k + 1) = q := ⟨_, rfl⟩
          obtain ⟨r, hrd⟩ : ∃ r, y.toNat / 2 ^ k = r := ⟨_, rfl⟩
          rw [hqd] at hst hq ⊢
          rw [hrd] at hst hc'
          rw [e3]
          have k0 : (0 : Int) ≤ (k : Int) := Int.natCast_nonneg _
          have k7 : (k : Int) ≤ 7 := by omega
          have a1 : (0 : Int) ≤ (I : Int) + (k : Int) := by omega
          have a2 : (I : Int) + (k : Int) < (N : Int) := by omega
          have a3 : ((I : Int) + (k : Int)).toNat = I + k := by omega
          have HRD := Lib.hid hrd
          have HST := Lib.hid hst
          clear hst hgt hbk hc hqd hrd e3 e2
          by_cases hb : r % 2 = 1
          · have e4 : decide (r % 2 = 1) = true := decide_eq_true hb
            rw [e4] at hc'
            have HB := Lib.hid hb
            clear hb e4
            go_wp2_with fail
            go_roundw
            case rel => exact ⟨k, by omega, by go_num, by rw [HRD.out]; congr 1; have := HST.out; have := HB.out; omega, by first | rfl | trivial⟩
            case measure => simp [intOf]
          · have e4 : decide (r % 2 = 1) = false := decide_eq_false hb
            rw [e4] at hc'
            have HB := Lib.hid hb
            clear hb e4
            go_wp2_with fail
            go_roundw
            case rel => exact ⟨k, by omega, by go_num, by rw [HRD.out]; congr 1; have := HST.out; have := HB.out; omega, by first | rfl | trivial⟩
            case measure => simp [intOf]
        · obtain rfl : j = 0 := by omega
          have e5 : IntKind.u8.wrap ((y.toNat / 2 ^ 0 : Nat) : Int) = (y.toNat : Int) := by rw [IntKind.wrap_u8, Nat.pow_zero, Nat.div_one]; omega
          have hcv := conv_one y wr
          have hnx : S ++ [y] = numN l.length ++ l.take (i + 1) := by rw [← HSS.out, List.take_add_one, HY.out, List.append_assoc]; rfl
          have hSl : S.length ≤ 9 + 1024 := by have := numN_le l.length (by omega); rw [← HSS.out, List.length_append, List.length_take]; omega
          have hle := len_ok S [y] (by simp; omega)
          have hle2 : (9223372036854775807 < S.length + 1) = False := hle
          have B8 := Lib.hid ((HW.out).alloc (HW.out.size) (.cells #[.int .u8 (y.toNat : Int)] 5))
          have HNX := Lib.hid hnx
          clear hnx HW
          go_wp2_with fail
          go_roundw
          case rel => exact ⟨i + 1, by omega, by rw [← HI.out]; go_num, by rw [← HNX.out]; rfl, B8⟩
          case measure => simp [intOf]; omega
    · have e1 : decide (((8 * i : Nat) : Int) < (N : Int)) = false := decide_eq_false (by have := HN.out; omega)
      obtain rfl : i = l.length := by omega
      have hfl : numN l.length ++ l.take l.length = fltB l := by rw [List.take_of_length_le (Nat.le_refl _)]; rfl
      rw [hfl, HN.out]
      clear hfl e1
      go_wp2_with fail
      go_ret
      exact ⟨rfl, HW.out⟩
end Go.Proofs.Ytehfinjcfjobeaa
