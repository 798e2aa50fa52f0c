/- The walk of the law PenWords.
   Conditions: those that the theorem names. -/
import Derived.Test.YtfmgkllnncibaaaV
import Derived.Test.YtfmgkllnncibaaaP
namespace Go.Proofs.Ytfmgkllnncibaaa
set_option linter.unusedVariables false
set_option linter.unusedSimpArgs false
open Go.RowKit Go.Rg
attribute [local go_sem] Rg.q_add Rg.q_add' Rg.q_xor Rg.q_or Rg.q_and ba_app max_two max2_int min_two min2_int
theorem row_cell {W : World} {s0 e n : Nat} {v : Value} {xs : List Value} (h : W.ownsRow s0 e 1 v n xs) {i : Nat} {u : Value} (hu : xs[i]? = some u) : ∃ g cap, v = .slice (some ⟨g, 0, none⟩) n cap ∧ W.cell? ⟨g, i, none⟩ = some u := by
  rcases h.2 with ⟨rfl, h0⟩ | ⟨g, cap, cur, rfl, _⟩
  · have := h.1
    have hl := (List.getElem?_eq_some_iff.1 hu).1
    omega
  · refine ⟨g, cap, rfl, ?_⟩
    have := h.cells (g := g) rfl i u hu
    rwa [add_plain, Nat.zero_add] at this
set_option maxRecDepth 100000 in
set_option maxHeartbeats 2000000 in
theorem words_walk (p : Option Addr) (cap : Nat) (b : List UInt8) (most : Int) (w : World) (hb : BytesAt w (.slice p b.length cap) b) (hcap : b.length ≤ cap) (hm : -9223372036854775808 ≤ most ∧ most ≤ 9223372036854775807) :
    Calls Try.prog 7 #[.slice p b.length cap, .int .i64 most] w fun e w' => e = .returned (.bool true) ∧ Below w.heap.size w w' := by
  have HB := Lib.hid hb
  clear hb
  go_enter Try.func7, Try.ntmps7
  go_wp2_with fail
  refine (first_any w).mono ?_
  rintro e w1 ⟨rfl, hB1⟩
  by_cases h1 : 2000 < b.length
  · have e1 : decide ((2000 : Int) < (b.length : Int)) = true := decide_eq_true (by omega)
    go_wp2_with fail
    go_ret
    exact ⟨rfl, hB1⟩
  have e1 : decide ((2000 : Int) < (b.length : Int)) = false := decide_eq_false (by omega)
  go_wp2_with fail
  obtain ⟨k, hk, hk5⟩ : ∃ k : Nat, max 0 (min most 5000) = (k : Int) ∧ k ≤ 5000 := ⟨(max 0 (min most 5000)).toNat, by omega, by omega⟩
  have hbw := HB.out.below hB1
  rw [hk]
  clear hk
  refine (found_any p cap b (k : Int) w1 hbw hcap (by omega)).mono ?_
  rintro e w2 ⟨va, vb, rfl, ra, rb, hB2⟩
  rw [Int.toNat_natCast] at ra rb
  obtain ⟨tk, htk⟩ : ∃ tk, (wrds b).take k = tk := ⟨_, rfl⟩
  rw [htk] at ra rb
  have hrl : tk.length ≤ 5000 := by rw [← htk]; simp; omega
  have HT := Lib.hid htk
  clear htk
  have HB2 := Lib.hid (hbw.below hB2)
  have RA := Lib.hid ra
  have RB := Lib.hid rb
  obtain ⟨pa, ca, rfl⟩ := row_shape ra
  obtain ⟨pb, cb, rfl⟩ := row_shape rb
  clear ra rb hbw
  have hcv := conv_bytes HB2.out
  go_wp2_with fail
  clear hcv
  have HR : Hid (RefAt w2.heap.size ⟨b, 0⟩ (w2.alloc (.cells #[str b, .int .i64 0] 53))) := Lib.hid (World.alloc_heap_new _ _)
  have HL : Hid (Below w1.heap.size w1 (w2.alloc (.cells #[str b, .int .i64 0] 53))) := Lib.hid (hB2.alloc hB2.size _)
  have HA := Lib.hid (row_kept RA.out (X := w2.alloc (.cells #[str b, .int .i64 0] 53)) (fun g hg => Below.heap_alloc w2 _ g (RA.out.lt g hg).2))
  have HA' := Lib.hid (row_kept RB.out (X := w2.alloc (.cells #[str b, .int .i64 0] 53)) (fun g hg => Below.heap_alloc w2 _ g (RB.out.lt g hg).2))
  have hxs : w1.heap.size ≤ w2.heap.size := hB2.size
  have HNA : Hid (∀ g, (Value.slice pa tk.length ca).ownBlock = some g → g ≠ w2.heap.size) := Lib.hid (fun g hg e => by have := (RA.out.lt g hg).2; omega)
  have HNB : Hid (∀ g, (Value.slice pb tk.length cb).ownBlock = some g → g ≠ w2.heap.size) := Lib.hid (fun g hg e => by have := (RB.out.lt g hg).2; omega)
  clear RA RB
  have hxb1 : w1.heap.size ≤ w2.heap.size := hxs
  clear hxs
  generalize hxb : w2.heap.size = xb at *
  generalize w2.alloc (.cells #[str b, .int .i64 0] 53) = w3 at *
  clear hxb
  go_loopw [9, 10, 11] (fun n _ _ wr => ∃ (m i : Nat) (pre : List (Nat × UInt64)), n = .int .i64 (m : Int) ∧ m ≤ k ∧ Hid (pre.length = m) ∧ Hid (Met b pre i) ∧ Hid (RefAt xb ⟨b.drop i, 0⟩ wr) ∧ Hid (Below w1.heap.size w1 wr) ∧
    Hid (wr.ownsRow w1.heap.size 3 1 (.slice pa tk.length ca) tk.length (tk.map fun x => .int .i64 (x.1 : Int))) ∧
    Hid (wr.ownsRow w1.heap.size 23 1 (.slice pb tk.length cb) tk.length (tk.map fun x => .int .u64 (U x.2)))) (fun n _ _ _ => k - (intOf n).toNat)
  case atStart => exact ⟨0, 0, [], rfl, Nat.zero_le _, Lib.hid rfl, Lib.hid (Met.start b), HR, HL, HA, HA'⟩
  case round =>
    obtain ⟨m, i, pre, rfl, hmk, HP, HM, HR, HL, HA, HA'⟩ := hrel
    obtain ⟨k0, k1, f0, f1⟩ := HR.out.cells
    have hsz := bytes_size (b.drop i)
    have hdl : (b.drop i).length = b.length - i := List.length_drop
    have hib : i ≤ b.length := HM.out.1
    dsimp only at k0 k1
    have hq : (18446744073709551615 : Int) = U 18446744073709551615 := rfl
    have hle : (b.length : Int) - ((b.length - i : Nat) : Int) = (i : Int) := by omega
    have HQ := Lib.hid hq
    clear hq
    go_wp2_with fail
    clear hle
    have hq := HQ.out
    rw [hq]
    clear hq
    refine (ref_num xb ⟨b.drop i, 0⟩ 18446744073709551615 wr HR.out (by dsimp only; omega)).mono ?_
    rintro e w4 ⟨rfl, hR4, hT4⟩
    have hwr : w1.heap.size ≤ wr.heap.size := HL.out.size
    have HL4 : Hid (Below w1.heap.size w1 w4) := Lib.hid (HL.out.trans (Touch.below hT4 (by rintro j rfl; exact hxb1) hwr))
    have HA4 := Lib.hid (row_kept HA.out (X := w4) (fun g hg => hT4.block g (HA.out.lt g hg).2 (HNA.out g hg)))
    have HB4 := Lib.hid (row_kept HA'.out (X := w4) (fun g hg => hT4.block g (HA'.out.lt g hg).2 (HNB.out g hg)))
    clear hT4 hdl hsz k0 k1 f0 f1
    by_cases he : (parse (b.drop i)).2.2 = 0
    · have HMM := Lib.hid (HM.out.more he)
      have hml := HM.out.lt he
      have hpl := (parse_lt (b.drop i)).1
      have hpp := parse_pos he
      have hnum : (⟨b.drop i, 0⟩ : Ey).number 18446744073709551615 = ((parse (b.drop i)).1, ⟨b.drop (i + (parse (b.drop i)).2.1), 0⟩) := by
        unfold Ey.number
        rw [if_neg (by simp), if_neg (by simp [he]), if_neg (by
          have : (18446744073709551615 : UInt64).toNat = 18446744073709551615 := rfl
          rw [this]; dsimp only; omega)]
        rw [List.drop_drop]
      rw [hnum] at hR4 ⊢
      dsimp only at hR4 ⊢
      clear hnum
      obtain ⟨k0, k1, f0, f1⟩ := hR4.cells
      have HR4 := Lib.hid hR4
      clear hR4
      dsimp only at k0 k1
      have hpi : i + (parse (b.drop i)).2.1 ≤ b.length := HMM.out.1
      have hpl' : (b.drop (i + (parse (b.drop i)).2.1)).length ≤ b.length := by simp
      generalize (parse (b.drop i)).1 = u at *
      generalize (parse (b.drop i)).2.1 = n at *
      obtain ⟨z, hz⟩ : ∃ z, UInt64.ofNat u = z := ⟨_, rfl⟩
      rw [hz] at HMM ⊢
      clear hz
      have hpre := HP.out
      have hpf := HM.out.pre
      have hpf' := HMM.out.pre
      have hkl : tk.length = min k (wrds b).length := by rw [← HT.out]; exact List.length_take
      have HF := Lib.hid hpf
      have HF' := Lib.hid hpf'
      clear hpf hpf' hpre
      by_cases hkm : k ≤ m
      · have e2 : decide ((k : Int) ≤ (m : Int)) = true := decide_eq_true (by omega)
        have e3 : ((tk.length : Int) == (m : Int)) = true := by
          have := HP.out
          have h1 : tk.length = m := by omega
          simp [h1]
        have E3 := Lib.hid e3
        clear e3 hkl
        go_wp2_with fail
        go_ret
        exact ⟨by rw [E3.out]; rfl, hB1.trans (HL4.out.mono hB1.size)⟩
      · have hmk' : m < k := by omega
        have hml' : m < (wrds b).length := by have := HP.out; omega
        have hmt : m < tk.length := by omega
        have hel : tk[m]? = some (i, z) := by
          rw [← HT.out]
          obtain ⟨t, ht⟩ := HF'.out
          rw [List.getElem?_take, if_pos hmk', ← ht]
          have := HP.out
          simp [← this]
        obtain ⟨ga, ca', ea, cca⟩ := row_cell HA4.out (i := m) (u := .int .i64 (i : Int)) (by rw [List.getElem?_map, hel]; rfl)
        obtain ⟨gb, cb', eb, ccb⟩ := row_cell HB4.out (i := m) (u := .int .u64 (U z)) (by rw [List.getElem?_map, hel]; rfl)
        cases ea
        cases eb
        clear hel hkl
        have e4 : decide (k ≤ m) = false := decide_eq_false (by omega)
        have e5 : decide (tk.length ≤ m) = false := decide_eq_false (by omega)
        go_wp2_with fail
        go_roundw
        case rel => exact ⟨m + 1, i + n, _, by go_num, by omega, Lib.hid (by simp [HP.out]), HMM, HR4, HL4, HA4, HB4⟩
        case measure => simp [intOf]; omega
    · have hst := HM.out.stop he
      have hnum : (⟨b.drop i, 0⟩ : Ey).number 18446744073709551615 = (0, ⟨[], ((parse (b.drop i)).2.2 : Int)⟩) := by
        unfold Ey.number Ey.fail
        rw [if_neg (by simp), if_pos (by simp [he])]
        simp [he]
      rw [hnum] at hR4 ⊢
      dsimp only at hR4 ⊢
      clear hnum
      obtain ⟨k0, k1, f0, f1⟩ := hR4.cells
      dsimp only at k0 k1
      clear hR4
      have e3 : ((tk.length : Int) == (m : Int)) = true := by
        have := HP.out
        have h1 : tk.length = m := by rw [← HT.out, List.length_take, ← hst]; omega
        simp [h1]
      have E3 := Lib.hid e3
      have e4 : ((((parse (b.drop i)).2.2 : Nat) : Int) != 0) = true := by simp [he]
      clear e3 he hst
      generalize (parse (b.drop i)).2.2 = er at *
      go_wp2_with fail
      go_ret
      exact ⟨by rw [E3.out]; rfl, hB1.trans (HL4.out.mono hB1.size)⟩
end Go.Proofs.Ytfmgkllnncibaaa
