/- The walk of the law PenWrites.
   Conditions: those that the theorem names. -/
import Derived.Test.YtfmgkllnncibaaaI
namespace Go.Proofs.Ytfmgkllnncibaaa
set_option linter.unusedVariables false
set_option linter.unusedSimpArgs false
open Go.RowKit Go.Rg
attribute [local go_sem] Rg.q_add Rg.q_add' Rg.q_xor Rg.q_or Rg.q_and ba_app
theorem q_xor8 (a : UInt8) : bits .xor .u8 (a.toNat : Int) 255 = ((a ^^^ 255).toNat : Int) := by
  have hx : a.toNat ^^^ 255 < 2 ^ 8 := Nat.xor_lt_two_pow a.toNat_lt (by decide)
  have ha : a.toNat % 2 ^ 8 = a.toNat := Nat.mod_eq_of_lt a.toNat_lt
  have e : IntKind.u8.bits = 8 := rfl
  rw [UInt8.toNat_xor, show (255 : Int) = ((255 : Nat) : Int) from rfl, show (255 : UInt8).toNat = 255 from rfl]
  simp only [bits, e, BitVec.ofInt_natCast, BitVec.toNat_xor, BitVec.toNat_ofNat, ha, show 255 % 2 ^ 8 = 255 from rfl]
  rw [IntKind.wrap_u8]
  generalize a.toNat ^^^ 255 = z at *
  omega
set_option maxRecDepth 100000 in
set_option maxHeartbeats 4000000 in
theorem writes_walk (v : Value) (os : List OutOp) (u : UInt64) (n : Int) (w : World) (hr : OutsAt w v os) (hk : os.length ≤ 1000000000000000) (hs : ∀ q ∈ os, q.b.length ≤ 1000000000000000) (hn : -9223372036854775808 ≤ n ∧ n ≤ 9223372036854775807) :
    Calls Try.prog 3 #[v, .int .u64 (U u), .int .i64 n] w fun e w' => e = .returned (.bool true) ∧ Below w.heap.size w w' := by
  have HR := Lib.hid hr
  clear hr
  go_enter Try.func3, Try.ntmps3
  go_wp2_with fail
  refine (first_any w).mono ?_
  rintro e w1 ⟨rfl, hB1⟩
  have HR1 := Lib.hid (HR.out.below hB1)
  clear HR
  go_wp2_with fail
  refine (great_any v os w1 HR1.out hk hs).mono ?_
  rintro e w2 ⟨rfl, hB2⟩
  have HR2 := Lib.hid (HR1.out.below hB2)
  have hBw2 := hB1.trans (hB2.mono hB1.size)
  clear HR1 hB1 hB2
  by_cases hg : 4000 < totO os
  · rw [decide_eq_true hg]
    go_wp2_with fail
    go_ret
    exact ⟨rfl, hBw2⟩
  rw [decide_eq_false hg]
  clear hk hs
  go_wp2_with fail
  refine (written_any v os w2 HR2.out (by omega)).mono ?_
  rintro e w3 ⟨b, rfl, hp, hB3⟩
  have hel : (encs os).length ≤ 4000 := by
    have := encs_len os (fun q hq => by have := mem_tot os q hq; omega)
    omega
  have hBw3 := hBw2.trans (hB3.mono hBw2.size)
  have HP := Lib.hid hp
  generalize encs os = l at *
  clear hp hB3 hBw2 HR2 hg
  go_wp2_with fail
  refine (bytes_in _ b l w3 HP.out (by omega)).mono ?_
  rintro e w4 ⟨v4, rfl, o4, n4, hB4⟩
  obtain ⟨p4, c4, rfl, hlc, hnone, hsome⟩ := o4.shape
  have O4 := Lib.hid o4
  have N4 := Lib.hid n4
  have HS4 := Lib.hid hsome
  clear o4 n4 hsome hnone
  go_wp2_with fail
  go_loopw [10, 25] (fun _ c wr => ∃ (i : Nat) (l' : List UInt8), i ≤ l.length ∧ c = .int .i64 i ∧ l'.length = l.length ∧ Hid (OwnB wr (.slice p4 l.length c4) l') ∧ Below w3.heap.size w3 wr) (fun _ c _ => l.length - (intOf c).toNat)
  case atStart => exact ⟨0, l, by omega, rfl, rfl, O4, hB4⟩
  case round =>
    obtain ⟨i, l', hi, rfl, hl', HO, hB⟩ := hrel
    by_cases hil : i < l.length
    · have e1 : decide (i < l.length) = true := decide_eq_true hil
      have ho := HO.out
      unfold OwnB at ho
      rw [hl'] at ho
      rcases ho.2 with ⟨e, h0⟩ | ⟨g, cap, cur, e, _, hg, _⟩
      · omega
      cases e
      obtain ⟨x, hx⟩ : ∃ x, l'[i]? = some x := ⟨_, List.getElem?_eq_getElem (by omega)⟩
      have hc : wr.cell? ⟨g, i, none⟩ = some (.int .u8 (x.toNat : Int)) := by
        have := ho.cells (g := g) rfl i (byteV x) (by rw [List.getElem?_map, hx]; rfl)
        rw [add_plain, Nat.zero_add] at this
        exact this
      have hf := free_of hg i
      have hx8 := q_xor8 x
      have hgl := N4.out g rfl
      have hlen' : (l'.map byteV).length = l.length := by simp [hl']
      have hst := ho.stored i (.int .u8 ((x ^^^ 255).toNat : Int))
      have HST := Lib.hid hst.1
      clear hst ho hx
      go_wp2_with fail
      refine ⟨⟨i + 1, l'.set i (x ^^^ 255), by omega, by go_num, by simpa using hl', Lib.hid ?_, hB.setCell hgl _⟩, by simp [intOf]; omega⟩
      have := HST.out
      unfold OwnB
      rw [List.length_set, hl', List.map_set]
      exact this
    · have e1 : decide (i < l.length) = false := decide_eq_false hil
      have HP2 := Lib.hid (HP.out.below hB)
      have hBw := hBw3.trans (hB.mono hBw3.size)
      clear HO O4 N4 HS4 HP hB4 hB
      go_wp2_with fail
      refine (number_nil _ wr).mono ?_
      rintro e w5 ⟨⟨v5, rfl⟩, rfl⟩
      go_wp2_with fail
      refine (text_nil _ _ _ _).mono ?_
      rintro e w5 ⟨⟨v6, rfl⟩, rfl⟩
      go_wp2_with fail
      refine (fixed_nil _ _).mono ?_
      rintro e w5 ⟨⟨v7, rfl⟩, rfl⟩
      have hA : Below wr.heap.size wr ((wr.alloc (.cells #[.int .u8 1] 5)).alloc (.cells #[.int .u8 2] 5)) := ((Below.refl _ wr).alloc (Nat.le_refl _) _).alloc (by simp) _
      have HP6 := Lib.hid (HP2.out.below hA)
      have hBw6 := hBw.trans (hA.mono hBw.size)
      generalize (wr.alloc (.cells #[.int .u8 1] 5)).alloc (.cells #[.int .u8 2] 5) = w6 at *
      clear hA HP2 hBw
      go_wp2_with fail
      refine (signed_nil n _ hn).mono ?_
      rintro e w5 ⟨⟨v8, rfl⟩, rfl⟩
      go_wp2_with fail
      refine (bytes_in _ b l w6 HP6.out (by omega)).mono ?_
      rintro e w7 ⟨v9, rfl, o7, n7, b7⟩
      have hcv := conv_bytes o7.at
      have hBw7 := hBw6.trans (b7.mono hBw6.size)
      clear o7 n7 b7 HP6 hBw6
      go_wp2_with fail
      refine (zig_any n w7 hn).mono ?_
      rintro e w8 ⟨rfl, rfl⟩
      go_wp2_with fail
      refine (ref_zig n w7 hn).mono ?_
      rintro e w8 ⟨rfl, rfl⟩
      clear hcv
      go_wp2_with fail
      refine (zag_any u w7).mono ?_
      rintro e w8 ⟨rfl, rfl⟩
      go_wp2_with fail
      refine (ref_zag u w7).mono ?_
      rintro e w8 ⟨rfl, rfl⟩
      go_wp2_with fail
      refine (size_any u w7).mono ?_
      rintro e w8 ⟨rfl, rfl⟩
      go_wp2_with fail
      refine (ref_number u w7).mono ?_
      rintro e w8 ⟨rfl, b8⟩
      have hBw8 := hBw7.trans (b8.mono hBw7.size)
      have hnl := numN_length u.toNat
      have HNL := Lib.hid hnl
      clear hnl b8 hBw7
      rw [← HNL.out]
      go_wp2_with fail
      refine (bytes_nil w8).mono ?_
      rintro e w9 ⟨rfl, rfl⟩
      go_wp2_with fail
      go_ret
      exact ⟨rfl, hBw8⟩
end Go.Proofs.Ytfmgkllnncibaaa
