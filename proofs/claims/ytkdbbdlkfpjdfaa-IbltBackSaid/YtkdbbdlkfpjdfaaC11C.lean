/- Law IbltBack: the walk.
   Conditions: those that each theorem names. -/
import Derived.Test.YtkdbbdlkfpjdfaaC11A
import Derived.Test.YtkdbbdlkfpjdfaaIbT
import Derived.Test.YtkdbbdlkfpjdfaaIbU
namespace Go.Proofs.Ytkdbbdlkfpjdfaa
set_option maxRecDepth 100000
set_option linter.unusedVariables false
set_option linter.unusedSimpArgs false
open Go.RowKit Go.Rg
attribute [local go_sem] cellV
theorem subL_self (cs : List Ce) (hk : Oks cs) : subL cs cs = List.replicate cs.length Ce.zero := by
  apply cells_ext
  · rw [subL_length, List.length_replicate]
  · intro p hp
    rw [subL_length] at hp
    rw [subL_get _ _ p hp, zeros_get]
    exact sub_self' _ (hk _ (by rw [List.getD_eq_getElem?_getD, List.getElem?_eq_getElem hp]; exact List.getElem_mem hp))
set_option maxHeartbeats 4000000 in
theorem iback_out (n : Int) (v : Value) (ms : List (List UInt8)) (hr : ¬ (fitsC n ∧ n ≤ 300 ∧ ms.length ≤ 60)) (w : World) (hm : MarksAt w v ms) :
    Calls Try.prog 9 #[.int .i64 n, v] w fun e w' => e = .returned (.bool true) ∧ Below w.heap.size w w' := by
  obtain ⟨p, cap, rfl, _⟩ := id hm
  clear hm
  by_cases hn : fitsC n
  · by_cases h3 : 300 < n
    · have e3 : decide ((300 : Int) < n) = true := decide_eq_true h3
      clear hr
      go_enter Try.func9, Try.ntmps9
      go_wp2_with fail
      refine (first11 w).mono ?_
      rintro e w1 ⟨rfl, hB1⟩
      go_wp2_with fail
      refine (rfits_yes n hn w1).mono ?_
      rintro e w' ⟨rfl, rfl⟩
      go_wp2_with fail
      go_ret
      exact ⟨rfl, hB1⟩
    · have e3 : decide ((300 : Int) < n) = false := decide_eq_false h3
      have h6 : 60 < ms.length := by
        rcases Nat.lt_or_ge 60 ms.length with h | h
        · exact h
        · exact absurd ⟨hn, by omega, h⟩ hr
      have e6 : decide ((60 : Int) < (ms.length : Int)) = true := decide_eq_true (by omega)
      clear hr
      go_enter Try.func9, Try.ntmps9
      go_wp2_with fail
      refine (first11 w).mono ?_
      rintro e w1 ⟨rfl, hB1⟩
      go_wp2_with fail
      refine (rfits_yes n hn w1).mono ?_
      rintro e w' ⟨rfl, rfl⟩
      go_wp2_with fail
      go_ret
      exact ⟨rfl, hB1⟩
  · clear hr
    go_enter Try.func9, Try.ntmps9
    go_wp2_with fail
    refine (first11 w).mono ?_
    rintro e w1 ⟨rfl, hB1⟩
    go_wp2_with fail
    refine (rfits_no n hn w1).mono ?_
    rintro e w' ⟨rfl, rfl⟩
    go_wp2_with fail
    go_ret
    exact ⟨rfl, hB1⟩
set_option maxHeartbeats 8000000 in
theorem iback_in (t : Nat) (hn : fitsC ((3 * t : Nat) : Int)) (h3 : 3 * t ≤ 300) (v : Value) (ms : List (List UInt8)) (h60 : ms.length ≤ 60) (h16 : Marks16 ms) (w : World) (hm : MarksAt w v ms) :
    Calls Try.prog 9 #[.int .i64 ((3 * t : Nat) : Int), v] w fun e w' => e = .returned (.bool true) ∧ Below w.heap.size w w' := by
  have ht : 0 < t := by have := hn.1; omega
  have hsum := sumW_all t ht ms h60
  have hlen : (putAll Ce.add (List.replicate (3 * t) Ce.zero) ms).length = 3 * t := by rw [putAll_length, List.length_replicate]
  have hok : Oks (putAll Ce.add (List.replicate (3 * t) Ce.zero) ms) := putAll_ok h16 (oks_zeros _)
  obtain ⟨p, cap, rfl, hcap, _⟩ := id hm
  have e3 : decide ((300 : Int) < ((3 * t : Nat) : Int)) = false := decide_eq_false (by omega)
  have e6 : decide ((60 : Int) < (ms.length : Int)) = false := decide_eq_false (by omega)
  have kO := fun W hW => cof_any (3 * t) hn (.slice p ms.length cap) ms W hW h16 (by omega)
  have kR := rfits_yes _ hn
  have hfl : fitsC ((putAll Ce.add (List.replicate (3 * t) Ce.zero) ms).length : Int) := by rw [hlen]; exact hn
  have hself := subL_self _ hok
  rw [hlen] at hself
  have he0 : emptyB (List.replicate (3 * t) Ce.zero) = true := (empty_iff _).2 (by rw [List.length_replicate])
  have hb : 3 * t ≤ 1000000 := by omega
  have hn3 : 3 * ms.length ≤ 180 := by omega
  have hmul : IntKind.i64.wrap (3 * (ms.length : Int)) = 3 * (ms.length : Int) := IntWalk.i64_in _ (by omega)
  generalize putAll Ce.add (List.replicate (3 * t) Ce.zero) ms = l at *
  have hz : (List.replicate (3 * t) Ce.zero).length = 3 * t := List.length_replicate
  generalize List.replicate (3 * t) Ce.zero = Z at *
  have hq0 : 0 < 3 * t := by omega
  generalize hN : 3 * t = q at *
  have KO := Lib.hid kO
  have KR := Lib.hid kR
  have HM := Lib.hid hm
  have HL := Lib.hid hlen
  have HK := Lib.hid hok
  have HF := Lib.hid hfl
  have HS := Lib.hid hself
  have HE := Lib.hid he0
  have HZ := Lib.hid hz
  have HU := Lib.hid hsum
  have HH := Lib.hid h16
  have HNN := Lib.hid hN
  clear kO kR hm hlen hok hfl hself he0 hz hsum h16 hn hN hmul
  go_enter Try.func9, Try.ntmps9
  go_wp2_with fail
  refine (first11 w).mono ?_
  rintro e w1 ⟨rfl, hB1⟩
  have HB1 := Lib.hid hB1
  clear hB1
  go_wp2_with fail
  refine (KR.out w1).mono ?_
  rintro e w' ⟨rfl, rfl⟩
  go_wp2_with fail
  refine (KO.out w1 (HM.out.below HB1.out)).mono ?_
  rintro e w2 ⟨k, vr, rfl, hS, -, -, hB2⟩
  have HS2 := Lib.hid hS
  have HB2 := Lib.hid (HB1.out.trans (hB2.mono HB1.out.size))
  clear hS hB2 HB1
  go_wp2_with fail
  refine (lawcells_any k vr l 1536 w2 HS2.out (by rw [HL.out]; exact hb)).mono ?_
  rintro e w3 ⟨vb, rfl, hO, hf, hB3⟩
  rw [List.take_of_length_le (by rw [HL.out]; exact Nat.le_trans h3 (by decide))] at hO
  have HO := Lib.hid hO
  have HB3 := Lib.hid hB3
  clear hO hf hB3
  go_wp2_with fail
  refine (cfrom_yes vb l w3 (cellsAt_iff.2 HO.out.at) HK.out HF.out).mono ?_
  rintro e w4 ⟨k4, v4, rfl, hS4, -, -, hB4⟩
  have HS4 := Lib.hid hS4
  have B24 := Lib.hid (HB3.out.trans (hB4.mono HB3.out.size))
  clear hS4 hB4
  go_wp2_with fail
  refine (csub_any k k4 vr v4 l l w4 (HS2.out.below B24.out) HS4.out rfl (by rw [HL.out]; omega) (by rw [HL.out]; exact hb)).mono ?_
  rintro e w5 ⟨k5, v5, rfl, hS5, -, -, hB5⟩
  have HS5 := Lib.hid hS5
  have B25 := Lib.hid (B24.out.trans (hB5.mono B24.out.size))
  clear hS5 hB5
  go_wp2_with fail
  refine (lawcells_any k vr l 1536 w5 (HS2.out.below B25.out) (by rw [HL.out]; exact hb)).mono ?_
  rintro e w6 ⟨vb6, rfl, hO, hf, hB6⟩
  rw [List.take_of_length_le (by rw [HL.out]; exact Nat.le_trans h3 (by decide))] at hO
  obtain ⟨p6, c6, rfl, _, hp6, hg6⟩ := hO.shape
  obtain ⟨g6, rfl⟩ : ∃ g, p6 = some ⟨g, 0, none⟩ := by
    cases p6 with
    | none => exact absurd (congrArg List.length (hp6 rfl).1) (by rw [rawC_length, HL.out]; simp; omega)
    | some a => obtain ⟨g, rfl⟩ := hg6 a rfl; exact ⟨g, rfl⟩
  clear hp6 hg6
  have HS6 := Lib.hid (HS5.out.below hB6)
  have HB6 := Lib.hid (HB2.out.trans ((B25.out.trans (hB6.mono B25.out.size)).mono HB2.out.size))
  rw [rawC_length, HL.out] at hO ⊢
  have HO6 := Lib.hid hO
  clear hO hf hB6 HS2 HS4 HS5 B24 B25 HB2 HB3 HO
  go_wp2_with fail
  go_loopw [11, 13, 51] (fun n _ c wr => ∃ i : Nat, i ≤ q ∧ c = .int .i64 i ∧ n = .int .i64 (sumW l i) ∧ Hid (Below w6.heap.size w6 wr)) (fun _ _ c _ => q - (intOf c).toNat)
  case atStart => exact ⟨0, by omega, rfl, rfl, Lib.hid (Below.refl _ _)⟩
  case round =>
    obtain ⟨i, hi, rfl, rfl, HW⟩ := hrel
    by_cases hil : i < q
    · have e1 : decide ((i : Int) < (q : Int)) = true := decide_eq_true (by omega)
      have e1n : decide (i < q) = true := decide_eq_true hil
      have i1 : (i : Int) < (q : Int) := by omega
      obtain ⟨x, hx⟩ : ∃ x, l[i]? = some x := ⟨_, List.getElem?_eq_getElem (by rw [HL.out]; exact hil)⟩
      have hL := OwnC.load (HO6.out.below HW.out) rfl HK.out hx
      have bc := boxedC wr x (HK.out x (List.mem_of_getElem? hx)).m
      have a1 := bc.a1
      have ln := bc.b.n
      have hnx := Lib.hid (sumW_succ l i x hx)
      have B5 := Lib.hid (HW.out.trans (bc.B.mono HW.out.size))
      clear bc hx HW
      go_wp2_with (first | (refine wpList_load_at rfl _ _ rfl rfl (hL) ?_) | (refine wpList_store_at rfl _ _ _ rfl rfl rfl (a1) ?_))
      go_roundw
      case rel => exact ⟨i + 1, by omega, by go_num, by rw [hnx.out, IntWalk.i64_left], B5⟩
      case measure => simp [intOf]; omega
    · have e1 : decide ((i : Int) < (q : Int)) = false := decide_eq_false (by omega)
      have e1n : decide (i < q) = false := decide_eq_false hil
      obtain rfl : i = q := by omega
      have hU := HU.out
      have hS := HS6.out.below HW.out
      rw [HS.out] at hS
      have HS7 := Lib.hid hS
      have HW7 := Lib.hid (HB6.out.trans (HW.out.mono HB6.out.size))
      have e8 : (3 * (ms.length : Int) == 3 * (ms.length : Int)) = true := by simp
      clear hS HW
      rw [hU]
      clear hU
      go_wp2_with fail
      refine (cempty_any k5 v5 Z wr HS7.out (by rw [HZ.out]; exact hb)).mono ?_
      rintro e w8 ⟨rfl, hB8⟩
      rw [HE.out]
      have HB8 := Lib.hid (HW7.out.trans (hB8.mono HW7.out.size))
      clear hB8
      go_wp2_with fail
      go_ret
      exact ⟨rfl, HB8.out⟩
theorem iback_walk (n : Int) (v : Value) (ms : List (List UInt8)) (h16 : Marks16 ms) (w : World) (hm : MarksAt w v ms) :
    Calls Try.prog 9 #[.int .i64 n, v] w fun e w' => e = .returned (.bool true) ∧ Below w.heap.size w w' := by
  by_cases hn : fitsC n ∧ n ≤ 300 ∧ ms.length ≤ 60
  · obtain ⟨h1, h2, h3⟩ := hn
    obtain ⟨t, rfl⟩ : ∃ t : Nat, n = ((3 * t : Nat) : Int) := ⟨(n / 3).toNat, by obtain ⟨h1, h2, h3⟩ := h1; omega⟩
    exact iback_in t h1 (by omega) v ms h3 h16 w hm
  · exact iback_out n v ms hn w hm
end Go.Proofs.Ytkdbbdlkfpjdfaa
