/- The document's answers of law 15: whether bits have a mark.
   Conditions: those that each theorem names. -/
import Derived.Test.YtehfinjcfjobeaaBlmR
namespace Go.Proofs.Ytehfinjcfjobeaa
set_option maxRecDepth 100000
set_option linter.unusedVariables false
set_option linter.unusedSimpArgs false
open Go.RowKit Go.Rg
attribute [local go_sem] markV
set_option maxHeartbeats 4000000 in
theorem refmay_any (v : Value) (l m : List UInt8) (w : World) (h : SlL w v (boolsV (bitsOf l))) (hf : fitsB ((8 * l.length : Nat) : Int)) (hm : m.length = 16) :
    Calls Try.prog 22 #[v, markV m] w fun e w' => e = .returned (.bool (mayB l m)) ∧ Below w.heap.size w w' := by
  have hN0 : 0 < 8 * l.length := by have := hf.1; omega
  have hN1 : 8 * l.length ≤ 8192 := by have := hf.2.1; omega
  have kP := fun X => refplaces4 (8 * l.length) hf m hm X
  have hlen : (boolsV (bitsOf l)).length = 8 * l.length := by rw [boolsV_length, bitsOf_length]
  have hget := fun q hq => boolsV_get (l := l) (q := q) hq
  have hmay : mayB l m = (List.range 4).all fun j => bitB l (plN (hash8 m) (8 * l.length) j) := rfl
  obtain ⟨p, cap, rfl, hcap, _⟩ := id h
  rw [hlen] at h ⊢
  generalize 8 * l.length = N at *
  generalize hash8 m = hh at *
  unfold markV at *
  have HS := Lib.hid h
  have HG := Lib.hid hget
  have KP := Lib.hid kP
  have HMAY := Lib.hid hmay
  have Hm := Lib.hid hm
  clear h hget kP hmay hm hlen hf
  have hb : (w.alloc (.cells (m.map byteV).toArray 24)).heap[w.heap.size]? = some (.cells (m.map byteV).toArray 24 (0, 0)) := World.alloc_heap_new _ _
  have hB : Below w.heap.size w (w.alloc (.cells (m.map byteV).toArray 24)) := (Below.refl _ _).alloc (Nat.le_refl _) _
  have lm := mark_whole hb Hm.out
  go_enter Try.func22, Try.ntmps22
  go_wp2_with (first | (refine wpList_load_at rfl _ _ rfl rfl (lm) ?_))
  generalize w.alloc (.cells (m.map byteV).toArray 24) = w1 at *
  have HB := Lib.hid hB
  clear hB hb
  refine (KP.out w1).mono ?_
  rintro e w2 ⟨rfl, hB2⟩
  have B2 := Lib.hid (HB.out.trans (hB2.mono HB.out.size))
  clear hB2 lm HB
  go_wp2_with fail
  go_loopw [6, 11] (fun _ cc wr => ∃ j : Nat, j ≤ 4 ∧ cc = .int .i64 j ∧ Hid (((List.range j).all fun j => bitB l (plN hh N j)) = true) ∧ wr = w2) (fun _ cc _ => 4 - (intOf cc).toNat)
  case atStart => exact ⟨0, by omega, rfl, Lib.hid rfl, rfl⟩
  case round =>
    obtain ⟨j, hj, rfl, HA, rfl⟩ := hrel
    by_cases hjl : j < 4
    · have e2 : decide ((j : Int) < 4) = true := decide_eq_true (by omega)
      have ix := idx4 hh N j hjl wr
      have hpl : plN hh N j < N := Nat.mod_lt _ hN0
      have hall : ((List.range (j + 1)).all fun j => bitB l (plN hh N j)) = bitB l (plN hh N j) := by
        rw [List.range_succ, List.all_append, HA.out]; simp
      have hgt := HG.out _ hpl
      have hfal : bitB l (plN hh N j) = false → ((List.range 4).all fun j => bitB l (plN hh N j)) = false := by
        intro e
        rw [List.all_eq_false]
        exact ⟨j, List.mem_range.2 hjl, by rw [e]; simp⟩
      obtain ⟨pp, hp⟩ : ∃ pp, plN hh N j = pp := ⟨_, rfl⟩
      rw [hp] at ix hpl hall hgt hfal
      have i1 : (0 : Int) ≤ (pp : Int) := Int.natCast_nonneg _
      have i2 : (pp : Int) < (N : Int) := by omega
      obtain ⟨g, o, hpe, _, hc⟩ := HS.out.get hgt
      subst hpe
      have hc' := hc wr B2.out
      obtain ⟨b, hb⟩ : ∃ b, bitB l pp = b := ⟨_, rfl⟩
      rw [hb] at hc' hall hfal
      have HALL := Lib.hid hall
      have HFAL := Lib.hid hfal
      clear hall hfal hgt hp hc hb
      cases b with
      | true =>
        go_wp2_with fail
        go_roundw
        case rel => exact ⟨j + 1, by omega, by go_num, Lib.hid HALL.out, by first | rfl | trivial⟩
        case measure => simp [intOf]; omega
      | false =>
        go_wp2_with fail
        go_ret
        have hF : ((List.range 4).all fun j => bitB l (plN hh N j)) = false := by first | exact HFAL.out rfl | exact HFAL.out trivial
        exact ⟨by rw [HMAY.out, hF]; rfl, B2.out⟩
    · have e2 : decide ((j : Int) < 4) = false := decide_eq_false (by omega)
      obtain rfl : j = 4 := by omega
      go_wp2_with fail
      go_ret
      exact ⟨by rw [HMAY.out, HA.out]; rfl, B2.out⟩
end Go.Proofs.Ytehfinjcfjobeaa
