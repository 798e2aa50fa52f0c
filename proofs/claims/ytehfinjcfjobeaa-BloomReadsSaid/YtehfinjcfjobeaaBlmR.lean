/- The document's answers of law 15: bits of marks, and whether bits have a mark.
   Conditions: those that each theorem names. -/
import Derived.Test.YtehfinjcfjobeaaBlmQ
import Derived.Test.YtehfinjcfjobeaaBlmP
import Derived.Test.YtehfinjcfjobeaaBs
namespace Go.Proofs.Ytehfinjcfjobeaa
set_option maxRecDepth 100000
set_option linter.unusedVariables false
set_option linter.unusedSimpArgs false
open Go.RowKit Go.Rg
attribute [local go_sem] markV
def bitsOf (l : List UInt8) : List Bool := (List.range (8 * l.length)).map (bitB l)
def boolsV (bs : List Bool) : List Value := bs.map Value.bool
theorem bitsOf_length (l : List UInt8) : (bitsOf l).length = 8 * l.length := by simp [bitsOf]
theorem boolsV_length (bs : List Bool) : (boolsV bs).length = bs.length := List.length_map _
theorem bitsOf_get {l : List UInt8} {q : Nat} (hq : q < 8 * l.length) : (bitsOf l)[q]? = some (bitB l q) := by
  unfold bitsOf
  rw [List.getElem?_map, List.getElem?_range hq]; rfl
theorem boolsV_get {l : List UInt8} {q : Nat} (hq : q < 8 * l.length) : (boolsV (bitsOf l))[q]? = some (.bool (bitB l q)) := by
  unfold boolsV
  rw [List.getElem?_map, bitsOf_get hq]; rfl
theorem bitsOf_put (l : List UInt8) (p : Nat) (hp : p < 8 * l.length) : boolsV (bitsOf (putBit l p)) = (boolsV (bitsOf l)).set p (.bool true) := by
  apply List.ext_getElem?
  intro q
  have hlen : (boolsV (bitsOf (putBit l p))).length = 8 * l.length := by rw [boolsV_length, bitsOf_length, putBit_length]
  have hlen2 : (boolsV (bitsOf l)).length = 8 * l.length := by rw [boolsV_length, bitsOf_length]
  by_cases hq : q < 8 * l.length
  · rw [boolsV_get (by rw [putBit_length]; exact hq), bit_put l p q hp, List.getElem?_set]
    by_cases e : p = q
    · subst e
      rw [if_pos rfl, if_pos (by rw [hlen2]; exact hp)]; simp
    · rw [if_neg e, boolsV_get hq]
      simp [e]
  · rw [List.getElem?_eq_none (by omega), List.getElem?_eq_none (by rw [List.length_set]; omega)]
theorem bitsOf_zero (n : Nat) : boolsV (bitsOf (List.replicate n 0)) = List.replicate (8 * n) (.bool false) := by
  apply List.ext_getElem?
  intro q
  have hlen : (boolsV (bitsOf (List.replicate n 0))).length = 8 * n := by rw [boolsV_length, bitsOf_length, List.length_replicate]
  by_cases hq : q < 8 * n
  · rw [boolsV_get (by rw [List.length_replicate]; exact hq), bit_zero, List.getElem?_replicate, if_pos hq]
  · rw [List.getElem?_eq_none (by omega), List.getElem?_eq_none (by rw [List.length_replicate]; omega)]
theorem infoBo : (Try.prog.info? 4).map (fun i => (i.zero, i.size, i.bytes)) = some (some (.bool false), 1, 1) := by kernel_rfl
set_option maxHeartbeats 4000000 in
theorem refset_any (n : Nat) (hn : fitsB ((8 * n : Nat) : Int)) (v : Value) (ms : List (List UInt8)) (w : World) (h : MarksAt w v ms) (h16 : Marks16 ms) (hl : ms.length ≤ 1000000) :
    Calls Try.prog 20 #[.int .i64 ((8 * n : Nat) : Int), v] w fun e w' => ∃ vb, e = .returned vb ∧ RowL w.heap.size 4 w' vb (boolsV (bitsOf (addAll (List.replicate n 0) ms))) ∧ Below w.heap.size w w' := by
  obtain ⟨p, cap, rfl, hcap, _⟩ := id h
  have kP := fun m hm X => refplaces4 (8 * n) hn m hm X
  have hz := bitsOf_zero n
  have hN1 : 8 * n ≤ 8192 := by have := hn.2.1; omega
  have hN0 : 0 < 8 * n := by have := hn.1; omega
  have mk := make_one 46 4 (.bool false) 1 (by omega) rfl Try.underlying46 infoBo (8 * n) (by omega) w
  have hlenZ : ∀ l, (addAll (List.replicate n 0) l).length = n := fun l => by rw [addAll_length, List.length_replicate]
  have ho := RowL.made w.heap.size 4 w (List.replicate (8 * n) (.bool false)) (by rw [List.length_replicate]; unfold maxLen; omega) (Nat.le_refl _)
  rw [List.length_replicate, ← hz] at ho
  rw [← hz] at mk
  have HLZ := Lib.hid hlenZ
  have HM := Lib.hid h
  have H16 := Lib.hid h16
  clear h h16 hn hz hlenZ
  generalize hNN : 8 * n = N at *
  have HNN := Lib.hid hNN
  have KP := Lib.hid kP
  clear kP hNN
  go_enter Try.func20, Try.ntmps20
  go_wp2_with (first | (refine wpList_msl_at rfl rfl rfl rfl mk ?_))
  clear mk
  have hB : Below w.heap.size w (w.alloc (.cells (boolsV (bitsOf (List.replicate n 0))).toArray 4)) := (Below.refl _ _).alloc (Nat.le_refl _) _
  generalize w.alloc (.cells (boolsV (bitsOf (List.replicate n 0))).toArray 4) = w1 at *
  have HO := Lib.hid ho
  have HB := Lib.hid hB
  clear ho hB
  go_loopw [7, 9, 14] (fun _ _ c wr => ∃ i : Nat, i ≤ ms.length ∧ c = .int .i64 i ∧ Hid (RowL w.heap.size 4 wr (.slice (some ⟨w.heap.size, 0, none⟩) N N) (boolsV (bitsOf (addAll (List.replicate n 0) (ms.take i))))) ∧ Hid (Below w.heap.size w wr)) (fun _ _ c _ => ms.length - (intOf c).toNat)
  case atStart => exact ⟨0, by omega, rfl, HO, HB⟩
  case round =>
    obtain ⟨i, hi, rfl, HR, HW⟩ := hrel
    by_cases hil : i < ms.length
    · have e1 : decide ((i : Int) < (ms.length : Int)) = true := decide_eq_true (by omega)
      obtain ⟨x, hx⟩ : ∃ x, ms[i]? = some x := ⟨_, List.getElem?_eq_getElem hil⟩
      have hx16 := H16.out x (List.mem_of_getElem? hx)
      have hsn : addAll (List.replicate n 0) (ms.take (i + 1)) = addP (addAll (List.replicate n 0) (ms.take i)) (hash8 x) N 4 := by
        rw [List.take_add_one, hx]
        show addAll _ (ms.take i ++ [x]) = _
        rw [addAll_snoc]
        unfold addB
        rw [HLZ.out, HNN.out]
      have hlL := HLZ.out (ms.take i)
      obtain ⟨L, hL⟩ : ∃ L, addAll (List.replicate n 0) (ms.take i) = L := ⟨_, rfl⟩
      rw [hL] at HR hsn hlL
      obtain ⟨g, o, hpe, _, hld⟩ := HM.out.load H16.out hx
      subst hpe
      have hLd := hld wr HW.out
      have bm := boxedM wr x hx16
      have a1 := bm.a1
      have l1 := bm.l1
      have R5 := Lib.hid (HR.out.below bm.B)
      have B5 := Lib.hid (HW.out.trans (bm.B.mono HW.out.size))
      have kc := fun X => KP.out x hx16 X
      unfold markV at kc
      obtain ⟨hh, hhd⟩ : ∃ hh, hash8 x = hh := ⟨_, rfl⟩
      rw [hhd] at kc hsn
      have KC := Lib.hid kc
      have HSN := Lib.hid hsn
      have HLL := Lib.hid hlL
      clear hsn hlL kc bm hld hx hx16 hL hhd HR HW
      go_wp2_with (first | (refine wpList_load_at rfl _ _ rfl rfl (hLd) ?_) | (refine wpList_store_at rfl _ _ _ rfl rfl rfl (a1) ?_) | (refine wpList_load_at rfl _ _ rfl rfl (l1) ?_))
      clear hLd a1 l1
      generalize (wr.alloc (.cells zeroMark 24)).setCells wr.heap.size 0 (x.map byteV) = w5 at *
      refine (KC.out w5).mono ?_
      rintro e w6 ⟨rfl, hB6⟩
      have R6 := Lib.hid (R5.out.below hB6)
      have B6 := Lib.hid (B5.out.trans (hB6.mono B5.out.size))
      clear R5 B5 hB6 KC
      go_wp2_with fail
      go_loopw [9, 21] (fun _ cc ws => ∃ j : Nat, j ≤ 4 ∧ cc = .int .i64 j ∧ Hid (RowL w.heap.size 4 ws (.slice (some ⟨w.heap.size, 0, none⟩) N N) (boolsV (bitsOf (addP L hh N j)))) ∧ Hid (Below w.heap.size w ws)) (fun _ cc _ => 4 - (intOf cc).toNat)
      case atStart => exact ⟨0, by omega, rfl, R6, B6⟩
      case round =>
        obtain ⟨j, hj, rfl, RR, BB⟩ := hrel
        by_cases hjl : j < 4
        · have e2 : decide ((j : Int) < 4) = true := decide_eq_true (by omega)
          have ix := idx4 hh N j hjl wr
          have hpl : plN hh N j < N := Nat.mod_lt _ hN0
          have hlp := addP_length L hh N j
          have hput := bitsOf_put (addP L hh N j) (plN hh N j) (by rw [hlp, HLL.out, HNN.out]; exact hpl)
          rw [← addP_succ] at hput
          obtain ⟨pp, hp⟩ : ∃ pp, plN hh N j = pp := ⟨_, rfl⟩
          rw [hp] at ix hpl hput
          have i1 : (0 : Int) ≤ (pp : Int) := Int.natCast_nonneg _
          have i2 : (pp : Int) < (N : Int) := by omega
          have hget := RR.out.get (boolsV_get (l := addP L hh N j) (q := pp) (by rw [hlp, HLL.out, HNN.out]; exact hpl))
          have hfree := RR.out.free pp
          have hset := RR.out.set pp (.bool true)
          rw [← hput] at hset
          have hB7 := BB.out.setCell (p := ⟨w.heap.size, pp, none⟩) (Nat.le_refl _) (.bool true)
          have R7 := Lib.hid hset
          have B7 := Lib.hid hB7
          clear hset hB7 hput hlp hp RR BB
          go_wp2_with fail
          go_roundw
          case rel => exact ⟨j + 1, by omega, by go_num, R7, B7⟩
          case measure => simp [intOf]; omega
        · have e2 : decide ((j : Int) < 4) = false := decide_eq_false (by omega)
          obtain rfl : j = 4 := by omega
          have R8 := RR
          rw [← HSN.out] at R8
          go_wp2_with fail
          go_roundw
          case rel => exact ⟨i + 1, by omega, by go_num, R8, BB⟩
          case measure => simp [intOf]; omega
    · have e1 : decide ((i : Int) < (ms.length : Int)) = false := decide_eq_false (by omega)
      have hR := HR.out
      rw [List.take_of_length_le (by omega)] at hR
      have HR2 := Lib.hid hR
      clear hR HR
      go_wp2_with fail
      go_ret
      exact ⟨_, rfl, HR2.out, HW.out⟩
end Go.Proofs.Ytehfinjcfjobeaa
