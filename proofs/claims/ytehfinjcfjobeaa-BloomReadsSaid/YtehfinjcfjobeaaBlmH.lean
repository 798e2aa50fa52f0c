/- Filters: their bytes; a mark in a list; what law 15 asks first.
   Conditions: those that each theorem names. -/
import Derived.Test.YtehfinjcfjobeaaBlmG
import Derived.Test.YtehfinjcfjobeaaBlmP
import Derived.Test.YtehfinjcfjobeaaPn
import Derived.Test.YtehfinjcfjobeaaBs
import Derived.Test.YtehfinjcfjobeaaCelE
namespace Go.Proofs.Ytehfinjcfjobeaa
set_option maxRecDepth 100000
set_option linter.unusedVariables false
set_option linter.unusedSimpArgs false
open Go.RowKit Go.Rg
attribute [local go_sem] markV
set_option maxHeartbeats 1000000 in
theorem bput_in (k lo b : Nat) (v : Value) (l pl : List UInt8) (w : World) (h : FltAt k v l w) (hp : PenIn lo b pl w) (hk : k < lo) (hg : ∀ g, v.ownBlock = some g → g < lo) (hl : l.length ≤ 1000000) (hpl : pl.length ≤ 1000000) :
    Calls Try.prog 32 #[ptr k, ptr b] w fun e w' => (∃ v, e = .returned v) ∧ PenIn lo b (pl ++ numN l.length ++ l) w' ∧ Below lo w w' := by
  have H := Lib.hid h
  obtain ⟨p, c, rfl, hpc, _, _⟩ := h.2.shape
  have c0 := h.cell
  have e1 : IntKind.u64.wrap (l.length : Int) = U (UInt64.ofNat l.length) := by rw [wrap_u64, U_nat _ (by omega)]; omega
  have hu : (UInt64.ofNat l.length).toNat = l.length := by rw [UInt64.toNat_ofNat', Nat.mod_eq_of_lt (by omega)]
  have HU := Lib.hid hu
  have HG := Lib.hid hg
  clear h hu hg
  go_enter Try.func32, Try.ntmps32
  go_wp2_with fail
  refine (number_in _ lo b pl w hp (by omega)).mono ?_
  rintro e w1 ⟨⟨v1, rfl⟩, p1, t1⟩
  rw [HU.out] at p1
  have h1 : FltAt k (.slice p l.length c) l w1 := H.out.kept (t1.block k hk) (fun g hg => t1.block g (HG.out g hg))
  have c1 := h1.cell
  have P1 := Lib.hid p1
  have T1 := Lib.hid t1
  have H1 := Lib.hid h1
  have hnl : (numN l.length).length ≤ 10 := by
    rw [numN_length]; unfold sizeN
    have := digits_lt 8 l.length (by omega)
    split <;> omega
  clear p1 t1 h1 c0 e1
  go_wp2_with fail
  refine (fixed_in _ l lo b _ w1 P1.out H1.out.2.at (by rw [List.length_append]; omega)).mono ?_
  rintro e w2 ⟨⟨v2, rfl⟩, p2, t2⟩
  have P2 := Lib.hid p2
  have T2 := Lib.hid (T1.out.trans t2)
  clear p2 t2
  go_wp2_with fail
  go_end0
  exact ⟨⟨_, rfl⟩, P2.out, T2.out⟩
theorem bput_nil (v : Value) (w : World) : Calls Try.prog 32 #[.pointer none, v] w fun e w' => (∃ v, e = .returned v) ∧ w = w' := by
  go_enter Try.func32, Try.ntmps32
  go_wp2_with fail
  go_end0
  exact ⟨⟨_, rfl⟩, rfl⟩
def fltB (l : List UInt8) : List UInt8 := numN l.length ++ l
set_option maxHeartbeats 1000000 in
theorem lawbytes_any (k : Nat) (v : Value) (l : List UInt8) (w : World) (h : FltAt k v l w) (hl : l.length ≤ 1000000) :
    Calls Try.prog 15 #[ptr k] w fun e w' => e = .returned (str (fltB l)) ∧ Below w.heap.size w w' := by
  go_enter Try.func15, Try.ntmps15
  go_wp2_with fail
  have hp := pen_new w
  have hB : Below w.heap.size w (w.alloc (.cells #[.slice none 0 0] 68)) := (Below.refl _ _).alloc (Nat.le_refl _) _
  have h1 := h.below hB
  have hk := h.lt
  have hg : ∀ g, v.ownBlock = some g → g < w.heap.size := fun g hg => h.2.lt hg
  clear h
  generalize w.alloc (.cells #[.slice none 0 0] 68) = w1 at *
  refine (bput_in k _ _ v l [] w1 h1 hp hk hg hl (by simp)).mono ?_
  rintro e w2 ⟨⟨v2, rfl⟩, p2, t2⟩
  rw [List.nil_append] at p2
  have hB2 := hB.trans t2
  have P2 := Lib.hid p2
  have HB2 := Lib.hid hB2
  have hnl : (numN l.length).length ≤ 10 := by
    rw [numN_length]; unfold sizeN
    have := digits_lt 8 l.length (by omega)
    split <;> omega
  clear h1 hp hg hB t2 p2 hB2
  obtain ⟨z, hz⟩ : ∃ z, numN l.length ++ l = z := ⟨_, rfl⟩
  have hzl : z.length ≤ 1000000000 := by rw [← hz, List.length_append]; omega
  have P3 := P2.out
  rw [hz] at P3
  have HZ := Lib.hid (show fltB l = z from hz)
  clear hz P2
  go_wp2_with fail
  refine (bytes_in _ _ _ w2 P3 hzl).mono ?_
  rintro e w3 ⟨v3, rfl, o3, -, hB3⟩
  obtain ⟨p3, c3, rfl, -, -, -⟩ := o3.shape
  have hcv := conv_bytes o3.at
  have hB4 := HB2.out.trans (hB3.mono HB2.out.size)
  clear o3 hB3
  go_wp2_with fail
  go_ret
  exact ⟨by rw [HZ.out]; rfl, hB4⟩
theorem lawbytes_nil (w : World) : Calls Try.prog 15 #[.pointer none] w fun e w' => e = .returned (str []) ∧ Below w.heap.size w w' := by
  go_enter Try.func15, Try.ntmps15
  go_wp2_with fail
  have hp := pen_new w
  have hB : Below w.heap.size w (w.alloc (.cells #[.slice none 0 0] 68)) := (Below.refl _ _).alloc (Nat.le_refl _) _
  generalize w.alloc (.cells #[.slice none 0 0] 68) = w1 at *
  refine (bput_nil _ w1).mono ?_
  rintro e w2 ⟨⟨v2, rfl⟩, rfl⟩
  have P1 := Lib.hid hp
  have HB := Lib.hid hB
  clear hp hB
  go_wp2_with fail
  refine (bytes_in _ _ _ w1 P1.out (by simp)).mono ?_
  rintro e w3 ⟨v3, rfl, o3, -, hB3⟩
  obtain ⟨p3, c3, rfl, -, -, -⟩ := o3.shape
  have hcv := conv_bytes o3.at
  simp only [List.length_nil] at hcv
  have hB4 := HB.out.trans (hB3.mono HB.out.size)
  clear o3 hB3
  go_wp2_with fail
  go_ret
  exact ⟨rfl, hB4⟩
set_option maxHeartbeats 1000000 in
theorem has_any (v : Value) (ms : List Mk) (m : List UInt8) (w : World) (h : MarksAt w v (vals ms)) (hm : m.length = 16) (hn : ms.length ≤ 1000000000) :
    Calls Try.prog 13 #[v, markV m] w fun e w' => e = .returned (.bool ((vals ms).any fun x => x == m)) ∧ Below w.heap.size w w' := by
  unfold markV
  obtain ⟨p, cap, rfl, hcap, _⟩ := id h
  rw [vals_length] at h ⊢
  have HH := Lib.hid h
  clear h
  go_enter Try.func13, Try.ntmps13
  go_wp2_with fail
  have hb : (w.alloc (.cells (m.map byteV).toArray 24)).heap[w.heap.size]? = some (.cells (m.map byteV).toArray 24 (0, 0)) := World.alloc_heap_new _ _
  have hB : Below w.heap.size w (w.alloc (.cells (m.map byteV).toArray 24)) := (Below.refl _ _).alloc (Nat.le_refl _) _
  generalize w.alloc (.cells (m.map byteV).toArray 24) = w1 at *
  have H1 := Lib.hid (HH.out.below hB)
  have HB1 := Lib.hid hB
  have HBX := Lib.hid hb
  clear hb hB
  go_loopw [6, 9] (fun _ c wr => ∃ i : Nat, i ≤ ms.length ∧ c = .int .i64 i ∧ Hid (((vals ms).take i).any (fun x => x == m) = false) ∧ Hid (Below w1.heap.size w1 wr)) (fun _ c _ => ms.length - (intOf c).toNat)
  case atStart => exact ⟨0, by omega, rfl, Lib.hid rfl, Lib.hid (Below.refl _ _)⟩
  case round =>
    obtain ⟨i, hi, rfl, HN, HB⟩ := hrel
    by_cases hil : i < ms.length
    · have e1 : decide ((i : Int) < (ms.length : Int)) = true := decide_eq_true (by omega)
      obtain ⟨x, hx⟩ : ∃ x, ms[i]? = some x := ⟨_, List.getElem?_eq_getElem hil⟩
      obtain ⟨g, o, hpe, _, hld⟩ := (H1.out.below HB.out).load (vals16 ms) (vals_get hx)
      subst hpe
      have hL := hld wr (Below.refl _ _)
      have hnew : (wr.alloc (.cells zeroMark 24)).heap[wr.heap.size]? = some (.cells ((List.replicate 16 0).map byteV).toArray 24 (0, 0)) := World.alloc_heap_new _ _
      obtain ⟨a1, a2⟩ := mark_store hnew (m := x.1) (by simp) x.2
      have hB5 : Below w1.heap.size w1 ((wr.alloc (.cells zeroMark 24)).setCells wr.heap.size 0 (x.1.map byteV)) := Below.setCells (HB.out.alloc HB.out.size _) _ _ _ HB.out.size
      have l1 := mark_whole a2 x.2
      have l2 := mark_whole ((hB5.block _ (blk_lt HBX.out)).trans HBX.out) hm
      have eq := fun (x0 y0 : Operand) W => eqv_mark x.1 m x.2 hm x0 y0 W
      unfold markV at eq
      have htk : ((vals ms).take (i + 1)).any (fun x => x == m) = (x.1 == m) := by
        rw [List.take_add_one, vals_get hx, List.any_append, HN.out]; simp
      have HTK := Lib.hid htk
      have HB5 := Lib.hid hB5
      have hmem : x.1 ∈ vals ms := List.mem_of_getElem? (vals_get hx)
      have HMM := Lib.hid hmem
      clear htk hB5 a2 hld hnew hx hmem HB
      cases hxm : (x.1 == m) with
      | true =>
        have HXM := Lib.hid hxm
        rw [hxm] at eq
        clear hxm
        go_wp2_with (first | (refine wpList_load_at rfl _ _ rfl rfl (hL) ?_) | (refine wpList_store_at rfl _ _ _ rfl rfl rfl (a1) ?_) | (refine wpList_load_at rfl _ _ rfl rfl (l1) ?_) | (refine wpList_load_at rfl _ _ rfl rfl (l2) ?_) | (refine wpList_bin_at rfl rfl rfl rfl (eq _ _ _) ?_))
        go_ret
        have : ((vals ms).any fun x => x == m) = true := List.any_eq_true.2 ⟨_, HMM.out, HXM.out⟩
        exact ⟨by rw [this]; rfl, HB1.out.trans (HB5.out.mono HB1.out.size)⟩
      | false =>
        have HXM := Lib.hid (HTK.out.trans hxm)
        rw [hxm] at eq
        clear hxm
        go_wp2_with (first | (refine wpList_load_at rfl _ _ rfl rfl (hL) ?_) | (refine wpList_store_at rfl _ _ _ rfl rfl rfl (a1) ?_) | (refine wpList_load_at rfl _ _ rfl rfl (l1) ?_) | (refine wpList_load_at rfl _ _ rfl rfl (l2) ?_) | (refine wpList_bin_at rfl rfl rfl rfl (eq _ _ _) ?_))
        go_roundw
        case rel => exact ⟨i + 1, by omega, by go_num, HXM, HB5⟩
        case measure => simp [intOf]; omega
    · have e1 : decide ((i : Int) < (ms.length : Int)) = false := decide_eq_false (by omega)
      have hN := HN.out
      rw [List.take_of_length_le (by rw [vals_length]; omega)] at hN
      go_wp2_with fail
      go_ret
      exact ⟨by rw [hN]; rfl, HB1.out.trans (HB.out.mono HB1.out.size)⟩
def m1 : List UInt8 := [1, 0, 0, 0, 0, 0, 0, 0, 0, 0, 0, 0, 0, 0, 0, 0]
def m2 : List UInt8 := [2, 0, 0, 0, 0, 0, 0, 0, 0, 0, 0, 0, 0, 0, 0, 0]
abbrev mC (x : Int) : Array Value := #[.int .u8 x, .int .u8 0, .int .u8 0, .int .u8 0, .int .u8 0, .int .u8 0, .int .u8 0, .int .u8 0, .int .u8 0, .int .u8 0, .int .u8 0, .int .u8 0, .int .u8 0, .int .u8 0, .int .u8 0, .int .u8 0]
abbrev mA (x : Int) : Value := .agg (mC x)
theorem m1_c : (m1.map byteV).toArray = mC 1 := rfl
theorem m2_c : (m2.map byteV).toArray = mC 2 := rfl
theorem mk_m21 (w : World) : (Instr.buildSlice 22 2 #[(0, .agg (m2.map byteV).toArray), (1, .agg (m1.map byteV).toArray)]).run Try.prog w = .ok (.slice (some ⟨w.heap.size, 0, none⟩) 2 2) (w.alloc (.cells (m2.map byteV ++ m1.map byteV).toArray 24)) := by kernel_rfl
theorem m21_at (w : World) : MarksAt (w.alloc (.cells (m2.map byteV ++ m1.map byteV).toArray 24)) (.slice (some ⟨w.heap.size, 0, none⟩) 2 2) [m2, m1] := by
  have hbk : (w.alloc (.cells (m2.map byteV ++ m1.map byteV).toArray 24)).heap[w.heap.size]? = some (.cells (m2.map byteV ++ m1.map byteV).toArray 24 (0, 0)) := World.alloc_heap_new _ _
  refine ⟨_, 2, rfl, Nat.le_refl _, fun i m hi => ⟨w.heap.size, 0, rfl, blk_lt hbk, blk_range hbk _ _ (fun j v hv => ?_)⟩⟩
  have hj : j < (m.map byteV).length := (List.getElem?_eq_some_iff.1 hv).1
  rw [List.length_map] at hj
  match i, hi with
  | 0, hi =>
    cases hi
    have h16 : m2.length = 16 := rfl
    rw [List.getElem?_append_left (by rw [List.length_map]; omega), show 0 + 0 * 16 + j = j by omega, hv]
  | 1, hi =>
    cases hi
    have h16 : m2.length = 16 := rfl
    rw [List.getElem?_append_right (by rw [List.length_map]; omega), List.length_map, h16, show 0 + 1 * 16 + j - 16 = j by omega, hv]
theorem fits64 : fitsB ((8 * 8 : Nat) : Int) := ⟨by decide, by decide, by decide⟩
theorem lackL_zero (n : Nat) (ms : List Mk) : (lackL (List.replicate n 0) ms).length = ms.length := by
  unfold lackL lackF
  have : ∀ (ms : List Mk) (i : Nat), ((ms.zipIdx i).filterMap fun x => if mayB (List.replicate n 0) x.1.1 then none else some (x.2, x.1)).length = ms.length := by
    intro ms
    induction ms with
    | nil => intro i; rfl
    | cons m t ih =>
      intro i
      rw [List.zipIdx_cons, List.filterMap_cons]
      have e : (if mayB (List.replicate n 0) m.1 = true then (none : Option (Nat × Mk)) else some (i, m)) = some (i, m) := by rw [may_zero]; rfl
      simp only [e, List.length_cons]
      rw [ih]
  exact this ms 0
set_option maxHeartbeats 4000000 in
theorem first15 (w : World) : Calls Try.prog 7 #[] w fun e w' => e = .returned (.bool true) ∧ Below w.heap.size w w' := by
  go_enter Try.func7, Try.ntmps7
  go_wp2_with fail
  refine (show Calls Try.prog 8 #[.int .i64 64] w _ from bnew_yes 8 fits64 w).mono ?_
  rintro e w1 ⟨k, v, rfl, hF, hk, hg, hB⟩
  have HF := Lib.hid hF
  have HB := Lib.hid hB
  clear hF hB
  go_wp2_with fail
  refine (bnew_no 60 (by unfold fitsB; omega) w1).mono ?_
  rintro e w' ⟨rfl, rfl⟩
  go_wp2_with fail
  have hb : (w1.alloc (.cells (mC 1) 24)).heap[w1.heap.size]? = some (.cells (m1.map byteV).toArray 24 (0, 0)) := World.alloc_heap_new _ _
  have hB2 : Below w1.heap.size w1 (w1.alloc (.cells (mC 1) 24)) := (Below.refl _ _).alloc (Nat.le_refl _) _
  generalize w1.alloc (.cells (mC 1) 24) = w2 at *
  have f2 := HF.out.below hB2
  have hBw := HB.out.trans (hB2.mono HB.out.size)
  refine (show Calls Try.prog 11 #[ptr k, mA 1] w2 _ from bmay_any k v _ m1 w2 f2 fits64 rfl).mono ?_
  rintro e w3 ⟨rfl, hB3⟩
  rw [may_zero]
  have F3 := Lib.hid (f2.below hB3)
  have B3 := Lib.hid (hBw.trans (hB3.mono hBw.size))
  have HBM := Lib.hid ((hB3.block _ (blk_lt hb)).trans hb)
  clear f2 hBw hB3 hb hB2 HF HB
  have hL := mark_whole HBM.out rfl
  rw [m1_c] at hL
  go_wp2_with (first | (refine wpList_load_at rfl _ _ rfl rfl (hL) ?_))
  clear hL
  have mt : MarksAt (w3.alloc (.cells (m2.map byteV ++ m1.map byteV).toArray 24)) (.slice (some ⟨w3.heap.size, 0, none⟩) 2 2) (vals [⟨m2, rfl⟩, ⟨m1, rfl⟩]) := m21_at w3
  have hB4 : Below w3.heap.size w3 (w3.alloc (.cells (m2.map byteV ++ m1.map byteV).toArray 24)) := (Below.refl _ _).alloc (Nat.le_refl _) _
  have hll := lackL_zero 8 [⟨m2, rfl⟩, ⟨m1, rfl⟩]
  have hcall := lawlacks_any k v (List.replicate 8 0) (some ⟨w3.heap.size, 0, none⟩) 2 [⟨m2, rfl⟩, ⟨m1, rfl⟩] 9 _ (F3.out.below hB4) mt fits64 (by simp) (by rw [hll]; simp)
  have ht : (List.take (9 : Int).toNat (lackL (List.replicate 8 0) [⟨m2, rfl⟩, ⟨m1, rfl⟩])).length = 2 := by
    rw [List.take_of_length_le (by rw [hll]; decide), hll]; rfl
  refine hcall.mono ?_
  rintro e w5 ⟨va, vb, rfl, ra, rb, hB5⟩
  rw [ht] at ra rb
  obtain ⟨pa, ca, rfl⟩ := row_shape ra
  obtain ⟨pb, cb, rfl⟩ := row_shape rb
  have hB35 := hB4.trans (hB5.mono hB4.size)
  have f5 := F3.out.below hB35
  have hb5 := (hB35.block _ (blk_lt HBM.out)).trans HBM.out
  have bw5 := B3.out.trans (hB35.mono B3.out.size)
  have F5 := Lib.hid f5
  have BM5 := Lib.hid hb5
  have BW5 := Lib.hid bw5
  clear ra rb ht hcall hll hB4 mt hB5 hB35 f5 hb5 bw5 F3 HBM B3
  have hL := mark_whole BM5.out rfl
  rw [m1_c] at hL
  go_wp2_with (first | (refine wpList_load_at rfl _ _ rfl rfl (hL) ?_))
  clear hL
  refine (show Calls Try.prog 9 #[ptr k, mA 1] w5 _ from badd_any k v _ m1 w5 F5.out fits64 rfl).mono ?_
  rintro e w6 ⟨rfl, f6, t6⟩
  have hg6 : ∀ g, v.ownBlock = some g → w.heap.size ≤ g := hg
  have bw6 : Below w.heap.size w w6 := BW5.out.trans (t6.below (n := w.heap.size) hg6 BW5.out.size)
  have hb6 := t6.keep BM5.out (fun h => by
    obtain ⟨c, hc⟩ := row_block F5.out.2 h
    rw [BM5.out] at hc
    injection hc with hc
    injection hc with _ ht
    exact absurd ht (by decide))
  have hmay := may_add (List.replicate 8 0) m1 (by simp)
  have hlen : (addB (List.replicate 8 0) m1).length = 8 := by rw [addB_length]; simp
  have hcnt : 0 < cntB (addB (List.replicate 8 0) m1) := by
    refine cnt_pos _ (plN (hash8 m1) 64 0) ?_ ?_
    · rw [hlen]; exact Nat.mod_lt _ (by omega)
    · exact (may_iff _ _).1 hmay _ ⟨0, by omega, by rw [hlen]⟩
  have hcle := cntB_le (addB (List.replicate 8 0) m1)
  rw [hlen] at hcle
  obtain ⟨L, hL0⟩ : ∃ L, addB (List.replicate 8 0) m1 = L := ⟨_, rfl⟩
  rw [hL0] at f6 hmay hlen hcnt hcle
  have F6 := Lib.hid f6
  have BW6 := Lib.hid bw6
  have BM6 := Lib.hid hb6
  have hfit : fitsB ((8 * L.length : Nat) : Int) := by rw [hlen]; exact fits64
  have hL := mark_whole BM6.out rfl
  rw [m1_c] at hL
  have HM := Lib.hid hmay
  have HLL := Lib.hid hlen
  clear f6 bw6 hb6 hL0 hg6 t6 F5 BM5 BW5 hmay hlen
  go_wp2_with (first | (refine wpList_load_at rfl _ _ rfl rfl (hL) ?_) | (refine wpList_load_w rfl rfl (hL) (by first | rfl | (go_simp; done)) ?_))
  clear hL
  refine (show Calls Try.prog 11 #[ptr k, mA 1] w6 _ from bmay_any k v L m1 w6 F6.out hfit rfl).mono ?_
  rintro e w7 ⟨rfl, hB7⟩
  rw [HM.out]
  have F7 := Lib.hid (F6.out.below hB7)
  have BW7 := Lib.hid (BW6.out.trans (hB7.mono BW6.out.size))
  clear hB7
  go_wp2_with fail
  refine (bcount_any k v L w7 F7.out (by have := HLL.out; omega)).mono ?_
  rintro e w' ⟨rfl, rfl⟩
  obtain ⟨c, hc⟩ : ∃ c, cntB L = c := ⟨_, rfl⟩
  rw [hc] at hcnt hcle ⊢
  have e0 : decide ((0 : Int) < (c : Int)) = true := decide_eq_true (by omega)
  have c0 : (0 : Int) < (c : Int) := by omega
  clear hc
  go_wp2_with fail
  refine (bbits_any k v L w7 F7.out (by have := HLL.out; omega)).mono ?_
  rintro e w' ⟨rfl, rfl⟩
  rw [HLL.out]
  go_wp2_with fail
  go_ret
  exact ⟨rfl, BW7.out⟩
end Go.Proofs.Ytehfinjcfjobeaa
