/- Law IbltPlaces: the walk.
   Conditions: none. -/
import Derived.Test.YtkdbbdlkfpjdfaaC11A
namespace Go.Proofs.Ytkdbbdlkfpjdfaa
set_option maxRecDepth 100000
set_option linter.unusedVariables false
set_option linter.unusedSimpArgs false
open Go.RowKit Go.Rg
attribute [local go_sem] cellV
set_option maxHeartbeats 8000000 in
theorem iplaces_no (n : Int) (hn : ¬ fitsC n) (m : List UInt8) (hm : m.length = 16) (w : World) : Calls Try.prog 7 #[.int .i64 n, markV m] w fun e w' => e = .returned (.bool true) ∧ Below w.heap.size w w' := by
  have mk := mk_marks1 m hm
  have mt := marks1_at m hm
  have z3 := eqv_three 0 0 0
  have HM := Lib.hid hm
  have MK := Lib.hid mk
  have MT := Lib.hid mt
  clear hm mk mt
  unfold markV at *
  go_enter Try.func7, Try.ntmps7
  go_wp2_with fail
  have h0 : (w.alloc (.cells (m.map byteV).toArray 23)).heap[w.heap.size]? = some (.cells (m.map byteV).toArray 23 (0, 0)) := World.alloc_heap_new _ _
  have hB0 : Below w.heap.size w (w.alloc (.cells (m.map byteV).toArray 23)) := (Below.refl _ _).alloc (Nat.le_refl _) _
  generalize w.alloc (.cells (m.map byteV).toArray 23) = w0 at *
  refine (first11 w0).mono ?_
  rintro e w1 ⟨rfl, hB1⟩
  have H1 := Lib.hid ((hB1.block _ (blk_lt h0)).trans h0)
  have B1 := Lib.hid (hB0.trans (hB1.mono hB0.size))
  clear h0 hB0 hB1
  go_wp2_with fail
  refine (cnew_no n hn w1).mono ?_
  rintro e w' ⟨rfl, rfl⟩
  go_wp2_with fail
  refine (rfits_no n hn w1).mono ?_
  rintro e w' ⟨rfl, rfl⟩
  have hL := mark_whole H1.out HM.out
  have hK := MK.out w1
  unfold markV at hK
  go_wp2_with (first | (refine wpList_load_at rfl _ _ rfl rfl (hL) ?_) | (refine wpList_mk_w rfl (by go_simp) hK (by first | rfl | (go_simp; done)) ?_))
  clear hL hK
  have hm1 := MT.out w1
  have hB1 : Below w1.heap.size w1 (w1.alloc (.cells (m.map byteV).toArray 23)) := (Below.refl _ _).alloc (Nat.le_refl _) _
  have h16 : Marks16 [m] := by intro x hx; simp at hx; subst hx; exact HM.out
  generalize w1.alloc (.cells (m.map byteV).toArray 23) = w2 at *
  refine (cof_no n hn _ [m] w2 hm1 h16 (by simp)).mono ?_
  rintro e w3 ⟨rfl, hB3⟩
  have hB13 := hB1.trans (hB3.mono hB1.size)
  have H3 := Lib.hid ((hB13.block _ (blk_lt H1.out)).trans H1.out)
  have B3 := Lib.hid (B1.out.trans (hB13.mono B1.out.size))
  clear hm1 hB1 h16 hB3 hB13 H1 B1
  have hL := mark_whole H3.out HM.out
  go_wp2_with (first | (refine wpList_load_w rfl rfl (hL) (by first | rfl | (go_simp; done)) ?_))
  refine (cfits_no n hn w3).mono ?_
  rintro e w' ⟨rfl, rfl⟩
  go_wp2_with (first | (refine wpList_load_w rfl rfl (hL) (by first | rfl | (go_simp; done)) ?_))
  refine (show Calls Try.prog 38 #[.int .i64 n, .agg (m.map byteV).toArray] w3 _ from cplaces_no n hn m w3).mono ?_
  rintro e w4 ⟨rfl, hB4⟩
  have B4 := Lib.hid (B3.out.trans (hB4.mono B3.out.size))
  have z4 := fun x y => z3 x y w4
  clear hL hB4
  go_wp2_with (first | (refine wpList_bin_w rfl rfl rfl rfl (z3 _ _ w4) ?_) | (refine wpList_bin_w rfl rfl rfl (z3 _ _ w4) (by first | rfl | (go_simp; done)) ?_))
  go_ret
  exact ⟨rfl, B4.out⟩
set_option maxHeartbeats 8000000 in
theorem iplaces_yes (t : Nat) (hn : fitsC ((3 * t : Nat) : Int)) (m : List UInt8) (hm : m.length = 16) (w : World) : Calls Try.prog 7 #[.int .i64 ((3 * t : Nat) : Int), markV m] w fun e w' => e = .returned (.bool true) ∧ Below w.heap.size w w' := by
  have hnb : 3 * t ≤ 1000000 := by have := hn.2.1; omega
  have kN := cnew_yes (3 * t) hn
  have kR := rfits_yes _ hn
  have kT := cfits_yes _ hn
  have kP := cplaces_any t hn m hm
  have kQ := refplaces_any t hn m hm
  have hlen : ((List.replicate (3 * t) Ce.zero).length : Int) = ((3 * t : Nat) : Int) := by rw [List.length_replicate]
  have hln : (List.replicate (3 * t) Ce.zero).length ≤ 1000000 := by rw [List.length_replicate]; exact hnb
  have he : emptyB (List.replicate (3 * t) Ce.zero) = true := (empty_iff _).2 (by rw [List.length_replicate])
  generalize List.replicate (3 * t) Ce.zero = Z at *
  unfold pcV markV at kP
  unfold pcV markV at kQ
  generalize (pcN (hash4 m) t 0 : Int) = a at *
  generalize (pcN (hash4 m) t 1 : Int) = b at *
  generalize (pcN (hash4 m) t 2 : Int) = c at *
  generalize ((3 * t : Nat) : Int) = N at *
  have KN := Lib.hid kN
  have KR := Lib.hid kR
  have KT := Lib.hid kT
  have KP := Lib.hid kP
  have KQ := Lib.hid kQ
  have HLEN := Lib.hid hlen
  have HLN := Lib.hid hln
  have HE := Lib.hid he
  have HM := Lib.hid hm
  have z3 := eqv_three a b c
  clear kN kR kT kP kQ hlen hln he hm hn hnb
  unfold markV at *
  go_enter Try.func7, Try.ntmps7
  go_wp2_with fail
  have h0 : (w.alloc (.cells (m.map byteV).toArray 23)).heap[w.heap.size]? = some (.cells (m.map byteV).toArray 23 (0, 0)) := World.alloc_heap_new _ _
  have hB0 : Below w.heap.size w (w.alloc (.cells (m.map byteV).toArray 23)) := (Below.refl _ _).alloc (Nat.le_refl _) _
  generalize w.alloc (.cells (m.map byteV).toArray 23) = w0 at *
  refine (first11 w0).mono ?_
  rintro e w1 ⟨rfl, hB1⟩
  have h1 := (hB1.block _ (blk_lt h0)).trans h0
  have b1 := hB0.trans (hB1.mono hB0.size)
  have H1 := Lib.hid h1
  have B1 := Lib.hid b1
  clear h0 hB0 hB1 h1 b1
  go_wp2_with fail
  refine (KN.out w1).mono ?_
  rintro e w2 ⟨k, v, rfl, hS, -, -, hB2⟩
  have h2 := (hB2.block _ (blk_lt H1.out)).trans H1.out
  have B2 := Lib.hid (B1.out.trans (hB2.mono B1.out.size))
  have HS := Lib.hid hS
  have H2 := Lib.hid h2
  clear h2 hS hB2
  go_wp2_with fail
  refine (KR.out w2).mono ?_
  rintro e w' ⟨rfl, rfl⟩
  have kS : ∀ X, Below w2.heap.size w2 X → Calls Try.prog 39 #[ptr k] X fun e w' => e = .returned (.int .i64 N) ∧ Below X.heap.size X w' := by
    intro X hX
    refine (csize_any k v _ X (HS.out.below hX)).mono ?_
    rintro e w' ⟨rfl, rfl⟩
    exact ⟨by rw [HLEN.out], Below.refl _ _⟩
  have kE : ∀ X, Below w2.heap.size w2 X → Calls Try.prog 40 #[ptr k] X fun e w' => e = .returned (.bool true) ∧ Below X.heap.size X w' := by
    intro X hX
    refine (cempty_any k v _ X (HS.out.below hX) HLN.out).mono ?_
    rintro e w' ⟨rfl, hB⟩
    exact ⟨by rw [HE.out], hB⟩
  have kT : ∀ X, Calls Try.prog 37 #[.int .i64 N] X fun e w' => e = .returned (.bool true) ∧ Below X.heap.size X w' := by
    intro X
    refine (KT.out X).mono ?_
    rintro e w' ⟨rfl, rfl⟩
    exact ⟨rfl, Below.refl _ _⟩
  have kL : ∀ X, Below w2.heap.size w2 X → (Instr.loadAt 23 (.pointer (some ⟨w.heap.size, 0, none⟩))).run Try.prog X = .ok (.agg (m.map byteV).toArray) X := fun X hX => mark_whole ((hX.block _ (blk_lt H2.out)).trans H2.out) HM.out
  have KS := Lib.hid kS
  have KE := Lib.hid kE
  have KF := Lib.hid kT
  have KL := Lib.hid kL
  clear kS kE kT kL
  go_wp2_with fail
  refine wp_region_grow [[], [0], [1], [2], [2, 3], [2], [2, 4, 5], [2, 6], [7], [8], [8, 9], [8, 10], [11], [12], [12, 13], [12, 14], [15], [16], [16], [16, 17, 18], [16], [16], [16, 20, 21], [16, 19, 22], [16, 23], [24]] (by kernel_rfl) (by kernel_rfl) (by kernel_rfl) (Nat.zero_lt_succ _) ?_
  repeat
    (apply steps_fx
     · intro vs X hC hB hA
       try simp only [List.cons_append, List.nil_append, List.getD_cons_zero, List.getD_cons_succ, List.forall_mem_cons, List.not_mem_nil, false_implies, implies_true, and_true] at hA
       simp only [List.getD_cons_zero, List.getD_cons_succ, putL, dstOf, List.foldl_nil, List.foldl_cons, List.getElem?_toArray, List.getElem?_cons_zero, List.getElem?_cons_succ, Option.bind_some, Act.put, List.setIfInBounds_toArray, List.set_cons_zero, List.set_cons_succ]
       try simp only [hA]
       go_wp2_with (first | (refine wpList_load_w rfl rfl (KL.out X hC) (by first | rfl | (go_simp; done)) ?_) | (refine wpList_bin_w rfl rfl rfl (z3 _ _ X) (by first | rfl | (go_simp; done)) ?_))
       first
       | exact ⟨_, rfl, Below.refl _ _, rfl⟩
       | ((with_reducible refine (KS.out X hC).mono ?_); rintro e w' ⟨rfl, hB⟩; go_wp2_with fail; exact ⟨_, rfl, hB, rfl⟩)
       | ((with_reducible refine (KE.out X hC).mono ?_); rintro e w' ⟨rfl, hB⟩; go_wp2_with fail; exact ⟨_, rfl, hB, rfl⟩)
       | ((with_reducible refine (KF.out X).mono ?_); rintro e w' ⟨rfl, hB⟩; go_wp2_with fail; exact ⟨_, rfl, hB, rfl⟩)
       | ((with_reducible refine (KP.out X).mono ?_); rintro e w' ⟨rfl, hB⟩; go_wp2_with fail; exact ⟨_, rfl, hB, rfl⟩)
       | ((with_reducible refine (KQ.out X).mono ?_); rintro e w' ⟨rfl, hB⟩; go_wp2_with fail; exact ⟨_, rfl, hB, rfl⟩)
     simp only [List.cons_append, List.nil_append])
  refine steps_nil ?_
  intro vs X hC hA
  rw [(fun (l : List Oper) (h : l.length = 26) => (by rw [h]; rfl : List.range l.length = [0, 1, 2, 3, 4, 5, 6, 7, 8, 9, 10, 11, 12, 13, 14, 15, 16, 17, 18, 19, 20, 21, 22, 23, 24, 25])) _ rfl]
  simp only [List.getD_cons_zero, List.getD_cons_succ, putL, dstOf, List.foldl_nil, List.foldl_cons, List.getElem?_toArray, List.getElem?_cons_zero, List.getElem?_cons_succ, Option.bind_some, Act.put, List.setIfInBounds_toArray, List.set_cons_zero, List.set_cons_succ]
  have e25 : vs 25 = .bool true := hA 25 (by decide)
  rw [e25]
  clear hA e25
  have hB := B2.out.trans (hC.mono B2.out.size)
  go_wp2_with fail
  go_ret
  exact ⟨rfl, hB⟩
theorem iplaces_walk (n : Int) (m : List UInt8) (hm : m.length = 16) (w : World) : Calls Try.prog 7 #[.int .i64 n, markV m] w fun e w' => e = .returned (.bool true) ∧ Below w.heap.size w w' := by
  by_cases hn : fitsC n
  · obtain ⟨t, rfl⟩ : ∃ t : Nat, n = ((3 * t : Nat) : Int) := ⟨(n / 3).toNat, by obtain ⟨h1, h2, h3⟩ := hn; omega⟩
    exact iplaces_yes t hn m hm w
  · exact iplaces_no n hn m hm w
end Go.Proofs.Ytkdbbdlkfpjdfaa
