/- The document's cell of any bytes.
   Conditions: those that each theorem names. -/
import Derived.Test.YtkdbbdlkfpjdfaaRefC1
import Derived.Test.YtkdbbdlkfpjdfaaIbC
namespace Go.Proofs.Ytkdbbdlkfpjdfaa
set_option maxRecDepth 100000
set_option linter.unusedVariables false
set_option linter.unusedSimpArgs false
open Go.RowKit Go.Rg
set_option linter.unusedVariables false
attribute [local go_sem] cellV
theorem chk_mul (l : List UInt8) (i : Nat) (c : UInt8) (hl : l.length = 8) (hc : l[i]? = some c) : IntKind.u64.wrap (IntKind.u64.wrap (U (chk (l.take i)) * 256) + (c.toNat : Int)) = U (chk (l.take (i + 1))) := by
  have hi := (List.getElem?_eq_some_iff.1 hc).1
  have e1 : (chk (l.take i)).toNat = valB (l.take i) := chk_val _ (by rw [List.length_take]; omega)
  have e2 : (chk (l.take (i + 1))).toNat = valB (l.take (i + 1)) := chk_val _ (by rw [List.length_take]; omega)
  have e3 : valB (l.take (i + 1)) = valB (l.take i) * 256 + c.toNat := by rw [List.take_add_one, hc]; unfold valB; rw [List.foldl_append]; rfl
  have hlt := (chk (l.take (i + 1))).toNat_lt
  unfold U
  rw [e1, e2, e3] at *
  rw [wrap_u64, wrap_u64]
  have := c.toNat_lt
  omega
theorem Ey.fail_e' (x : Ey) (f : Int) (hf : f ≠ 0) : (x.fail f).e ≠ 0 := by
  unfold Ey.fail
  split
  · exact hf
  · rename_i h
    intro e
    exact h ⟨e, hf⟩
theorem Ey.fixed_ok' (y : Ey) (n : Nat) (h : (y.fixed (n : Int)).2.e = 0) : y.e = 0 ∧ (y.fixed (n : Int)).1.length = n := by
  unfold Ey.fixed at h ⊢
  by_cases h0 : y.e = 0
  · rw [if_neg (by simp [h0]), if_neg (by omega)] at h ⊢
    by_cases h1 : (y.s.length : Int) < (n : Int)
    · rw [if_pos h1] at h
      exact absurd h (Ey.fail_e' y 10 (by decide))
    · rw [if_neg h1]
      refine ⟨h0, ?_⟩
      simp; omega
  · rw [if_pos h0] at h
    exact absurd h h0
theorem build_two (n : Int) (m : List UInt8) (hm : m.length = 16) (w : World) : (Instr.build 26 #[(0, .int .i64 n), (1, .agg (m.map byteV).toArray)]).run Try.prog w = .ok (.agg (Ce.mk n m 0).vals.toArray) w := by
  obtain ⟨a0, a1, a2, a3, a4, a5, a6, a7, a8, a9, b0, b1, b2, b3, b4, b5, rfl⟩ := list16 hm
  kernel_rfl
theorem build_none (w : World) : (Instr.build 26 #[]).run Try.prog w = .ok (.agg Ce.zero.vals.toArray) w := by kernel_rfl
set_option maxHeartbeats 4000000 in
theorem refcget_any (b : Nat) (x : Ey) (w : World) (h : RefAt b x w) (hn : x.s.length ≤ 1000000000) :
    Calls Try.prog 29 #[ptr b] w fun e w' => e = .returned (cellV x.cell.1) ∧ RefAt b x.cell.2 w' ∧ Touch (fun k => k = b) w w' := by
  have hU : U 18446744073709551615 = 18446744073709551615 := by kernel_rfl
  have k1 := fun X (hX : RefAt b x X) => ref_num b x 18446744073709551615 X hX hn
  rw [hU] at k1
  have k2 := fun X => ref_zag (UInt64.ofNat (x.number 18446744073709551615).1) X
  have ecn : zagN (UInt64.ofNat (x.number 18446744073709551615).1) = x.cn := rfl
  rw [ecn] at k2
  have ec1 : (x.number 18446744073709551615).2 = x.c1 := rfl
  rw [ec1] at k1
  generalize UInt64.ofNat (x.number 18446744073709551615).1 = uz at *
  have hbw : b < w.heap.size := blk_lt h
  replace k1 := Lib.hid k1
  replace k2 := Lib.hid k2
  clear hU ecn ec1
  go_enter Try.func29, Try.ntmps29
  go_wp2_with fail
  have hA : Below w.heap.size w (w.alloc (.cells zeroCells 26)) := (Below.refl _ _).alloc (Nat.le_refl _) _
  have hzr : CellAt w.heap.size 26 Ce.zero (w.alloc (.cells zeroCells 26)) := zero_at
  refine (k1.out _ (h.below hA)).mono ?_
  rintro e w2 ⟨rfl, hE2, hT2⟩
  have hZ2 : CellAt w.heap.size 26 Ce.zero w2 := hT2.keep hzr (by omega)
  have hTT2 : Touch (fun k => k = b) w w2 := (Touch.of_below hA).trans hT2 (fun _ _ h => h)
  have hl1 : x.c1.s.length ≤ 1000000000 := Nat.le_trans (Ey.number_len x _) hn
  replace hE2 := Lib.hid hE2
  replace hZ2 := Lib.hid hZ2
  replace hTT2 := Lib.hid hTT2
  clear hA hzr hT2 h k1
  go_wp2_with fail
  refine (k2.out w2).mono ?_
  rintro e w' ⟨rfl, rfl⟩
  go_wp2_with fail
  refine (ref_fixed b x.c1 16 w2 hE2.out).mono ?_
  rintro e w3 ⟨rfl, hE3, hT3⟩
  have hm16 : (x.c1.fixed 16).1.length ≤ 16 := Ey.fixed_upto x.c1 16
  have hZ3 : CellAt w.heap.size 26 Ce.zero w3 := hT3.keep hZ2.out (by omega)
  have hTT3 := hTT2.out.trans hT3 (fun _ _ h => h)
  obtain ⟨m, hm⟩ : ∃ m, (x.c1.fixed 16).1 = m := ⟨_, rfl⟩
  rw [hm] at hm16 ⊢
  have hE3' : RefAt b x.c2 w3 := hE3
  replace hE3' := Lib.hid hE3'
  replace hZ3 := Lib.hid hZ3
  replace hTT3 := Lib.hid hTT3
  replace hm := Lib.hid hm
  clear hE3 hT3 hE2 hZ2 hTT2 k2
  go_wp2_with fail
  refine (refmark_any m hm16 w3).mono ?_
  rintro e w4 ⟨rfl, hB⟩
  have hfl := full_length hm16
  have hE4 := hE3'.out.below hB
  have hZ4 := hZ3.out.below hB (blk_lt hZ3.out)
  have hTT4 := hTT3.out.trans (Touch.of_below (M := fun k => k = b) hB) (fun _ _ h => h)
  have bm := boxedM w4 (full m) hfl
  have a1 := bm.a1
  have hE5 := hE4.below bm.B
  have hZ5 := hZ4.below bm.B (blk_lt hZ4)
  have hTT5 := hTT4.trans (Touch.of_below (M := fun k => k = b) bm.B) (fun _ _ h => h)
  have hbx := bm.b
  replace hE5 := Lib.hid hE5
  replace hZ5 := Lib.hid hZ5
  replace hTT5 := Lib.hid hTT5
  replace hbx := Lib.hid hbx
  replace hfl := Lib.hid hfl
  clear bm hB hE4 hZ4 hTT4 hE3' hZ3 hTT3
  go_wp2_with (first | (refine wpList_store_at rfl _ _ _ rfl rfl rfl (a1) ?_))
  clear a1
  generalize (w4.alloc (.cells zeroMark 23)).setCells w4.heap.size 0 ((full m).map byteV) = w5 at *
  generalize w4.heap.size = k4 at *
  refine (ref_fixed b x.c2 8 w5 hE5.out).mono ?_
  rintro e w6 ⟨rfl, hE6, hT6⟩
  have hE6' : RefAt b x.c3 w6 := hE6
  have hZ6 : CellAt w.heap.size 26 Ce.zero w6 := hT6.keep hZ5.out (by omega)
  have hk4b : k4 ≠ b := fun e => by subst e; have := hbx.out.symm.trans (show _ = _ from hE5.out); simp at this
  have hbx6 : w6.heap[k4]? = some (.cells ((full m).map byteV).toArray 23 (0, 0)) := hT6.keep hbx.out hk4b
  have hTT6 := hTT5.out.trans hT6 (fun _ _ h => h)
  have hs8 := Ey.fixed_ok' x.c2 8
  obtain ⟨s8, hs⟩ : ∃ s, (x.c2.fixed 8).1 = s := ⟨_, rfl⟩
  have hc3 : (x.c2.fixed 8).2 = x.c3 := rfl
  rw [show ((8 : Nat) : Int) = 8 from rfl, hs, hc3] at hs8
  rw [hs]
  obtain ⟨c0, c1, f0, f1⟩ := RefAt.cells hE6'
  have hraw : x.raw = ⟨x.cn, full m, chk s8⟩ := by unfold Ey.raw; rw [hm.out, hs]
  have hcn : -9223372036854775808 ≤ x.cn ∧ x.cn ≤ 9223372036854775807 := zag_range _
  replace hE6' := Lib.hid hE6'
  replace hZ6 := Lib.hid hZ6
  replace hbx6 := Lib.hid hbx6
  replace hTT6 := Lib.hid hTT6
  replace hraw := Lib.hid hraw
  replace hs := Lib.hid hs
  clear hE6 hT6 hE5 hZ5 hTT5 hbx hc3 c0 f0 f1
  by_cases h0 : x.c3.e = 0
  · have e4 : (x.c3.e != 0) = false := by simp [h0]
    have hl8 := (hs8 h0).2
    have bt := build_two x.cn (full m) hfl.out w6
    have lm := mark_whole hbx6.out hfl.out
    have bc := boxedC w6 ⟨x.cn, full m, 0⟩ hfl.out
    have a2 := bc.a1
    have hE7 := hE6'.out.below bc.B
    have hZ7 := hZ6.out.below bc.B (blk_lt hZ6.out)
    have hTT7 := hTT6.out.trans (Touch.of_below (M := fun k => k = b) bc.B) (fun _ _ h => h)
    have hcx := bc.b
    have hE7' : RefAt b x.c3 _ := hE7
    have hk60 : w.heap.size < w6.heap.size := blk_lt hZ6.out
    replace hE7' := Lib.hid hE7'
    replace hZ7 := Lib.hid hZ7
    replace hTT7 := Lib.hid hTT7
    replace hcx := Lib.hid hcx
    replace h0 := Lib.hid h0
    clear bc hE7 hs8 hE6' hZ6 hTT6 hbx6
    go_wp2_with (first | (refine wpList_load_at rfl _ _ rfl rfl (lm) ?_) | (refine wpList_build_at rfl _ rfl (by go_simp) (bt) ?_) | (refine wpList_store_at rfl _ _ _ rfl rfl rfl (a2) ?_))
    clear lm bt a2 c1 e4
    generalize (w6.alloc (.cells zeroCells 26)).setCells w6.heap.size 0 (Ce.mk x.cn (full m) 0).vals = w7 at *
    generalize w6.heap.size = k6 at *
    have hk6 : k6 ≠ b := fun e => by subst e; have := (show _ = _ from hcx.out).symm.trans (show _ = _ from hE7'.out); simp at this
    go_loopw [7] (fun c wr => ∃ i : Nat, i ≤ 8 ∧ c = .int .i64 i ∧ Hid (CellAt k6 26 ⟨x.cn, full m, chk (s8.take i)⟩ wr) ∧ Hid (Touch (fun k => k = k6) w7 wr)) (fun c _ => 8 - (intOf c).toNat)
    case atStart => exact ⟨0, by omega, rfl, hcx, Lib.hid (Touch.refl _ _)⟩
    case round =>
      obtain ⟨i, hi, rfl, HC, HT⟩ := hrel
      by_cases hil : i < 8
      · have e1 : decide ((i : Int) < 8) = true := decide_eq_true (by omega)
        obtain ⟨c, hc⟩ : ∃ c, s8[i]? = some c := ⟨_, List.getElem?_eq_getElem (by omega)⟩
        have i1 : (i : Int) < (s8.length : Int) := by omega
        have hszb : i < (⟨s8.toArray⟩ : ByteArray).size := by rw [bytes_size]; omega
        have hyi : (⟨s8.toArray⟩ : ByteArray)[i]'hszb = c := (List.getElem?_eq_some_iff.1 hc).2
        have hcb : (c.toNat : Int) < 256 := by have := c.toNat_lt; omega
        have hcb0 : (0 : Int) ≤ (c.toNat : Int) := Int.natCast_nonneg _
        have hmul := chk_mul s8 i c hl8 hc
        obtain ⟨u0, hu0⟩ : ∃ u, chk (s8.take i) = u := ⟨_, rfl⟩
        obtain ⟨u1, hu1⟩ : ∃ u, chk (s8.take (i + 1)) = u := ⟨_, rfl⟩
        rw [hu0] at hmul HC
        rw [hu1] at hmul
        have hmul2 := hmul
        rw [wrap_u64, wrap_u64] at hmul2
        have lc : ∀ X, Below wr.heap.size wr X → X.cell? ⟨k6, 17, none⟩ = some (.int .u64 (U u0)) := fun X hX => (HC.out.below hX (blk_lt HC.out)).h hfl.out
        have hst : ∀ X, Below wr.heap.size wr X → CellAt k6 26 ⟨x.cn, full m, u1⟩ (X.setCell ⟨k6, 17, none⟩ (.int .u64 (U u1))) ∧ X.frozen? ⟨k6, 17, none⟩ = false := fun X hX => by
          have hx := HC.out.below hX (blk_lt HC.out)
          have := set_cell 17 (.int .u64 (U u1)) hx
          rw [Ce.set_h _ _ _ _ hfl.out] at this
          exact ⟨this, free_of hx 17⟩
        have wi : IntKind.i64.wrap (i : Int) = (i : Int) := IntWalk.i64_in _ (by omega)
        have i0 : (0 : Int) ≤ (i : Int) := Int.natCast_nonneg _
        replace hst := Lib.hid hst
        replace hu0 := Lib.hid hu0
        replace hu1 := Lib.hid hu1
        replace hl8 := Lib.hid hl8
        clear hc hi
        go_wp2_with fail
        refine wp_region_calm_tail 9 (by kernel_rfl) (by kernel_rfl) ?_
        simp only [List.take_succ_cons, List.take_zero, List.drop_succ_cons, List.drop_zero]
        repeat
          first
          | (apply calm_want
             · first | rfl | (go_simp; done)
             · intro X hX
               go_simp
               first
                 | done
                 | rfl
                 | (refine ⟨trivial, ?_⟩; (fail); done)
                 | ((fail); done)
             intro K hK
             go_simp
             refine hK _ ?_
             clear hK K)
          | (apply calm_skip
             · first | rfl | (go_simp; done)
             intro K hK
             go_simp
             refine hK _ ?_
             clear hK K)
        refine wpQuiet_nil ?_
        intro X hX
        obtain ⟨q1, q2⟩ := hst.out X hX
        have hT2 := (HT.out.trans (Touch.of_below (M := fun k => k = k6) hX) (fun _ _ h => h)).set k6 17 (.int .u64 (U u1)) (.inl rfl)
        have lcX := lc X hX
        rw [← hu1.out] at q1 hT2
        rw [← hu1.out] at hmul hmul2
        replace q1 := Lib.hid q1
        replace hT2 := Lib.hid hT2
        clear hst lc hX HC HT
        go_wp2_with fail
        go_roundw
        case rel => exact ⟨i + 1, by omega, by go_num, q1, hT2⟩
        case measure => simp [intOf]; omega
      · have e1 : decide ((i : Int) < 8) = false := decide_eq_false (by omega)
        have hC := HC.out
        rw [show i = s8.length by omega, List.take_length, ← hraw.out] at hC
        have hok : x.raw.ok := ⟨by rw [hraw.out]; exact hfl.out, hcn.1, hcn.2⟩
        have hL := hC.whole hok.m
        have hE8 : RefAt b x.c3 wr := HT.out.keep hE7'.out (fun e => hk6 e.symm)
        have hZ8 : CellAt w.heap.size 26 Ce.zero wr := HT.out.keep hZ7.out (fun e => by have e' : w.heap.size = k6 := e; omega)
        have hTT8 : Touch (fun k => k = b) w wr := hTT7.out.then (HT.out.below (n := k6) (fun j hj => by show k6 ≤ j; rw [hj]; exact Nat.le_refl _) (Nat.le_of_lt (blk_lt hcx.out))) (by omega)
        replace hC := Lib.hid hC
        replace hE8 := Lib.hid hE8
        replace hZ8 := Lib.hid hZ8
        replace hTT8 := Lib.hid hTT8
        clear HC HT hE7' hZ7 hTT7 hcx
        go_wp2_with (first | (refine wpList_load_at rfl _ _ rfl rfl (hL) ?_))
        refine (show Calls Try.prog 24 #[.agg x.raw.vals.toArray] wr _ from refright_any x.raw hok wr).mono ?_
        rintro e w8 ⟨rfl, hB⟩
        have hC9 := hC.out.below hB (blk_lt hC.out)
        have hZ9 := hZ8.out.below hB (blk_lt hZ8.out)
        have hE9 := hE8.out.below hB
        have hTT9 := hTT8.out.trans (Touch.of_below (M := fun k => k = b) hB) (fun _ _ h => h)
        obtain ⟨rt, hrt⟩ : ∃ rt, decide (-1048576 ≤ x.raw.n ∧ x.raw.n ≤ 1048576) = rt := ⟨_, rfl⟩
        rw [hrt]
        have hcell : x.cell = if rt = true then (x.raw, x.c3) else (Ce.zero, x.c3.fail 12) := by
          unfold Ey.cell
          rw [if_pos h0.out, ← hrt]
          simp only [decide_eq_true_eq]
          rfl
        replace hC9 := Lib.hid hC9
        replace hZ9 := Lib.hid hZ9
        replace hE9 := Lib.hid hE9
        replace hTT9 := Lib.hid hTT9
        replace hcell := Lib.hid hcell
        clear hB hrt hL hC hZ8 hE8 hTT8
        cases rt
        · go_wp2_with fail
          refine (ref_fail b x.c3 12 w8 hE9.out).mono ?_
          rintro e w9 ⟨⟨v9, rfl⟩, hE10, hT10⟩
          have hZ10 : CellAt w.heap.size 26 Ce.zero w9 := hT10.keep hZ9.out (by show ¬ (w.heap.size = b); omega)
          have hTT10 := hTT9.out.trans hT10 (fun _ _ h => h)
          obtain ⟨b1, b2⟩ := hZ10.store (c := Ce.zero) rfl rfl
          have hE11 : RefAt b (x.c3.fail 12) (w9.setCells w.heap.size 0 Ce.zero.vals) := (heap_setCells_ne _ _ _ _ _ (by omega)).trans hE10
          have hTT11 := hTT10.setCells w.heap.size 0 Ce.zero.vals (.inr (Nat.le_refl _))
          have bn := build_none w9
          replace b2 := Lib.hid b2
          replace hE11 := Lib.hid hE11
          replace hTT11 := Lib.hid hTT11
          clear hZ10 hTT10 hE10 hT10
          go_wp2_with (first | (refine wpList_build_at rfl _ rfl (by go_simp) (bn) ?_) | (refine wpList_store_at rfl _ _ _ rfl rfl rfl (b1) ?_))
          rw [hcell.out]
          exact bodyPost_ret (v := cellV Ce.zero) (b2.out.ret rfl rfl rfl) rfl ⟨rfl, hE11.out, hTT11.out⟩
        · have L9 := hC9.out.whole hok.m
          obtain ⟨b1, b2⟩ := hZ9.out.store (c := x.raw) rfl hok.m
          have hE11 : RefAt b x.c3 (w8.setCells w.heap.size 0 x.raw.vals) := (heap_setCells_ne _ _ _ _ _ (by omega)).trans hE9.out
          have hTT11 := hTT9.out.setCells w.heap.size 0 x.raw.vals (.inr (Nat.le_refl _))
          replace b2 := Lib.hid b2
          replace hE11 := Lib.hid hE11
          replace hTT11 := Lib.hid hTT11
          go_wp2_with (first | (refine wpList_load_at rfl _ _ rfl rfl (L9) ?_) | (refine wpList_store_at rfl _ _ _ rfl rfl rfl (b1) ?_))
          rw [hcell.out]
          exact bodyPost_ret (v := cellV x.raw) (b2.out.ret hok.m rfl rfl) rfl ⟨rfl, hE11.out, hTT11.out⟩
  · have e4 : (x.c3.e != 0) = true := by simp [h0]
    obtain ⟨b1, b2⟩ := hZ6.out.store (c := Ce.zero) rfl rfl
    have hE11 : RefAt b x.c3 (w6.setCells w.heap.size 0 Ce.zero.vals) := (heap_setCells_ne _ _ _ _ _ (by omega)).trans hE6'.out
    have hTT11 := hTT6.out.setCells w.heap.size 0 Ce.zero.vals (.inr (Nat.le_refl _))
    have hcell : x.cell = (Ce.zero, x.c3) := by unfold Ey.cell; rw [if_neg h0]
    have bn := build_none w6
    replace b2 := Lib.hid b2
    replace hE11 := Lib.hid hE11
    replace hTT11 := Lib.hid hTT11
    replace hcell := Lib.hid hcell
    replace h0 := Lib.hid h0
    clear hs8 hE6' hZ6 hTT6 hbx6
    go_wp2_with (first | (refine wpList_build_at rfl _ rfl (by go_simp) (bn) ?_) | (refine wpList_store_at rfl _ _ _ rfl rfl rfl (b1) ?_))
    rw [hcell.out]
    exact bodyPost_ret (v := cellV Ce.zero) (b2.out.ret rfl rfl rfl) rfl ⟨rfl, hE11.out, hTT11.out⟩
end Go.Proofs.Ytkdbbdlkfpjdfaa
