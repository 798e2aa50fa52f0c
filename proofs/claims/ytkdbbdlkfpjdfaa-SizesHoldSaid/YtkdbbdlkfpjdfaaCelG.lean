/- Cells read.
   Conditions: those that each theorem names. -/
import Derived.Test.YtkdbbdlkfpjdfaaCelB
import Derived.Test.YtkdbbdlkfpjdfaaPq
import Derived.Test.YtkdbbdlkfpjdfaaBs
import Derived.Laws.CopyOwn
namespace Go.Proofs.Ytkdbbdlkfpjdfaa
set_option maxRecDepth 100000
set_option linter.unusedVariables false
set_option linter.unusedSimpArgs false
open Go.RowKit Go.Rg
attribute [local go_sem] Rg.q_add Rg.q_add' Rg.q_xor Rg.q_or Rg.q_and markV cellV
def chk (l : List UInt8) : UInt64 := l.foldl (fun u c => (u <<< 8) ||| c.toUInt64) 0
theorem chk_snoc (l : List UInt8) (c : UInt8) : chk (l ++ [c]) = (chk l <<< 8) ||| c.toUInt64 := by simp [chk]
def full (l : List UInt8) : List UInt8 := l ++ List.replicate (16 - l.length) 0
/-- What Get comes to. -/
def Ey.c1 (x : Ey) : Ey := (x.number 18446744073709551615).2
def Ey.c2 (x : Ey) : Ey := (x.c1.fixed 16).2
def Ey.c3 (x : Ey) : Ey := (x.c2.fixed 8).2
def Ey.cn (x : Ey) : Int := zagN (UInt64.ofNat (x.number 18446744073709551615).1)
def Ey.raw (x : Ey) : Ce := ⟨x.cn, full (x.c1.fixed 16).1, chk (x.c2.fixed 8).1⟩
def Ey.cell (x : Ey) : Ce × Ey :=
  if x.c3.e = 0 then (if -1048576 ≤ x.cn ∧ x.cn ≤ 1048576 then (x.raw, x.c3) else (Ce.zero, x.c3.fail 12)) else (Ce.zero, x.c3)
theorem Ey.fixed_upto (x : Ey) (n : Nat) : (x.fixed (n : Int)).1.length ≤ n := by
  unfold Ey.fixed
  split
  · simp
  · split
    · simp
    · split
      · simp
      · simp; omega
theorem full_length {l : List UInt8} (h : l.length ≤ 16) : (full l).length = 16 := by simp [full]; omega
theorem U_chk (u : UInt64) (c : UInt8) : bits .or .u64 (IntKind.u64.wrap (U u * 256)) (IntKind.u64.wrap (c.toNat : Int)) = U ((u <<< 8) ||| c.toUInt64) := by
  have h := q_shl u 8 (by omega)
  rw [show (2 : Int) ^ 8 = 256 from rfl] at h
  rw [h, U_byte, wraps_u64 _ (U_nonneg _) (U_lt _), q_or]; rfl
theorem Touch.then {M : Nat → Prop} {n : Nat} {x y z : World} (h : Touch M x y) (k : Below n y z) (hn : x.heap.size ≤ n) : Touch M x z :=
  ⟨k.os.trans h.os, k.tape.trans h.tape, k.output.trans h.output, Nat.le_trans h.size k.size, fun j hj hm => (k.block j (by omega)).trans (h.block j hj hm)⟩
theorem splice_full (n : Int) (m : List UInt8) (hm : m.length ≤ 16) : Go.splice (Ce.mk n (List.replicate 16 0) 0).vals 1 (m.map byteV) = (Ce.mk n (full m) 0).vals := by
  unfold Go.splice Ce.vals full
  rw [List.length_map, Nat.add_comm 1 m.length, List.drop_succ_cons, List.drop_append_of_le_length (by rw [List.length_map, List.length_replicate]; omega), List.map_replicate, List.drop_replicate, List.map_append, List.map_replicate, List.take_succ_cons, List.take_zero, List.singleton_append, List.append_assoc]
theorem Ce.set_h (n : Int) (m : List UInt8) (h h' : UInt64) (hm : m.length = 16) : (Ce.mk n m h).vals.set 17 (.int .u64 (U h')) = (Ce.mk n m h').vals := by
  unfold Ce.vals
  dsimp only
  rw [List.set_cons_succ, List.set_append_right _ _ (by rw [List.length_map]; omega), List.length_map, hm]; rfl
set_option maxHeartbeats 2000000 in
theorem get_any (lo b : Nat) (x : Ey) (w : World) (h : EyeAt lo b x w) (hlo : lo ≤ w.heap.size) (hn : x.s.length ≤ 1000000000) :
    Calls Try.prog 28 #[ptr b] w fun e w' => e = .returned (cellV x.cell.1) ∧ EyeAt lo b x.cell.2 w' ∧ Touch (fun k => k = b) w w' := by
  go_enter Try.func28, Try.ntmps28
  go_wp2_with fail
  have hA : Below w.heap.size w (w.alloc (.cells zeroCells 26)) := (Below.refl _ _).alloc (Nat.le_refl _) _
  have hzr : CellAt w.heap.size 26 Ce.zero (w.alloc (.cells zeroCells 26)) := zero_at
  have hbw : b < w.heap.size := by obtain ⟨p, cap, _, hh, _⟩ := h; exact blk_lt hh
  refine (eye_signed b x _ (h.below hA) hn).mono ?_
  rintro e w2 ⟨rfl, hE2, hT2⟩
  have h2 : EyeAt lo b x.c1 w2 := hE2
  have e2 : zagN (UInt64.ofNat (x.number 18446744073709551615).1) = x.cn := rfl
  rw [e2]
  have hr2 : CellAt w.heap.size 26 Ce.zero w2 := hT2.keep hzr (by omega)
  have hTT : Touch (fun k => k = b) w w2 := (Touch.of_below hA).trans hT2 (fun _ _ h => h)
  have hlen1 : x.c1.s.length ≤ 1000000000 := Nat.le_trans (Ey.number_len x _) hn
  have hcn : -9223372036854775808 ≤ x.cn ∧ x.cn ≤ 9223372036854775807 := zag_range _
  have hbc : ∀ X, (Instr.build 26 #[(0, .int .i64 x.cn)]).run Try.prog X = .ok (cellV ⟨x.cn, List.replicate 16 0, 0⟩) X := fun X => by kernel_rfl
  obtain ⟨a1, a2⟩ := (zero_at (w := w2) (T := 26)).store (c := ⟨x.cn, List.replicate 16 0, 0⟩) rfl rfl
  have hlt := blk_lt hr2
  have hk : ∀ k, k < w2.heap.size → ((w2.alloc (.cells zeroCells 26)).setCells w2.heap.size 0 (Ce.mk x.cn (List.replicate 16 0) 0).vals).heap[k]? = w2.heap[k]? := fun k hk => (heap_setCells_ne _ _ _ _ _ (by omega)).trans (Below.heap_alloc _ _ _ hk)
  have hBz : Below w2.heap.size w2 ((w2.alloc (.cells zeroCells 26)).setCells w2.heap.size 0 (Ce.mk x.cn (List.replicate 16 0) 0).vals) := Below.setCells ((Below.refl _ _).alloc (Nat.le_refl _) _) _ _ _ (Nat.le_refl _)
  clear hA hzr hE2 hT2 e2 hn
  go_wp2_with (first | (refine wpList_build_at rfl _ rfl (by go_simp) (hbc w2) ?_) | (refine wpList_store_at rfl _ _ _ rfl rfl rfl (a1) ?_))
  generalize (w2.alloc (.cells zeroCells 26)).setCells w2.heap.size 0 (Ce.mk x.cn (List.replicate 16 0) 0).vals = w3 at *
  have hz3 : w2.heap.size + 1 ≤ w3.heap.size := by have := blk_lt a2; omega
  have hE3 : EyeAt lo b x.c1 w3 := h2.below hBz
  have hT3 : Touch (fun k => k = b) w w3 := hTT.trans (Touch.of_below (M := fun k => k = b) hBz) (fun _ _ h => h)
  have hr3 : CellAt w.heap.size 26 Ce.zero w3 := (hk _ hlt).trans hr2
  have hsz := hTT.size
  have HE := Lib.hid hE3
  have HT := Lib.hid hT3
  have HR := Lib.hid hr3
  have HC := Lib.hid a2
  have hb2 : b < w2.heap.size := by omega
  clear hE3 hT3 hr3 a2 hk hBz hTT hr2 h2 hbc h
  refine wp_region_steps_tail 4 [[], [0], [], [2], [1, 3]] (fun X => Touch (fun k => k = b) w3 X) (fun i X => i = 3 → EyeAt lo b x.c1 X) (fun j X Y => Touch (fun k => j = 3 ∧ k = b) X Y)
    (by kernel_rfl) (by kernel_rfl) (by kernel_rfl) (by decide) (by kernel_rfl) (Touch.drew _ _) (fun i hi => HE.out.below (Below.drew (Below.refl _ _))) (fun j X Y _ hC _ hG => hC.trans (hG.weak (fun _ _ h => h.2)) (fun _ _ h => h))
    (fun i j X Y hi hj hij hn hC hBj hG hBi e => by subst e; exact (hBi rfl).below (Touch.below (hG) (fun k hk => absurd hk.1 (by omega)) (Nat.le_refl _))) ?_
  simp only [List.take_succ_cons, List.take_zero]
  iterate 3
    (apply steps_fx
     · intro vs X hC hB hA
       try simp only [List.cons_append, List.nil_append, List.getD_cons_zero, List.getD_cons_succ, List.forall_mem_cons, List.not_mem_nil, false_implies, implies_true, and_true] at hA
       simp only [List.getD_cons_zero, List.getD_cons_succ, putL, dstOf, List.foldl_nil, List.foldl_cons, List.getElem?_toArray, List.getElem?_cons_zero, List.getElem?_cons_succ, Option.bind_some, Act.put, List.setIfInBounds_toArray, List.set_cons_zero, List.set_cons_succ]
       try simp only [hA]
       go_wp2_with fail
       first | exact ⟨_, rfl, World.grownBy.refl _ _, rfl⟩ | exact ⟨_, rfl, Touch.refl _ _, rfl⟩
     simp only [List.cons_append, List.nil_append])
  refine steps_pr (fun v X => OwnB X v (x.c1.fixed 16).1 ∧ (∀ k, v.ownBlock = some k → w3.heap.size ≤ k) ∧ EyeAt lo b x.c2 X) ?_ ?_ ?_
  · rintro j v X Y hj hj3 _ hC hBj hG ⟨q1, q2, q3⟩
    have hXY : Below X.heap.size X Y := Touch.below hG (fun k hk => absurd hk.1 (by omega)) (Nat.le_refl _)
    exact ⟨q1.kept (fun g hg => hXY.block g (q1.lt hg)), q2, q3.below hXY⟩
  · intro vs X hC hB hA
    try simp only [List.cons_append, List.nil_append, List.getD_cons_zero, List.getD_cons_succ, List.forall_mem_cons, List.not_mem_nil, false_implies, implies_true, and_true] at hA
    simp only [List.getD_cons_zero, List.getD_cons_succ, putL, dstOf, List.foldl_nil, List.foldl_cons, List.getElem?_toArray, List.getElem?_cons_zero, List.getElem?_cons_succ, Option.bind_some, Act.put, List.setIfInBounds_toArray, List.set_cons_zero, List.set_cons_succ]
    try simp only [hA]
    have hE := hB rfl
    go_wp2_with fail
    refine (eye_fixed b x.c1 16 X hE hlen1).mono ?_
    rintro e w' ⟨v, rfl, q1, q2, q3, q4⟩
    go_wp2_with fail
    exact ⟨_, rfl, q4.weak (fun k _ h => ⟨trivial, h⟩), q1, fun k hk => Nat.le_trans hC.size (q2 k hk), q3⟩
  refine steps_nil ?_
  intro vs X hC hA
  simp only [List.drop_succ_cons, List.drop_zero]
  rw [show List.range 4 = [0, 1, 2, 3] from rfl]
  simp only [List.getD_cons_zero, List.getD_cons_succ, putL, dstOf, List.foldl_nil, List.foldl_cons, List.getElem?_toArray, List.getElem?_cons_zero, List.getElem?_cons_succ, Option.bind_some, Act.put, List.setIfInBounds_toArray, List.set_cons_zero, List.set_cons_succ]
  have v0 : vs 1 = .slice (some ⟨w2.heap.size, 1, none⟩) 16 16 := hA 1 (by decide)
  obtain ⟨O3, L3, E3⟩ := hA 3 (by decide)
  rw [v0]
  have HA3 := Lib.hid O3
  have HL3 := Lib.hid L3
  have HE3 := Lib.hid E3
  have HX := Lib.hid hC
  obtain ⟨m16, hm16⟩ : ∃ m, (x.c1.fixed 16).1 = m := ⟨_, rfl⟩
  have hml : m16.length ≤ 16 := hm16 ▸ Ey.fixed_upto x.c1 16
  obtain ⟨pv, cv, hv3, hlc, hpn, hps⟩ := HA3.out.shape
  rw [hm16] at hv3 hlc hpn
  have HM := Lib.hid hm16
  generalize vs 3 = vv at *
  subst hv3
  have hcx : CellAt w2.heap.size 26 ⟨x.cn, List.replicate 16 0, 0⟩ X := hC.keep HC.out (by omega)
  have hBX : Below X.heap.size X X := Below.refl _ _
  have hmv : (m16.map byteV).length = Nat.min m16.length 16 := by rw [List.length_map]; exact (Nat.min_eq_left hml).symm
  have HCX := Lib.hid hcx
  clear hcx hC O3 L3 E3 hA v0 hm16
  refine wpList_copy_splice rfl _ _ _ _ rfl 5 rfl (by kernel_rfl) (some ⟨w2.heap.size, 1, none⟩) pv 16 16 m16.length cv rfl rfl w2.heap.size 1 _ _ HCX.out (m16.map byteV) hmv ?_ (by simp [Ce.vals]; omega) (byteV_one m16) w2.heap.size X (Below.refl _ _) (Nat.le_refl _) ?_
  · intro h0
    refine ⟨rfl, ?_⟩
    cases pv with
    | none => have := (hpn rfl).1; simp at h0; omega
    | some ad =>
      have hat := HA3.out.at
      rw [HM.out] at hat
      exact ⟨ad, rfl, fun j v hv => hat.cells j v hv⟩
  intro w4 H4 hB4
  have hB4' := hB4
  have H3 : Hid (w4.heap[w2.heap.size]? = some (.cells (Ce.mk x.cn (full m16) 0).vals.toArray 26 (0, 0))) := by
    have h := H4.out
    have e := splice_full x.cn m16 hml
    rw [e] at h
    exact Lib.hid h
  have hE4 : EyeAt lo b x.c2 w4 := HE3.out.kept (hB4.block b (by omega)) hB4.size (fun k hk _ => hB4.block k (by omega))
  have hR4 : CellAt w.heap.size 26 Ce.zero w4 := (hB4.block _ (by omega)).trans (HX.out.keep HR.out (by show ¬ (w.heap.size = b); omega))
  have hT4 : Touch (fun k => k = b) w w4 := (HT.out.trans HX.out (fun _ _ h => h)).then hB4 hsz
  have hlen2 : x.c2.s.length ≤ 1000000000 := Nat.le_trans (Ey.fixed_len x.c1 16).2 hlen1
  have HE4 := Lib.hid hE4
  have HR4 := Lib.hid hR4
  have HT4 := Lib.hid hT4
  have hz4 : w2.heap.size < w4.heap.size := blk_lt H3.out
  clear hE4 hR4 hT4 hB4 hB4' H4 HCX HA3 HL3 HE3 HX hpn hps hmv
  go_wp2_with fail
  refine (eye_fixed b x.c2 8 w4 HE4.out hlen2).mono ?_
  rintro e w5 ⟨v5, rfl, O5, L5, E5, T5⟩
  have k5 : CellAt w2.heap.size 26 ⟨x.cn, full m16, 0⟩ w5 := T5.keep H3.out (by show ¬ (w2.heap.size = b); omega)
  have r5 : CellAt w.heap.size 26 Ce.zero w5 := T5.keep HR4.out (by show ¬ (w.heap.size = b); omega)
  have t5 : Touch (fun k => k = b) w w5 := HT4.out.trans T5 (fun _ _ h => h)
  obtain ⟨m8, hm8⟩ : ∃ m, (x.c2.fixed 8).1 = m := ⟨_, rfl⟩
  rw [hm8] at O5
  have hl8 : m8.length ≤ 8 := hm8 ▸ Ey.fixed_upto x.c2 8
  obtain ⟨p5, c5, hv5, _, hpn5, hps5⟩ := O5.shape
  subst hv5
  have h5 : EyeAt lo b x.c3 w5 := E5
  have HO5 := Lib.hid O5
  have HL5 := Lib.hid L5
  have HE5 := Lib.hid h5
  have HK5 := Lib.hid k5
  have HR5 := Lib.hid r5
  have HT5 := Lib.hid t5
  have HM8 := Lib.hid hm8
  have hz5 : w2.heap.size < w5.heap.size := blk_lt k5
  clear O5 L5 E5 T5 k5 r5 t5 hm8 hpn5 hps5 h5
  go_wp2_with fail
  go_loopw [5, 17] (fun _ i wr => ∃ k : Nat, k ≤ m8.length ∧ i = .int .i64 (k : Int) ∧ Hid (CellAt w2.heap.size 26 ⟨x.cn, full m16, chk (m8.take k)⟩ wr) ∧ Hid (∀ j, j ≠ w2.heap.size → wr.heap[j]? = w5.heap[j]?) ∧ Hid (Below w2.heap.size w5 wr)) (fun _ i _ => m8.length - (intOf i).toNat)
  case atStart => exact ⟨0, by omega, rfl, HK5, Lib.hid (fun _ _ => rfl), Lib.hid (Below.refl _ _)⟩
  case round =>
    obtain ⟨i, hi, rfl, HK, HO, HB⟩ := hrel
    by_cases hil : i < m8.length
    · have e1 : decide ((i : Int) < (m8.length : Int)) = true := decide_eq_true (by omega)
      obtain ⟨d, hd⟩ : ∃ d, m8[i]? = some d := ⟨_, List.getElem?_eq_getElem hil⟩
      have hO := HO5.out.kept (w' := wr) (fun g hg => HO.out g (by have := HL5.out g hg; omega))
      obtain ⟨q, cq, eq, hf⟩ := hO.at
      cases eq
      obtain ⟨g, o, rfl, _, hcell⟩ := hf i hil
      rw [hd, Option.getD_some] at hcell
      have hfl := full_length hml
      have c17 := HK.out.h hfl
      have f17 := free_of HK.out 17
      have hU := U_chk (chk (m8.take i)) d
      have htk : m8.take (i + 1) = m8.take i ++ [d] := by rw [List.take_add_one, hd]; rfl
      have hst := set_cell 17 (.int .u64 (U ((chk (m8.take i) <<< 8) ||| d.toUInt64))) HK.out
      rw [Ce.set_h _ _ _ _ hfl, ← chk_snoc, ← htk] at hst
      rw [← chk_snoc, ← htk] at hU
      have HST : Hid (CellAt w2.heap.size 26 ⟨x.cn, full m16, chk (m8.take (i + 1))⟩ _) := Lib.hid hst
      have HO2 : Hid (∀ j, j ≠ w2.heap.size → (wr.setCell ⟨w2.heap.size, 17, none⟩ (.int .u64 (U (chk (m8.take (i + 1)))))).heap[j]? = w5.heap[j]?) := Lib.hid (fun j hj => (Below.heap_setCell _ _ _ j hj).trans (HO.out j hj))
      have HB2 := Lib.hid (HB.out.setCell (p := ⟨w2.heap.size, 17, none⟩) (Nat.le_refl _) (.int .u64 (U (chk (m8.take (i + 1))))))
      clear hst hf hO hd htk hfl
      generalize hc1 : chk (m8.take (i + 1)) = c1 at *
      generalize hc0 : chk (m8.take i) = c0 at *
      have HC1 := Lib.hid hc1
      clear hc1 hc0
      go_wp2_with fail
      go_roundw
      case rel => exact ⟨i + 1, by omega, by go_num, by rw [HC1.out]; exact HST, HO2, HB2⟩
      case measure => simp [intOf]; omega
    · have e1 : decide ((i : Int) < (m8.length : Int)) = false := decide_eq_false (by omega)
      obtain rfl : i = m8.length := by omega
      have hk := HK.out
      rw [List.take_length] at hk
      have HO' := HO.out
      have hfl := full_length hml
      have hz6 : w2.heap.size < wr.heap.size := blk_lt hk
      have hL := hk.whole hfl
      have hE : EyeAt lo b x.c3 wr := HE5.out.kept (HO' b (by omega)) HB.out.size (fun k hk _ => HO' k (by omega))
      have hR : CellAt w.heap.size 26 Ce.zero wr := (HO' _ (by omega)).trans HR5.out
      have hT : Touch (fun k => k = b) w wr := HT5.out.then HB.out hsz
      have hraw : Ce.mk x.cn (full m16) (chk m8) = x.raw := by unfold Ey.raw; rw [HM.out, HM8.out]
      rw [hraw] at hk hL
      have hok : x.raw.ok := ⟨by rw [← hraw]; exact hfl, hcn.1, hcn.2⟩
      have HE6 := Lib.hid hE
      have HR6 := Lib.hid hR
      have HT6 := Lib.hid hT
      have HK6 := Lib.hid hk
      clear HO' hE hR hT hk hraw HO HB HE5 HR5 HT5 HK HO5 HL5
      go_wp2_with (first | (refine wpList_load_at rfl _ _ rfl rfl (hL) ?_))
      refine (right_any x.raw hok wr).mono ?_
      rintro e w6 ⟨rfl, hB6⟩
      have hE7 := HE6.out.below hB6
      have hR7 := HR6.out.below hB6 (blk_lt HR6.out)
      have hK7 := HK6.out.below hB6 (blk_lt HK6.out)
      have hT7 := HT6.out.trans (Touch.of_below (M := fun k => k = b) hB6) (fun _ _ h => h)
      have hlen3 : x.c3.s.length ≤ 1000000000 := Nat.le_trans (Ey.fixed_len x.c2 8).2 hlen2
      obtain ⟨rt, hrt⟩ : ∃ rt, decide (-1048576 ≤ x.raw.n ∧ x.raw.n ≤ 1048576) = rt := ⟨_, rfl⟩
      rw [hrt]
      have hcell : x.cell = if x.c3.e = 0 then (if rt = true then (x.raw, x.c3) else (Ce.zero, x.c3.fail 12)) else (Ce.zero, x.c3) := by
        unfold Ey.cell
        rw [← hrt]
        simp only [decide_eq_true_eq]
        rfl
      have HCC := Lib.hid hcell
      have HE7 := Lib.hid hE7
      have HR7 := Lib.hid hR7
      have HT7 := Lib.hid hT7
      have HK7 := Lib.hid hK7
      clear hE7 hR7 hT7 hK7 hB6 hrt hcell hL HE6 HR6 HT6 HK6
      cases rt
      · go_wp2_with fail
        refine (fail_any b x.c3 12 w6 HE7.out).mono ?_
        rintro e w7 ⟨⟨v7, rfl⟩, hE8, hT8⟩
        have hR8 : CellAt w.heap.size 26 Ce.zero w7 := hT8.keep HR7.out (by show ¬ (w.heap.size = b); omega)
        have hT9 := HT7.out.trans hT8 (fun _ _ h => h)
        have hne : (x.c3.fail 12).e ≠ 0 := by
          unfold Ey.fail
          split
          · exact (by decide : (12 : Int) ≠ 0)
          · rename_i h
            intro h0
            exact h ⟨h0, by decide⟩
        have hfin : x.cell = (Ce.zero, x.c3.fail 12) := by
          rw [HCC.out]
          split
          · rfl
          · rename_i h
            have : x.c3.fail 12 = x.c3 := by unfold Ey.fail; rw [if_neg (fun h' => h h'.1)]
            rw [this]
        obtain ⟨b1, b2⟩ := hR8.store (c := Ce.zero) rfl rfl
        have hE9 : EyeAt lo b (x.c3.fail 12) (w7.setCells w.heap.size 0 Ce.zero.vals) := hE8.kept (heap_setCells_ne _ _ _ _ _ (by omega)) (by rw [size_setCells]; exact Nat.le_refl _) (fun k hk _ => heap_setCells_ne _ _ _ _ _ (by omega))
        have hT10 : Touch (fun k => k = b) w (w7.setCells w.heap.size 0 Ce.zero.vals) := hT9.setCells _ _ _ (.inr (Nat.le_refl _))
        have HF := Lib.hid hfin
        have HE9 := Lib.hid hE9
        have HT10 := Lib.hid hT10
        have HB2 := Lib.hid b2
        have HE8 := Lib.hid hE8
        clear hfin hE9 hT10 hT9 hR8 hE8 hT8 b2
        generalize x.c3.fail 12 = y at *
        have hne' : (y.e != 0) = true := by simp [hne]
        go_wp2_with fail
        refine (err_any b y w7 HE8.out).mono ?_
        rintro e w8 ⟨rfl, rfl⟩
        go_wp2_with (first | (refine wpList_store_at rfl _ _ _ rfl rfl rfl (b1) ?_))
        rw [HF.out]
        exact bodyPost_ret (v := cellV Ce.zero) (HB2.out.ret rfl rfl rfl) rfl ⟨rfl, HE9.out, HT10.out⟩
      · go_wp2_with fail
        refine (err_any b x.c3 w6 HE7.out).mono ?_
        rintro e w7 ⟨rfl, rfl⟩
        by_cases h0 : x.c3.e = 0
        · have hfin : x.cell = (x.raw, x.c3) := by rw [HCC.out, if_pos h0]; simp
          have hne' : (x.c3.e != 0) = false := by simp [h0]
          have L7 := HK7.out.whole hok.m
          obtain ⟨b1, b2⟩ := HR7.out.store (c := x.raw) rfl hok.m
          have hE9 : EyeAt lo b x.c3 (w6.setCells w.heap.size 0 x.raw.vals) := HE7.out.kept (heap_setCells_ne _ _ _ _ _ (by omega)) (by rw [size_setCells]; exact Nat.le_refl _) (fun k hk _ => heap_setCells_ne _ _ _ _ _ (by omega))
          have hT10 : Touch (fun k => k = b) w (w6.setCells w.heap.size 0 x.raw.vals) := HT7.out.setCells _ _ _ (.inr (Nat.le_refl _))
          have HF := Lib.hid hfin
          have HE9 := Lib.hid hE9
          have HT10 := Lib.hid hT10
          have HB2 := Lib.hid b2
          clear hfin hE9 hT10 b2 h0
          go_wp2_with (first | (refine wpList_load_at rfl _ _ rfl rfl (L7) ?_) | (refine wpList_store_at rfl _ _ _ rfl rfl rfl (b1) ?_))
          rw [HF.out]
          exact bodyPost_ret (v := cellV x.raw) (HB2.out.ret hok.m rfl rfl) rfl ⟨rfl, HE9.out, HT10.out⟩
        · have hfin : x.cell = (Ce.zero, x.c3) := by rw [HCC.out, if_neg h0]
          have hne' : (x.c3.e != 0) = true := by simp [h0]
          obtain ⟨b1, b2⟩ := HR7.out.store (c := Ce.zero) rfl rfl
          have hE9 : EyeAt lo b x.c3 (w6.setCells w.heap.size 0 Ce.zero.vals) := HE7.out.kept (heap_setCells_ne _ _ _ _ _ (by omega)) (by rw [size_setCells]; exact Nat.le_refl _) (fun k hk _ => heap_setCells_ne _ _ _ _ _ (by omega))
          have hT10 : Touch (fun k => k = b) w (w6.setCells w.heap.size 0 Ce.zero.vals) := HT7.out.setCells _ _ _ (.inr (Nat.le_refl _))
          have HF := Lib.hid hfin
          have HE9 := Lib.hid hE9
          have HT10 := Lib.hid hT10
          have HB2 := Lib.hid b2
          clear hfin hE9 hT10 b2 h0
          go_wp2_with (first | (refine wpList_store_at rfl _ _ _ rfl rfl rfl (b1) ?_))
          rw [HF.out]
          exact bodyPost_ret (v := cellV Ce.zero) (HB2.out.ret rfl rfl rfl) rfl ⟨rfl, HE9.out, HT10.out⟩
end Go.Proofs.Ytkdbbdlkfpjdfaa
