/- Sketches: sizes, places.
   Conditions: those that each theorem names. -/
import Derived.Test.YtkdbbdlkfpjdfaaCelS
import Derived.Test.YtkdbbdlkfpjdfaaCloneC
import Derived.Test.YtkdbbdlkfpjdfaaBs
import Derived.Test.YtkdbbdlkfpjdfaaCelE
import Derived.Test.YtkdbbdlkfpjdfaaCelL
namespace Go.Proofs.Ytkdbbdlkfpjdfaa
set_option maxRecDepth 100000
set_option linter.unusedVariables false
set_option linter.unusedSimpArgs false
open Go.RowKit Go.Rg
attribute [local go_sem] Rg.q_add Rg.q_add' Rg.q_xor Rg.q_or Rg.q_and markV
def fitsC (n : Int) : Prop := 3 ≤ n ∧ n ≤ 1536 ∧ n % 3 = 0
theorem cfits_yes (n : Int) (h : fitsC n) (w : World) : Calls Try.prog 37 #[.int .i64 n] w fun e w' => e = .returned (.bool true) ∧ w = w' := by
  obtain ⟨h1, h2, h3⟩ := h
  have h0 : 0 ≤ n := by omega
  go_enter Try.func37, Try.ntmps37
  go_wp2_with fail
  go_ret
  exact ⟨rfl, rfl⟩
theorem cfits_no (n : Int) (h : ¬ fitsC n) (w : World) : Calls Try.prog 37 #[.int .i64 n] w fun e w' => e = .returned (.bool false) ∧ w = w' := by
  unfold fitsC at h
  by_cases h1 : 3 ≤ n
  · by_cases h2 : n ≤ 1536
    · have h3 : ¬ n % 3 = 0 := fun e => h ⟨h1, h2, e⟩
      have h0 : 0 ≤ n := by omega
      have h4 : (n % 3 == 0) = false := by simpa using h3
      clear h h3
      go_enter Try.func37, Try.ntmps37
      go_wp2_with fail
      go_ret
      exact ⟨rfl, rfl⟩
    · clear h
      go_enter Try.func37, Try.ntmps37
      go_wp2_with fail
      go_ret
      exact ⟨rfl, rfl⟩
  · clear h
    go_enter Try.func37, Try.ntmps37
    go_wp2_with fail
    go_ret
    exact ⟨rfl, rfl⟩
/-- A mark's i-th place in thirds of t cells. -/
def pcN (h : UInt64) (t i : Nat) : Nat := i * t + h.toNat / 2 ^ (21 * i) % 2097152 % t
def pcV (h : UInt64) (t : Nat) : List Value := [.int .i64 (pcN h t 0 : Int), .int .i64 (pcN h t 1 : Int), .int .i64 (pcN h t 2 : Int)]
def arr3 (f : Nat → Nat) (i : Nat) : List Value := (List.range 3).map fun j => .int .i64 (if j < i then (f j : Int) else 0)
def hash4 (m : List UInt8) : UInt64 := hashS (sA 4) (sB 4) m
theorem arr3_set (f : Nat → Nat) (i : Nat) (hi : i < 3) : (arr3 f i).set i (.int .i64 (f i : Int)) = arr3 f (i + 1) := by
  unfold arr3
  apply List.ext_getElem
  · simp
  · intro j h1 h2
    rw [List.getElem_set]
    simp only [List.getElem_map, List.getElem_range]
    by_cases e : i = j
    · subst e; rw [if_pos rfl, if_pos (by omega)]
    · rw [if_neg e]
      by_cases e2 : j < i
      · rw [if_pos e2, if_pos (by omega)]
      · rw [if_neg e2, if_neg (by omega)]
theorem and_mask (h : UInt64) (s k x : Nat) (hk : k ≤ 63) (hx : h.toNat / 2 ^ s % 2 ^ k = x) : bits .and .u64 (U h / 2 ^ s) (2 ^ k - 1) = (x : Int) := by
  have e0 : (U h / 2 ^ s : Int) = ((h.toNat / 2 ^ s : Nat) : Int) := by unfold U; rw [Int.natCast_ediv, Int.natCast_pow]; rfl
  have hp : 0 < 2 ^ k := Nat.two_pow_pos k
  have e1 : ((2 : Int) ^ k - 1) = ((2 ^ k - 1 : Nat) : Int) := by rw [Int.natCast_sub hp, Int.natCast_pow]; rfl
  rw [e0, e1]
  have hlt : h.toNat / 2 ^ s < 2 ^ 64 := Nat.lt_of_le_of_lt (Nat.div_le_self _ _) h.toNat_lt
  have hk64 : 2 ^ k ≤ 2 ^ 63 := Nat.pow_le_pow_right (by omega) hk
  have eb : IntKind.u64.bits = 64 := rfl
  have h3 : h.toNat / 2 ^ s % 2 ^ 64 = h.toNat / 2 ^ s := Nat.mod_eq_of_lt hlt
  have h4 : (2 ^ k - 1) % 2 ^ 64 = 2 ^ k - 1 := Nat.mod_eq_of_lt (by omega)
  simp only [bits, eb, BitVec.ofInt_natCast, BitVec.toNat_and, BitVec.toNat_ofNat, h3, h4]
  rw [Nat.and_two_pow_sub_one_eq_mod, hx]
  have : x < 2 ^ k := by rw [← hx]; exact Nat.mod_lt _ hp
  rw [IntKind.wrap_u64]; omega
set_option maxHeartbeats 1000000 in
theorem cplaces_any (t : Nat) (hn : fitsC ((3 * t : Nat) : Int)) (m : List UInt8) (hm : m.length = 16) (w : World) : Calls Try.prog 38 #[.int .i64 ((3 * t : Nat) : Int), markV m] w fun e w' => e = .returned (.agg (pcV (hash4 m) t).toArray) ∧ Below w.heap.size w w' := by
  unfold markV
  have t1 : 1 ≤ t := by have := hn.1; omega
  have t2 : t ≤ 512 := by have := hn.2.1; omega
  have hq : ((3 * t : Nat) : Int) / 3 = (t : Int) := by omega
  have n0 : (0 : Int) ≤ ((3 * t : Nat) : Int) := by omega
  have hq2 : (((3 * t : Nat) : Int)).tdiv 3 = (t : Int) := by rw [Int.tdiv_eq_ediv_of_nonneg n0]; exact hq
  have hyes := fun X => cfits_yes _ hn X
  generalize ((3 * t : Nat) : Int) = N at *
  have HY := Lib.hid hyes
  have HQ := Lib.hid hq
  clear hyes hn hq
  go_enter Try.func38, Try.ntmps38
  go_wp2_with fail
  refine (HY.out _).mono ?_
  rintro e w' ⟨rfl, rfl⟩
  go_wp2_with fail
  obtain ⟨w1, hw1⟩ : ∃ w1, w1 = ((w.alloc (.cells (m.map byteV).toArray 23)).alloc (.cells (arr3 (pcN (hash4 m) t) 0).toArray 64)).alloc (.cells (arr3 (pcN (hash4 m) t) 0).toArray 64) := ⟨_, rfl⟩
  change Code.wp _ _ _ _ (((w.alloc (.cells (m.map byteV).toArray 23)).alloc (.cells (arr3 (pcN (hash4 m) t) 0).toArray 64)).alloc (.cells (arr3 (pcN (hash4 m) t) 0).toArray 64))
  rw [← hw1]
  have h0 : w1.heap[w.heap.size]? = some (.cells (m.map byteV).toArray 23 (0, 0)) := by
    rw [hw1]
    exact ((Below.heap_alloc _ _ _ (by simp; omega)).trans (Below.heap_alloc _ _ _ (by simp))).trans (World.alloc_heap_new _ _)
  have h1 : w1.heap[w.heap.size + 1]? = some (.cells (arr3 (pcN (hash4 m) t) 0).toArray 64 (0, 0)) := by
    rw [hw1]
    refine (Below.heap_alloc _ _ _ (by simp)).trans ?_
    rw [show w.heap.size + 1 = (w.alloc (.cells (m.map byteV).toArray 23)).heap.size by simp]
    exact World.alloc_heap_new _ _
  have h2 : w1.heap[w.heap.size + 2]? = some (.cells (arr3 (pcN (hash4 m) t) 0).toArray 64 (0, 0)) := by
    rw [hw1, show w.heap.size + 2 = ((w.alloc (.cells (m.map byteV).toArray 23)).alloc (.cells (arr3 (pcN (hash4 m) t) 0).toArray 64)).heap.size by simp]
    exact World.alloc_heap_new _ _
  have hB : Below w.heap.size w w1 := by
    rw [hw1]
    exact (((Below.refl _ _).alloc (Nat.le_refl _) _).alloc (by simp) _).alloc (by simp; omega) _
  have HM := Lib.hid hm
  have H0 := Lib.hid h0
  have H1 := Lib.hid h1
  have H2 := Lib.hid h2
  have HB := Lib.hid hB
  clear hm h0 h1 h2 hB hw1
  refine wp_region_grow [[], [], [1], [0, 2], [], [4], [3], [5]] (by kernel_rfl) (by kernel_rfl) (by kernel_rfl) (Nat.zero_lt_succ _) ?_
  iterate 2
    (apply steps_fx
     · intro vs X hC hB hA
       try simp only [List.cons_append, List.nil_append, List.getD_cons_zero, List.getD_cons_succ, List.forall_mem_cons, List.not_mem_nil, false_implies, implies_true, and_true] at hA
       simp only [List.getD_cons_zero, List.getD_cons_succ, putL, dstOf, List.foldl_nil, List.foldl_cons, List.getElem?_toArray, List.getElem?_cons_zero, List.getElem?_cons_succ, Option.bind_some, Act.put, List.setIfInBounds_toArray, List.set_cons_zero, List.set_cons_succ]
       try simp only [hA]
       go_wp2_with fail
       first
       | exact ⟨_, rfl, Below.refl _ _, rfl⟩
       | ((with_reducible refine (seed_any 4 X).mono ?_); rintro e w' ⟨rfl, hB⟩; go_wp2_with fail; exact ⟨_, rfl, hB, rfl⟩)
     simp only [List.cons_append, List.nil_append])
  refine steps_pr ((fun v X => RowsAt X v [m])) (by intro j v X Y _ _ _ _ _ hG h; exact h.below hG) ?_ ?_
  · intro vs X hC hB hA
    try simp only [List.cons_append, List.nil_append, List.getD_cons_zero, List.getD_cons_succ, List.forall_mem_cons, List.not_mem_nil, false_implies, implies_true, and_true] at hA
    simp only [List.getD_cons_zero, List.getD_cons_succ, putL, dstOf, List.foldl_nil, List.foldl_cons, List.getElem?_toArray, List.getElem?_cons_zero, List.getElem?_cons_succ, Option.bind_some, Act.put, List.setIfInBounds_toArray, List.set_cons_zero, List.set_cons_succ]
    try simp only [hA]
    have hbx := (hC.block _ (blk_lt H0.out)).trans H0.out
    have hby := mark_bytes (o := 0) hbx (m := m) (fun j hj => by rw [Nat.zero_add, List.getElem?_map, List.getElem?_eq_getElem hj]; rfl) 16
    rw [HM.out] at hby
    have HR := Lib.hid (rows_one X _ m 41 hby)
    clear hbx hby
    go_wp2_with fail
    exact ⟨_, rfl, (Below.refl _ _).alloc (Nat.le_refl _) _, HR.out⟩
  simp only [List.cons_append, List.nil_append]
  iterate 1
    (apply steps_fx
     · intro vs X hC hB hA
       try simp only [List.cons_append, List.nil_append, List.getD_cons_zero, List.getD_cons_succ, List.forall_mem_cons, List.not_mem_nil, false_implies, implies_true, and_true] at hA
       simp only [List.getD_cons_zero, List.getD_cons_succ, putL, dstOf, List.foldl_nil, List.foldl_cons, List.getElem?_toArray, List.getElem?_cons_zero, List.getElem?_cons_succ, Option.bind_some, Act.put, List.setIfInBounds_toArray, List.set_cons_zero, List.set_cons_succ]
       try simp only [hA]
       go_wp2_with fail
       first
       | exact ⟨_, rfl, Below.refl _ _, rfl⟩
       | ((with_reducible refine (hash_any _ _ _ [m] X hA.2 (by simp [HM.out]) (by simp)).mono ?_); rintro e w' ⟨rfl, hB⟩; go_wp2_with fail; exact ⟨_, rfl, hB, rfl⟩)
     simp only [List.cons_append, List.nil_append])
  repeat
    (apply steps_fx
     · intro vs X hC hB hA
       try simp only [List.cons_append, List.nil_append, List.getD_cons_zero, List.getD_cons_succ, List.forall_mem_cons, List.not_mem_nil, false_implies, implies_true, and_true] at hA
       simp only [List.getD_cons_zero, List.getD_cons_succ, putL, dstOf, List.foldl_nil, List.foldl_cons, List.getElem?_toArray, List.getElem?_cons_zero, List.getElem?_cons_succ, Option.bind_some, Act.put, List.setIfInBounds_toArray, List.set_cons_zero, List.set_cons_succ]
       try simp only [hA]
       have ad0 := HQ.out
       go_wp2_with fail
       first
       | exact ⟨_, rfl, Below.refl _ _, rfl⟩
     simp only [List.cons_append, List.nil_append])
  refine steps_nil ?_
  intro vs X hC hA
  rw [(fun (l : List Oper) (h : l.length = 8) => (by rw [h]; rfl : List.range l.length = [0, 1, 2, 3, 4, 5, 6, 7])) _ rfl]
  simp only [List.getD_cons_zero, List.getD_cons_succ, putL, dstOf, List.foldl_nil, List.foldl_cons, List.getElem?_toArray, List.getElem?_cons_zero, List.getElem?_cons_succ, Option.bind_some, Act.put, List.setIfInBounds_toArray, List.set_cons_zero, List.set_cons_succ]
  have e6 : vs 6 = .int .u64 (U (hash4 m)) := (hA 6 (by decide)).trans (by simp [hash4])
  have e7 : vs 7 = .int .i64 (t : Int) := (hA 7 (by decide)).trans (by first | rfl | rw [HQ.out] | (simp only [hq2]))
  rw [e6, e7]
  clear hA e6 e7
  have hB := HB.out.trans (hC.mono HB.out.size)
  have j1 := (hC.block _ (blk_lt H1.out)).trans H1.out
  have j2 := (hC.block _ (blk_lt H2.out)).trans H2.out
  have HB2 := Lib.hid hB
  have J1 := Lib.hid j1
  have J2 := Lib.hid j2
  clear hC hB j1 j2 H0 H1 H2 HB hq2
  obtain ⟨h, hh⟩ : ∃ h, hash4 m = h := ⟨_, rfl⟩
  rw [hh] at J1 J2 ⊢
  have HH := Lib.hid hh
  clear hh
  go_wp2_with fail
  go_loopw [8, 19] (fun _ c wr => ∃ i : Nat, i ≤ 3 ∧ c = .int .i64 i ∧ Hid (wr.heap[w.heap.size + 2]? = some (.cells (arr3 (pcN h t) i).toArray 64 (0, 0))) ∧ Hid (wr.heap[w.heap.size + 1]? = some (.cells (arr3 (pcN h t) 0).toArray 64 (0, 0))) ∧ Hid (Below w.heap.size w wr)) (fun _ c _ => 3 - (intOf c).toNat)
  case atStart => exact ⟨0, by omega, rfl, J2, J1, HB2⟩
  case round =>
    obtain ⟨i, hi, rfl, HA, HZ, HB⟩ := hrel
    by_cases hil : i < 3
    · have e1 : decide ((i : Int) < 3) = true := decide_eq_true (by omega)
      have e16 : (i : Int) < 3 := by omega
      have nn : (0 : Int) < (t : Int) := by omega
      have nb : (t : Int) ≤ 512 := by omega
      obtain ⟨x, hx⟩ : ∃ x, h.toNat / 2 ^ (21 * i) % 2097152 = x := ⟨_, rfl⟩
      have x0 : (0 : Int) ≤ (x : Int) := Int.natCast_nonneg _
      have x1 : (x : Int) < 2097152 := by omega
      have f1 : bits .and .u64 (U h / 2 ^ (21 * i)) 2097151 = (x : Int) := and_mask h (21 * i) 21 x (by omega) hx
      obtain ⟨y, hy⟩ : ∃ y, x % t = y := ⟨_, rfl⟩
      have hyt : y < t := by rw [← hy]; exact Nat.mod_lt _ (by omega)
      have f2 : (x : Int) % (t : Int) = (y : Int) := by rw [← hy]; exact (Int.natCast_emod _ _).symm
      obtain ⟨q, hq⟩ : ∃ q, i * t = q := ⟨_, rfl⟩
      have hq1 : q ≤ 2 * 512 := by rw [← hq]; exact Nat.mul_le_mul (by omega) t2
      have f3 : (i : Int) * (t : Int) = (q : Int) := by rw [← hq, Int.natCast_mul]
      have f4 : (q : Int) + (y : Int) ≤ 2000 := by omega
      have hpc : pcN h t i = q + y := by unfold pcN; rw [hx, hy, hq]
      have hcl := cell_at HA.out i
      have hgt : (arr3 (pcN h t) i)[i]? = some (.int .i64 0) := by unfold arr3; rw [List.getElem?_map, List.getElem?_range hil]; simp
      rw [hgt] at hcl
      have hf := free_of HA.out i
      have K0 := set_cell i (.int .i64 ((pcN h t i : Nat) : Int)) HA.out
      rw [arr3_set _ _ hil] at K0
      have K1 := (Below.heap_setCell wr ⟨w.heap.size + 2, i, none⟩ (.int .i64 ((pcN h t i : Nat) : Int)) (w.heap.size + 1) (by simp)).trans HZ.out
      have K2 := HB.out.setCell (p := ⟨w.heap.size + 2, i, none⟩) (by dsimp only; omega) (.int .i64 ((pcN h t i : Nat) : Int))
      rw [hpc, Int.natCast_add] at K0 K1 K2
      have KK0 := Lib.hid K0
      have KK1 := Lib.hid K1
      have KK2 := Lib.hid K2
      clear K0 K1 K2 hx hgt hy hq hpc
      go_wp2_with fail
      go_roundw
      case rel => exact ⟨i + 1, by omega, by go_num, KK0, KK1, KK2⟩
      case measure => simp [intOf]; omega
    · have e1 : decide ((i : Int) < 3) = false := decide_eq_false (by omega)
      obtain rfl : i = 3 := by omega
      have hp : arr3 (pcN h t) 3 = pcV h t := rfl
      have HA' := HA.out
      rw [hp] at HA'
      have hl := run_loadAt_mid wr (w.heap.size + 2) 0 64 (pcV h t) _ (blk_all HA') Try.underlying64 rfl (by kernel_rfl)
      have hs := run_storeAt_mid (P := Try.prog) wr (w.heap.size + 1) 0 64 (pcV h t).toArray (blk_there HZ.out _ _ (by simp [arr3, pcV])) (by kernel_rfl) (all_oneCell_toArray (by intro v hv; simp only [pcV, List.mem_cons, List.not_mem_nil, or_false] at hv; rcases hv with rfl | rfl | rfl <;> rfl))
      have hz := heap_setCells (w.heap.size + 1) 64 (0, 0) (pcV h t) 0 _ wr HZ.out (by simp [arr3, pcV])
      rw [splice_all (by simp [arr3, pcV])] at hz
      have hB' := Below.setCells HB.out (w.heap.size + 1) 0 (pcV h t) (by omega)
      have HZ2 := Lib.hid hz
      clear hz HA'
      go_wp2_with (first | (refine wpList_load_at rfl _ _ rfl rfl (hl) ?_) | (refine wpList_store_at rfl _ _ _ rfl rfl rfl (hs) ?_))
      exact bodyPost_ret (v := .agg (pcV h t).toArray) (results_cell_row rfl _ _ (w.heap.size + 1) 64 (pcV h t).toArray (0, 0) _ rfl HZ2.out Try.underlying64 rfl (by kernel_rfl)) rfl ⟨by rw [HH.out], hB'⟩
theorem cplaces_no (n : Int) (hn : ¬ fitsC n) (m : List UInt8) (w : World) : Calls Try.prog 38 #[.int .i64 n, markV m] w fun e w' => e = .returned (.agg #[.int .i64 0, .int .i64 0, .int .i64 0]) ∧ Below w.heap.size w w' := by
  unfold markV
  go_enter Try.func38, Try.ntmps38
  go_wp2_with fail
  refine (cfits_no n hn _).mono ?_
  rintro e w' ⟨rfl, rfl⟩
  go_wp2_with fail
  refine bodyPost_ret (v := .agg #[.int .i64 0, .int .i64 0, .int .i64 0]) (by simp [results, Try.results38, go_sem]) rfl ⟨rfl, ?_⟩
  exact (((Below.refl _ _).alloc (Nat.le_refl _) _).alloc (by simp) _).alloc (by simp; omega) _
end Go.Proofs.Ytkdbbdlkfpjdfaa
