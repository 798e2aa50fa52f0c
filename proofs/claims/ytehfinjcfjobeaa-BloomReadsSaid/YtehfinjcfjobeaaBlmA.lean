/- Filters: sizes, places.
   Conditions: those that each theorem names. -/
import Derived.Test.YtehfinjcfjobeaaMarks
import Derived.Test.YtehfinjcfjobeaaBs
import Derived.Test.YtehfinjcfjobeaaCelE
import Derived.Test.YtehfinjcfjobeaaPn
import Derived.Test.YtehfinjcfjobeaaSp
namespace Go.Proofs.Ytehfinjcfjobeaa
set_option maxRecDepth 100000
set_option linter.unusedVariables false
set_option linter.unusedSimpArgs false
open Go.RowKit Go.Rg
attribute [local go_sem] Rg.q_add Rg.q_add' Rg.q_xor Rg.q_or Rg.q_and markV
def fitsB (n : Int) : Prop := 64 ≤ n ∧ n ≤ 8192 ∧ n % 8 = 0
theorem bfits_yes (n : Int) (h : fitsB n) (w : World) : Calls Try.prog 18 #[.int .i64 n] w fun e w' => e = .returned (.bool true) ∧ w = w' := by
  obtain ⟨h1, h2, h3⟩ := h
  have h0 : 0 ≤ n := by omega
  go_enter Try.func18, Try.ntmps18
  go_wp2_with fail
  go_ret
  exact ⟨rfl, rfl⟩
theorem bfits_no (n : Int) (h : ¬ fitsB n) (w : World) : Calls Try.prog 18 #[.int .i64 n] w fun e w' => e = .returned (.bool false) ∧ w = w' := by
  unfold fitsB at h
  by_cases h1 : 64 ≤ n
  · by_cases h2 : n ≤ 8192
    · have h3 : ¬ n % 8 = 0 := fun e => h ⟨h1, h2, e⟩
      have h0 : 0 ≤ n := by omega
      have h4 : (n % 8 == 0) = false := by simpa using h3
      clear h h3
      go_enter Try.func18, Try.ntmps18
      go_wp2_with fail
      go_ret
      exact ⟨rfl, rfl⟩
    · clear h
      go_enter Try.func18, Try.ntmps18
      go_wp2_with fail
      go_ret
      exact ⟨rfl, rfl⟩
  · clear h
    go_enter Try.func18, Try.ntmps18
    go_wp2_with fail
    go_ret
    exact ⟨rfl, rfl⟩
def plN (h : UInt64) (n i : Nat) : Nat := h.toNat / 2 ^ (16 * i) % 65536 % n
def plV (h : UInt64) (n : Nat) : List Value := [.int .i64 (plN h n 0 : Int), .int .i64 (plN h n 1 : Int), .int .i64 (plN h n 2 : Int), .int .i64 (plN h n 3 : Int)]
def arr4 (f : Nat → Nat) (i : Nat) : List Value := (List.range 4).map fun j => .int .i64 (if j < i then (f j : Int) else 0)
def hash8 (m : List UInt8) : UInt64 := hashS (sA 8) (sB 8) m
theorem arr4_set (f : Nat → Nat) (i : Nat) (hi : i < 4) : (arr4 f i).set i (.int .i64 (f i : Int)) = arr4 f (i + 1) := by
  unfold arr4
  apply List.ext_getElem
  · simp
  · intro j h1 h2
    rw [List.getElem_set]
    simp only [List.getElem_map, List.getElem_range]
    by_cases e : i = j
    · subst e; rw [if_pos rfl, if_pos (by omega)]
    · rw [if_neg e]
      by_cases e2 : j < i
      · rw [if_pos e2, if_pos (by omega)]
      · rw [if_neg e2, if_neg (by omega)]
theorem and_mask (h : UInt64) (s k x : Nat) (hk : k ≤ 63) (hs : s ≤ 1000) (hx : h.toNat / 2 ^ s % 2 ^ k = x) : bits .and .u64 (U h / 2 ^ s) (2 ^ k - 1) = (x : Int) := by
  have e0 : (U h / 2 ^ s : Int) = ((h.toNat / 2 ^ s : Nat) : Int) := by unfold U; rw [Int.natCast_ediv, Int.natCast_pow]; rfl
  have hp : 0 < 2 ^ k := Nat.two_pow_pos k
  have e1 : ((2 : Int) ^ k - 1) = ((2 ^ k - 1 : Nat) : Int) := by rw [Int.natCast_sub hp, Int.natCast_pow]; rfl
  rw [e0, e1]
  have hlt : h.toNat / 2 ^ s < 2 ^ 64 := Nat.lt_of_le_of_lt (Nat.div_le_self _ _) h.toNat_lt
  have hk64 : 2 ^ k ≤ 2 ^ 63 := Nat.pow_le_pow_right (by omega) hk
  have eb : IntKind.u64.bits = 64 := rfl
  have h3 : h.toNat / 2 ^ s % 2 ^ 64 = h.toNat / 2 ^ s := Nat.mod_eq_of_lt hlt
  have h4 : (2 ^ k - 1) % 2 ^ 64 = 2 ^ k - 1 := Nat.mod_eq_of_lt (by omega)
  simp only [bits, eb, BitVec.ofInt_natCast, BitVec.toNat_and, BitVec.toNat_ofNat, h3, h4]
  rw [Nat.and_two_pow_sub_one_eq_mod, hx]
  have : x < 2 ^ k := by rw [← hx]; exact Nat.mod_lt _ hp
  rw [IntKind.wrap_u64]; omega
set_option maxHeartbeats 1000000 in
theorem bplaces_any (n : Nat) (hn : fitsB n) (m : List UInt8) (hm : m.length = 16) (w : World) : Calls Try.prog 19 #[.int .i64 (n : Int), markV m] w fun e w' => e = .returned (.agg (plV (hash8 m) n).toArray) ∧ Below w.heap.size w w' := by
  unfold markV
  go_enter Try.func19, Try.ntmps19
  go_wp2_with fail
  refine (bfits_yes (n : Int) hn _).mono ?_
  rintro e w' ⟨rfl, rfl⟩
  go_wp2_with fail
  obtain ⟨w1, hw1⟩ : ∃ w1, w1 = ((w.alloc (.cells (m.map byteV).toArray 24)).alloc (.cells (arr4 (plN (hash8 m) n) 0).toArray 44)).alloc (.cells (arr4 (plN (hash8 m) n) 0).toArray 44) := ⟨_, rfl⟩
  change Code.wp _ _ _ _ (((w.alloc (.cells (m.map byteV).toArray 24)).alloc (.cells (arr4 (plN (hash8 m) n) 0).toArray 44)).alloc (.cells (arr4 (plN (hash8 m) n) 0).toArray 44))
  rw [← hw1]
  have h0 : w1.heap[w.heap.size]? = some (.cells (m.map byteV).toArray 24 (0, 0)) := by
    rw [hw1]
    exact ((Below.heap_alloc _ _ _ (by simp; omega)).trans (Below.heap_alloc _ _ _ (by simp))).trans (World.alloc_heap_new _ _)
  have h1 : w1.heap[w.heap.size + 1]? = some (.cells (arr4 (plN (hash8 m) n) 0).toArray 44 (0, 0)) := by
    rw [hw1]
    refine (Below.heap_alloc _ _ _ (by simp)).trans ?_
    rw [show w.heap.size + 1 = (w.alloc (.cells (m.map byteV).toArray 24)).heap.size by simp]
    exact World.alloc_heap_new _ _
  have h2 : w1.heap[w.heap.size + 2]? = some (.cells (arr4 (plN (hash8 m) n) 0).toArray 44 (0, 0)) := by
    rw [hw1, show w.heap.size + 2 = ((w.alloc (.cells (m.map byteV).toArray 24)).alloc (.cells (arr4 (plN (hash8 m) n) 0).toArray 44)).heap.size by simp]
    exact World.alloc_heap_new _ _
  have hB : Below w.heap.size w w1 := by
    rw [hw1]
    exact (((Below.refl _ _).alloc (Nat.le_refl _) _).alloc (by simp) _).alloc (by simp; omega) _
  have HM := Lib.hid hm
  have H0 := Lib.hid h0
  have H1 := Lib.hid h1
  have H2 := Lib.hid h2
  have HB := Lib.hid hB
  have HN := Lib.hid hn
  clear hm h0 h1 h2 hB hw1 hn
  refine wp_region_grow [[], [], [1], [0, 2], [3]] (by kernel_rfl) (by kernel_rfl) (by kernel_rfl) (Nat.zero_lt_succ _) ?_
  iterate 2
    (apply steps_fx
     · intro vs X hC hB hA
       try simp only [List.cons_append, List.nil_append, List.getD_cons_zero, List.getD_cons_succ, List.forall_mem_cons, List.not_mem_nil, false_implies, implies_true, and_true] at hA
       simp only [List.getD_cons_zero, List.getD_cons_succ, putL, dstOf, List.foldl_nil, List.foldl_cons, List.getElem?_toArray, List.getElem?_cons_zero, List.getElem?_cons_succ, Option.bind_some, Act.put, List.setIfInBounds_toArray, List.set_cons_zero, List.set_cons_succ]
       try simp only [hA]
       go_wp2_with fail
       first
       | exact ⟨_, rfl, Below.refl _ _, rfl⟩
       | ((with_reducible refine (seed_any 8 X).mono ?_); rintro e w' ⟨rfl, hB⟩; go_wp2_with fail; exact ⟨_, rfl, hB, rfl⟩)
     simp only [List.cons_append, List.nil_append])
  refine steps_pr ((fun v X => RowsAt X v [m])) (by intro j v X Y _ _ _ _ _ hG h; exact h.below hG) ?_ ?_
  · intro vs X hC hB hA
    try simp only [List.cons_append, List.nil_append, List.getD_cons_zero, List.getD_cons_succ, List.forall_mem_cons, List.not_mem_nil, false_implies, implies_true, and_true] at hA
    simp only [List.getD_cons_zero, List.getD_cons_succ, putL, dstOf, List.foldl_nil, List.foldl_cons, List.getElem?_toArray, List.getElem?_cons_zero, List.getElem?_cons_succ, Option.bind_some, Act.put, List.setIfInBounds_toArray, List.set_cons_zero, List.set_cons_succ]
    try simp only [hA]
    have hbx := (hC.block _ (blk_lt H0.out)).trans H0.out
    have hby := mark_bytes (o := 0) hbx (m := m) (fun j hj => by rw [Nat.zero_add, List.getElem?_map, List.getElem?_eq_getElem hj]; rfl) 16
    rw [HM.out] at hby
    have HR := Lib.hid (rows_one X _ m 25 hby)
    clear hbx hby
    go_wp2_with fail
    exact ⟨_, rfl, (Below.refl _ _).alloc (Nat.le_refl _) _, HR.out⟩
  simp only [List.cons_append, List.nil_append]
  iterate 1
    (apply steps_fx
     · intro vs X hC hB hA
       try simp only [List.cons_append, List.nil_append, List.getD_cons_zero, List.getD_cons_succ, List.forall_mem_cons, List.not_mem_nil, false_implies, implies_true, and_true] at hA
       simp only [List.getD_cons_zero, List.getD_cons_succ, putL, dstOf, List.foldl_nil, List.foldl_cons, List.getElem?_toArray, List.getElem?_cons_zero, List.getElem?_cons_succ, Option.bind_some, Act.put, List.setIfInBounds_toArray, List.set_cons_zero, List.set_cons_succ]
       try simp only [hA]
       go_wp2_with fail
       first
       | exact ⟨_, rfl, Below.refl _ _, rfl⟩
       | ((with_reducible refine (hash_any _ _ _ [m] X hA.2 (by simp [HM.out]) (by simp)).mono ?_); rintro e w' ⟨rfl, hB⟩; go_wp2_with fail; exact ⟨_, rfl, hB, rfl⟩)
     simp only [List.cons_append, List.nil_append])
  repeat
    (apply steps_fx
     · intro vs X hC hB hA
       try simp only [List.cons_append, List.nil_append, List.getD_cons_zero, List.getD_cons_succ, List.forall_mem_cons, List.not_mem_nil, false_implies, implies_true, and_true] at hA
       simp only [List.getD_cons_zero, List.getD_cons_succ, putL, dstOf, List.foldl_nil, List.foldl_cons, List.getElem?_toArray, List.getElem?_cons_zero, List.getElem?_cons_succ, Option.bind_some, Act.put, List.setIfInBounds_toArray, List.set_cons_zero, List.set_cons_succ]
       try simp only [hA]
       go_wp2_with fail
       first
       | exact ⟨_, rfl, Below.refl _ _, rfl⟩
     simp only [List.cons_append, List.nil_append])
  refine steps_nil ?_
  intro vs X hC hA
  rw [(fun (l : List Oper) (h : l.length = 5) => (by rw [h]; rfl : List.range l.length = [0, 1, 2, 3, 4])) _ rfl]
  simp only [List.getD_cons_zero, List.getD_cons_succ, putL, dstOf, List.foldl_nil, List.foldl_cons, List.getElem?_toArray, List.getElem?_cons_zero, List.getElem?_cons_succ, Option.bind_some, Act.put, List.setIfInBounds_toArray, List.set_cons_zero, List.set_cons_succ]
  have e4 : vs 4 = .int .u64 (U (hash8 m)) := (hA 4 (by decide)).trans (by simp [hash8])
  rw [e4]
  clear hA e4
  have hB := HB.out.trans (hC.mono HB.out.size)
  have j1 := (hC.block _ (blk_lt H1.out)).trans H1.out
  have j2 := (hC.block _ (blk_lt H2.out)).trans H2.out
  have HB2 := Lib.hid hB
  have J1 := Lib.hid j1
  have J2 := Lib.hid j2
  clear hC hB j1 j2 H0 H1 H2 HB
  obtain ⟨h, hh⟩ : ∃ h, hash8 m = h := ⟨_, rfl⟩
  rw [hh] at J1 J2 ⊢
  go_wp2_with fail
  go_loopw [7, 16] (fun _ c wr => ∃ i : Nat, i ≤ 4 ∧ c = .int .i64 i ∧ Hid (wr.heap[w.heap.size + 2]? = some (.cells (arr4 (plN h n) i).toArray 44 (0, 0))) ∧ Hid (wr.heap[w.heap.size + 1]? = some (.cells (arr4 (plN h n) 0).toArray 44 (0, 0))) ∧ Hid (Below w.heap.size w wr)) (fun _ c _ => 4 - (intOf c).toNat)
  case atStart => exact ⟨0, by omega, rfl, J2, J1, HB2⟩
  case round =>
    obtain ⟨i, hi, rfl, HA, HZ, HB⟩ := hrel
    by_cases hil : i < 4
    · have e1 : decide ((i : Int) < 4) = true := decide_eq_true (by omega)
      have e16 : (i : Int) < 4 := by omega
      have n0 : 0 < n := by have := HN.out.1; omega
      have nn : (0 : Int) < (n : Int) := by omega
      have nb : (n : Int) ≤ 8192 := HN.out.2.1
      obtain ⟨x, hx⟩ : ∃ x, h.toNat / 2 ^ (16 * i) % 65536 = x := ⟨_, rfl⟩
      have x0 : (0 : Int) ≤ (x : Int) := Int.natCast_nonneg _
      have x1 : (x : Int) < 65536 := by omega
      have f1 : bits .and .u64 (U h / 2 ^ (16 * i)) 65535 = (x : Int) := and_mask h (16 * i) 16 x (by omega) (by omega) hx
      have f2 : (x : Int) % (n : Int) = ((plN h n i : Nat) : Int) := by unfold plN; rw [hx]; exact (Int.natCast_emod _ _).symm
      have hcl := cell_at HA.out i
      have hgt : (arr4 (plN h n) i)[i]? = some (.int .i64 0) := by unfold arr4; rw [List.getElem?_map, List.getElem?_range hil]; simp
      rw [hgt] at hcl
      have hf := free_of HA.out i
      have K0 := set_cell i (.int .i64 ((plN h n i : Nat) : Int)) HA.out
      rw [arr4_set _ _ hil] at K0
      have K1 := (Below.heap_setCell wr ⟨w.heap.size + 2, i, none⟩ (.int .i64 ((plN h n i : Nat) : Int)) (w.heap.size + 1) (by simp)).trans HZ.out
      have K2 := HB.out.setCell (p := ⟨w.heap.size + 2, i, none⟩) (by dsimp only; omega) (.int .i64 ((plN h n i : Nat) : Int))
      have KK0 := Lib.hid K0
      have KK1 := Lib.hid K1
      have KK2 := Lib.hid K2
      clear K0 K1 K2 hx hgt
      go_wp2_with fail
      go_roundw
      case rel => exact ⟨i + 1, by omega, by go_num, KK0, KK1, KK2⟩
      case measure => simp [intOf]; omega
    · have e1 : decide ((i : Int) < 4) = false := decide_eq_false (by omega)
      obtain rfl : i = 4 := by omega
      have hp : arr4 (plN h n) 4 = plV h n := rfl
      have HA' := HA.out
      rw [hp] at HA'
      have hl := run_loadAt_mid wr (w.heap.size + 2) 0 44 (plV h n) _ (blk_all HA') Try.underlying44 rfl (by kernel_rfl)
      have hs := run_storeAt_mid (P := Try.prog) wr (w.heap.size + 1) 0 44 (plV h n).toArray (blk_there HZ.out _ _ (by simp [arr4, plV])) (by kernel_rfl) (all_oneCell_toArray (by intro v hv; simp only [plV, List.mem_cons, List.not_mem_nil, or_false] at hv; rcases hv with rfl | rfl | rfl | rfl <;> rfl))
      have hz := heap_setCells (w.heap.size + 1) 44 (0, 0) (plV h n) 0 _ wr HZ.out (by simp [arr4, plV])
      rw [splice_all (by simp [arr4, plV])] at hz
      have hB' := Below.setCells HB.out (w.heap.size + 1) 0 (plV h n) (by omega)
      have HZ2 := Lib.hid hz
      clear hz HA'
      go_wp2_with (first | (refine wpList_load_at rfl _ _ rfl rfl (hl) ?_) | (refine wpList_store_at rfl _ _ _ rfl rfl rfl (hs) ?_))
      exact bodyPost_ret (v := .agg (plV h n).toArray) (results_cell_row rfl _ _ (w.heap.size + 1) 44 (plV h n).toArray (0, 0) _ rfl HZ2.out Try.underlying44 rfl (by kernel_rfl)) rfl ⟨rfl, hB'⟩
end Go.Proofs.Ytehfinjcfjobeaa
