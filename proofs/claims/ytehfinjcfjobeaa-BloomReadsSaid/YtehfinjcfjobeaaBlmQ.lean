/- The document's answers of law 15: sizes and places.
   Conditions: those that each theorem names. -/
import Derived.Test.YtehfinjcfjobeaaBlmI
import Derived.Test.YtehfinjcfjobeaaBs
import Derived.Test.YtehfinjcfjobeaaSq
import Derived.IntWalk
namespace Go.Proofs.Ytehfinjcfjobeaa
set_option maxRecDepth 100000
set_option linter.unusedVariables false
set_option linter.unusedSimpArgs false
open Go.RowKit Go.Rg
attribute [local go_sem] Rg.q_add Rg.q_add' Rg.q_xor Rg.q_or Rg.q_and markV
theorem rbfits_yes (n : Int) (h : fitsB n) (w : World) : Calls Try.prog 17 #[.int .i64 n] w fun e w' => e = .returned (.bool true) ∧ w = w' := by
  obtain ⟨h1, h2, h3⟩ := h
  have h0 : 0 ≤ n := by omega
  go_enter Try.func17, Try.ntmps17
  go_wp2_with fail
  go_ret
  exact ⟨rfl, rfl⟩
theorem rbfits_no (n : Int) (h : ¬ fitsB n) (w : World) : Calls Try.prog 17 #[.int .i64 n] w fun e w' => e = .returned (.bool false) ∧ w = w' := by
  unfold fitsB at h
  by_cases h1 : 64 ≤ n
  · by_cases h2 : n ≤ 8192
    · have h3 : ¬ n % 8 = 0 := fun e => h ⟨h1, h2, e⟩
      have h0 : 0 ≤ n := by omega
      have h4 : (n % 8 == 0) = false := by simpa using h3
      clear h h3
      go_enter Try.func17, Try.ntmps17
      go_wp2_with fail
      go_ret
      exact ⟨rfl, rfl⟩
    · clear h
      go_enter Try.func17, Try.ntmps17
      go_wp2_with fail
      go_ret
      exact ⟨rfl, rfl⟩
  · clear h
    go_enter Try.func17, Try.ntmps17
    go_wp2_with fail
    go_ret
    exact ⟨rfl, rfl⟩
def hJ (h : UInt64) (i : Nat) : UInt64 := UInt64.ofNat (h.toNat / 2 ^ (16 * i))
theorem hJ_toNat (h : UInt64) (i : Nat) : (hJ h i).toNat = h.toNat / 2 ^ (16 * i) := by
  unfold hJ
  rw [UInt64.toNat_ofNat', Nat.mod_eq_of_lt (Nat.lt_of_le_of_lt (Nat.div_le_self _ _) h.toNat_lt)]
theorem hJ_zero (h : UInt64) : hJ h 0 = h := by apply UInt64.toNat_inj.1; rw [hJ_toNat]; simp
theorem hJ_succ (h : UInt64) (i : Nat) : U (hJ h i) / 65536 = U (hJ h (i + 1)) := by
  unfold U
  rw [hJ_toNat, hJ_toNat, show (65536 : Int) = ((65536 : Nat) : Int) from rfl, ← Int.natCast_ediv, Nat.div_div_eq_div_mul, show 16 * (i + 1) = 16 * i + 16 by omega, Nat.pow_add]
set_option maxHeartbeats 2000000 in
theorem refplaces4 (n : Nat) (hn : fitsB (n : Int)) (m : List UInt8) (hm : m.length = 16) (w : World) : Calls Try.prog 21 #[.int .i64 (n : Int), markV m] w fun e w' => e = .returned (.agg (plV (hash8 m) n).toArray) ∧ Below w.heap.size w w' := by
  unfold markV
  have t1 : 64 ≤ n := by have := hn.1; omega
  have t2 : n ≤ 8192 := by have := hn.2.1; omega
  clear hn
  go_enter Try.func21, Try.ntmps21
  go_wp2_with fail
  obtain ⟨w1, hw1⟩ : ∃ w1, w1 = (w.alloc (.cells (m.map byteV).toArray 24)).alloc (.cells (arr4 (plN (hash8 m) n) 0).toArray 44) := ⟨_, rfl⟩
  change Code.wp _ _ _ _ ((w.alloc (.cells (m.map byteV).toArray 24)).alloc (.cells (arr4 (plN (hash8 m) n) 0).toArray 44))
  rw [← hw1]
  have h0 : w1.heap[w.heap.size]? = some (.cells (m.map byteV).toArray 24 (0, 0)) := by
    rw [hw1]
    exact (Below.heap_alloc _ _ _ (by simp)).trans (World.alloc_heap_new _ _)
  have h1 : w1.heap[w.heap.size + 1]? = some (.cells (arr4 (plN (hash8 m) n) 0).toArray 44 (0, 0)) := by
    rw [hw1, show w.heap.size + 1 = (w.alloc (.cells (m.map byteV).toArray 24)).heap.size by simp]
    exact World.alloc_heap_new _ _
  have hB : Below w.heap.size w w1 := by
    rw [hw1]
    exact ((Below.refl _ _).alloc (Nat.le_refl _) _).alloc (by simp) _
  have hcv : ∀ X, Below w1.heap.size w1 X → (convert 25 9 (.slice (some ⟨w.heap.size, 0, none⟩) 16 16)).run Try.prog X = .ok (str m) X := fun X hX => by
    have hby := mark_bytes (o := 0) ((hX.block _ (blk_lt h0)).trans h0) (m := m) (fun j hj => by rw [Nat.zero_add, List.getElem?_map, List.getElem?_eq_getElem hj]; rfl) 16
    rw [hm] at hby
    exact conv_bytes hby
  have r1 := fun X => plain_seed_any 8 X
  have r2 := fun X => plain_hash_any (sA 8) (sB 8) m X (by omega)
  rw [← hash_eq] at r2
  obtain ⟨h, hh⟩ : ∃ h, hashS (sA 8) (sB 8) m = h := ⟨_, rfl⟩
  have hh4 : hash8 m = h := hh
  rw [hh] at r2
  rw [hh4] at h1
  have R1 := Lib.hid r1
  have R2 := Lib.hid r2
  have H1 := Lib.hid h1
  have HB := Lib.hid hB
  have HH := Lib.hid hh4
  clear hB h0 h1 hm hw1 r1 r2 hh hh4
  refine wp_region_calm_lit (by kernel_rfl) (by kernel_rfl) ?_
  repeat
    first
    | (apply calm_want
       · first | rfl | (go_simp; done)
       · intro X hX
         go_simp
         first
           | done
           | rfl
           | (refine ⟨trivial, ?_⟩; (first | exact calls_calm hX (R1.out X) | exact calls_calm hX (R2.out X)); done)
           | ((first | exact calls_calm hX (R1.out X) | exact calls_calm hX (R2.out X)); done)
       intro K hK
       go_simp
       refine hK _ ?_
       clear hK K)
    | (apply calm_skip
       · first | rfl | (go_simp; done)
       intro K hK
       go_simp
       refine hK _ ?_
       clear hK K)
  refine wpQuiet_nil ?_
  intro X hX
  have hBw := HB.out.trans (hX.mono HB.out.size)
  have j1 := (hX.block _ (blk_lt H1.out)).trans H1.out
  clear hcv
  obtain ⟨w2, hw2⟩ : ∃ w2, w2 = X.alloc (.cells (arr4 (plN h n) 0).toArray 44) := ⟨_, rfl⟩
  have k2 : w2.heap[X.heap.size]? = some (.cells (arr4 (plN h n) 0).toArray 44 (0, 0)) := by rw [hw2]; exact World.alloc_heap_new _ _
  have k1 : w2.heap[w.heap.size + 1]? = some (.cells (arr4 (plN h n) 0).toArray 44 (0, 0)) := by rw [hw2]; exact (Below.heap_alloc _ _ _ (blk_lt j1)).trans j1
  have kb : Below w.heap.size w w2 := by rw [hw2]; exact hBw.alloc hBw.size _
  have hne : w.heap.size + 1 ≠ X.heap.size := by have := blk_lt j1; omega
  have hwX : w.heap.size ≤ X.heap.size := hBw.size
  have K1 := Lib.hid k1
  have K2 := Lib.hid k2
  have KB := Lib.hid kb
  have HW2 := Lib.hid hw2
  clear hX hBw j1 k1 k2 kb hw2 H1 HB
  go_wp2_with fail
  change Code.wp _ _ _ _ (X.alloc (.cells (arr4 (plN h n) 0).toArray 44))
  rw [← HW2.out]
  clear HW2
  generalize X.heap.size = kx at *
  go_loopw [5, 7] (fun u c wr => ∃ i : Nat, i ≤ 4 ∧ c = .int .i64 i ∧ u = .int .u64 (U (hJ h i)) ∧ Hid (wr.heap[kx]? = some (.cells (arr4 (plN h n) i).toArray 44 (0, 0))) ∧ Hid (wr.heap[w.heap.size + 1]? = some (.cells (arr4 (plN h n) 0).toArray 44 (0, 0))) ∧ Hid (Below w.heap.size w wr)) (fun _ c _ => 4 - (intOf c).toNat)
  case atStart => exact ⟨0, by omega, rfl, by rw [hJ_zero], K2, K1, KB⟩
  case round =>
    obtain ⟨i, hi, rfl, rfl, HA, HZ, HB⟩ := hrel
    by_cases hil : i < 4
    · have e1 : decide ((i : Int) < 4) = true := decide_eq_true (by omega)
      have e16 : (i : Int) < 4 := by omega
      have nn : (0 : Int) < (n : Int) := by omega
      have nb : (n : Int) ≤ 8192 := by omega
      obtain ⟨x, hx⟩ : ∃ x, h.toNat / 2 ^ (16 * i) % 65536 = x := ⟨_, rfl⟩
      have x0 : (0 : Int) ≤ (x : Int) := Int.natCast_nonneg _
      have x1 : (x : Int) < 65536 := by omega
      have f1 : U (hJ h i) % 65536 = (x : Int) := by unfold U; rw [hJ_toNat, ← hx]; exact (Int.natCast_emod _ _).symm
      have f6 : U (hJ h i) / 65536 = U (hJ h (i + 1)) := hJ_succ h i
      have u0 : (0 : Int) ≤ U (hJ h i) := Int.natCast_nonneg _
      have u1 : U (hJ h i) < 18446744073709551616 := by unfold U; have := (hJ h i).toNat_lt; omega
      obtain ⟨y, hy⟩ : ∃ y, x % n = y := ⟨_, rfl⟩
      have hyt : y < n := by rw [← hy]; exact Nat.mod_lt _ (by omega)
      have f2 : (x : Int) % (n : Int) = (y : Int) := by rw [← hy]; exact (Int.natCast_emod _ _).symm
      have hpc : plN h n i = y := by unfold plN; rw [hx, hy]
      have hcl := cell_at HA.out i
      have hgt : (arr4 (plN h n) i)[i]? = some (.int .i64 0) := by unfold arr4; rw [List.getElem?_map, List.getElem?_range hil]; simp
      rw [hgt] at hcl
      have hf := free_of HA.out i
      have K0 := set_cell i (.int .i64 ((plN h n i : Nat) : Int)) HA.out
      rw [arr4_set _ _ hil] at K0
      have K1 := (Below.heap_setCell wr ⟨kx, i, none⟩ (.int .i64 ((plN h n i : Nat) : Int)) (w.heap.size + 1) hne).trans HZ.out
      have K2 := HB.out.setCell (p := ⟨kx, i, none⟩) (by dsimp only; omega) (.int .i64 ((plN h n i : Nat) : Int))
      rw [hpc] at K0 K1 K2
      obtain ⟨hv, hhv⟩ : ∃ hv, U (hJ h i) = hv := ⟨_, rfl⟩
      obtain ⟨hv2, hhv2⟩ : ∃ hv2, U (hJ h (i + 1)) = hv2 := ⟨_, rfl⟩
      rw [hhv, hhv2] at f6
      rw [hhv] at f1 u0 u1 ⊢
      have KK0 := Lib.hid K0
      have KK1 := Lib.hid K1
      have KK2 := Lib.hid K2
      have HV2 := Lib.hid hhv2
      have F6 := Lib.hid f6
      clear f6 K0 K1 K2 hx hgt hy hpc hhv hhv2
      go_wp2_with fail
      go_roundw
      case rel => exact ⟨i + 1, by omega, by go_num, by rw [HV2.out, F6.out], KK0, KK1, KK2⟩
      case measure => simp [intOf]; omega
    · have e1 : decide ((i : Int) < 4) = false := decide_eq_false (by omega)
      obtain rfl : i = 4 := by omega
      have hp : arr4 (plN h n) 4 = plV h n := rfl
      have HA' := HA.out
      rw [hp] at HA'
      have hl := run_loadAt_mid wr kx 0 44 (plV h n) _ (blk_all HA') Try.underlying44 rfl (by kernel_rfl)
      have hs := run_storeAt_mid (P := Try.prog) wr (w.heap.size + 1) 0 44 (plV h n).toArray (blk_there HZ.out _ _ (by simp [arr4, plV])) (by kernel_rfl) (all_oneCell_toArray (by intro v hv; simp only [plV, List.mem_cons, List.not_mem_nil, or_false] at hv; rcases hv with rfl | rfl | rfl | rfl <;> rfl))
      have hz := heap_setCells (w.heap.size + 1) 44 (0, 0) (plV h n) 0 _ wr HZ.out (by simp [arr4, plV])
      rw [splice_all (by simp [arr4, plV])] at hz
      have hB' := Below.setCells HB.out (w.heap.size + 1) 0 (plV h n) (by omega)
      have HZ2 := Lib.hid hz
      clear hz HA'
      go_wp2_with (first | (refine wpList_load_at rfl _ _ rfl rfl (hl) ?_) | (refine wpList_store_at rfl _ _ _ rfl rfl rfl (hs) ?_))
      exact bodyPost_ret (v := .agg (plV h n).toArray) (results_cell_row rfl _ _ (w.heap.size + 1) 44 (plV h n).toArray (0, 0) _ rfl HZ2.out Try.underlying44 rfl (by kernel_rfl)) rfl ⟨by rw [HH.out], hB'⟩
end Go.Proofs.Ytehfinjcfjobeaa
