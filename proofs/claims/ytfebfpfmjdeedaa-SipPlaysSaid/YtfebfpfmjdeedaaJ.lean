/- The first word that the laws of package sip ask: the published vector.
   Conditions: those that each theorem names. -/
import Derived.Test.YtfebfpfmjdeedaaH
import Derived.Lib.SlBytesConst
import Derived.Stop.BytesEq
namespace Go.Proofs.Ytfebfpfmjdeedaa
set_option linter.unusedVariables false
open Go.RowKit Go.Rg
attribute [local go_sem] Rg.q_add Rg.q_add' Rg.q_xor Rg.q_or Rg.q_and ba_app
def seven : List UInt8 := [0, 1, 2, 3, 4, 5, 6]
def eight8 : List UInt8 := [7, 8, 9, 10, 11, 12, 13, 14]
def kA : UInt64 := 506097522914230528
def kB : UInt64 := 1084818905618843912
set_option maxRecDepth 100000 in
theorem vec_nil : hashS kA kB [] = 8246050544436514353 := by decide +kernel
set_option maxRecDepth 100000 in
theorem vec_15 : (((newP kA kB).write seven).write eight8).sum = 11613035633349379557 := by decide +kernel
theorem vec_n : (((newP kA kB).write seven).write eight8).n = 15 := by decide +kernel
theorem vec_seed : sA 3 = 3 ∧ sB 3 = 18446744073709551612 := by decide +kernel
set_option maxRecDepth 100000 in
theorem vec_mark : markB [97] ≠ List.replicate 16 0 := by decide +kernel
theorem mark97 : markB [97] = [42, 146, 3, 220, 188, 64, 41, 35, 190, 6, 240, 177, 186, 46, 185, 191] := by decide +kernel
theorem equal_bytes (xs ys : List UInt8) (hx : xs.length = 16) (hy : ys.length = 16) (w : World) :
    (Op.equalIn 10000 32 (markV xs) (markV ys)).run Try.prog w = .ok (xs == ys) w :=
  run_equalIn_bytes w 9998 32 5 16 rfl rfl (fun w => by kernel_rfl) xs ys hx hy
theorem mark97_neq (w : World) : (Op.equalIn 10000 32 (.agg #[.int .u8 42, .int .u8 146, .int .u8 3, .int .u8 220, .int .u8 188, .int .u8 64, .int .u8 41, .int .u8 35, .int .u8 190, .int .u8 6, .int .u8 240, .int .u8 177, .int .u8 186, .int .u8 46, .int .u8 185, .int .u8 191]) (.agg #[.int .u8 0, .int .u8 0, .int .u8 0, .int .u8 0, .int .u8 0, .int .u8 0, .int .u8 0, .int .u8 0, .int .u8 0, .int .u8 0, .int .u8 0, .int .u8 0, .int .u8 0, .int .u8 0, .int .u8 0, .int .u8 0])).run Try.prog w = .ok false w :=
  equal_bytes [42, 146, 3, 220, 188, 64, 41, 35, 190, 6, 240, 177, 186, 46, 185, 191] (List.replicate 16 0) rfl rfl w
theorem bytes_lit (w : World) (l : List UInt8) (f : Nat × Nat) : BytesAt (w.alloc (.cells (l.map byteV).toArray 5 f)) (.slice (some ⟨w.heap.size, 0, none⟩) l.length l.length) l := by
  refine ⟨_, _, rfl, fun i hi => ⟨w.heap.size, 0, rfl, by simp, ?_⟩⟩
  have := World.alloc_heap_new w (.cells (l.map byteV).toArray 5 f)
  simp only [World.cell?, this]
  simp [hi, byteV]
theorem rows_one (w : World) (u : Value) (l : List UInt8) (T : TypeId) (h : BytesAt w u l) : RowsAt (w.alloc (.cells #[u] T)) (.slice (some ⟨w.heap.size, 0, none⟩) 1 1) [l] := by
  refine ⟨_, _, rfl, fun i hi => ⟨w.heap.size, 0, u, rfl, by simp, ?_, ?_⟩⟩
  · have := World.alloc_heap_new w (.cells #[u] T)
    obtain rfl : i = 0 := by simpa using hi
    simp only [World.cell?, this]
    rfl
  · obtain rfl : i = 0 := by simpa using hi
    exact h.below ((Below.refl _ _).alloc (Nat.le_refl _) _)
set_option maxRecDepth 100000 in
set_option maxHeartbeats 2000000 in
theorem first_any (w : World) : Calls Try.prog 7 #[] w fun e w' => e = .returned (.bool true) ∧ Below w.heap.size w w' := by
  have u1 : (506097522914230528 : Int) = U kA := rfl
  have u2 : (1084818905618843912 : Int) = U kB := rfl
  have HU1 := Lib.hid u1
  have HU2 := Lib.hid u2
  clear u1 u2
  go_enter Try.func7, Try.ntmps7
  go_wp2_with fail
  rw [HU1.out, HU2.out]
  have hk := World.alloc_heap_new w (.cells #[.int .u64 (U kA), .int .u64 (U kB)] 24)
  have hB0 : Below w.heap.size w (w.alloc (.cells #[.int .u64 (U kA), .int .u64 (U kB)] 24)) := (Below.refl _ _).alloc (Nat.le_refl _) _
  have hz0 : (w.alloc (.cells #[.int .u64 (U kA), .int .u64 (U kB)] 24)).heap.size = w.heap.size + 1 := by simp
  generalize w.alloc (.cells #[.int .u64 (U kA), .int .u64 (U kB)] 24) = w0 at *
  refine (new_any kA kB w0).mono ?_
  rintro e w1 ⟨b, rfl, hbn, hb, hB1⟩
  have HB := Lib.hid hb
  have HK := Lib.hid ((hB1.block _ (by omega)).trans hk)
  have HB1 := hB0.trans (hB1.mono hB0.size)
  have hz1 := hB1.size
  clear hb hk hB1 hB0
  go_wp2_with fail
  have hb1 : BytesAt (w1.alloc (.cells #[.int .u8 0, .int .u8 1, .int .u8 2, .int .u8 3, .int .u8 4, .int .u8 5, .int .u8 6] 5)) (.slice (some ⟨w1.heap.size, 0, none⟩) 7 7) seven := bytes_lit w1 seven (0, 0)
  have hA1 : Below w1.heap.size w1 (w1.alloc (.cells #[.int .u8 0, .int .u8 1, .int .u8 2, .int .u8 3, .int .u8 4, .int .u8 5, .int .u8 6] 5)) := (Below.refl _ _).alloc (Nat.le_refl _) _
  have hbl : b < w1.heap.size := (Array.getElem?_eq_some_iff.1 HB.out).1
  generalize w1.alloc (.cells #[.int .u8 0, .int .u8 1, .int .u8 2, .int .u8 3, .int .u8 4, .int .u8 5, .int .u8 6] 5) = w2 at *
  refine (write_any (newP kA kB) seven _ 60 b w2 ((hA1.block _ hbl).trans HB.out) hb1 (fun q n c e _ => by cases e; dsimp only; omega) (by decide)).mono ?_
  rintro e w3 ⟨⟨v3, rfl⟩, hb3, ho3⟩
  have hn7 : ((newP kA kB).write seven).n = 7 := by rw [Sp.write_n]; rfl
  have hs15 := vec_15
  have hn15 := vec_n
  generalize (newP kA kB).write seven = p7 at *
  have hk3 := (ho3.block w.heap.size (by omega)).trans ((hA1.block _ (by omega)).trans HK.out)
  have hbb3 := (HB1.trans (hA1.mono (HB1.size))).trans (ho3.below'.mono (show w.heap.size ≤ b by omega))
  have hz3 := Nat.le_of_eq ho3.size.symm
  have hz2 := hA1.size
  have HB3 := Lib.hid hb3
  have HK3 := Lib.hid hk3
  clear hb1 hA1 HB HK HB1 hb3 ho3 hk3
  go_wp2_with fail
  have hb1 : BytesAt (w3.alloc (.cells #[.int .u8 7, .int .u8 8, .int .u8 9, .int .u8 10, .int .u8 11, .int .u8 12, .int .u8 13, .int .u8 14] 5)) (.slice (some ⟨w3.heap.size, 0, none⟩) 8 8) eight8 := bytes_lit w3 eight8 (0, 0)
  have hA1 : Below w3.heap.size w3 (w3.alloc (.cells #[.int .u8 7, .int .u8 8, .int .u8 9, .int .u8 10, .int .u8 11, .int .u8 12, .int .u8 13, .int .u8 14] 5)) := (Below.refl _ _).alloc (Nat.le_refl _) _
  generalize w3.alloc (.cells #[.int .u8 7, .int .u8 8, .int .u8 9, .int .u8 10, .int .u8 11, .int .u8 12, .int .u8 13, .int .u8 14] 5) = w4 at *
  refine (write_any p7 eight8 _ 60 b w4 ((hA1.block _ (by omega)).trans HB3.out) hb1 (fun q n c e _ => by cases e; dsimp only; omega) (by rw [hn7]; show 7 + 8 ≤ 1000000000000; omega)).mono ?_
  rintro e w5 ⟨⟨v5, rfl⟩, hb5, ho5⟩
  generalize p7.write eight8 = p15 at *
  have HS15 := Lib.hid hs15
  have HN15 := Lib.hid hn15
  clear hs15 hn15 hn7
  have hk5 := (ho5.block w.heap.size (by omega)).trans ((hA1.block _ (by omega)).trans HK3.out)
  have hbb5 := (hbb3.trans (hA1.mono (hbb3.size))).trans (ho5.below'.mono (show w.heap.size ≤ b by omega))
  have c0 : w5.cell? ⟨w.heap.size, 0, none⟩ = some (.int .u64 (U kA)) := by simp [World.cell?, hk5]
  have c1 : w5.cell? ⟨w.heap.size, 1, none⟩ = some (.int .u64 (U kB)) := by simp [World.cell?, hk5]
  have HB5 := Lib.hid hb5
  clear hb1 hA1 HB3 HK3 hb5 ho5 hbb3 hk5
  go_wp2_with fail
  refine (hash_any kA kB _ [] w5 ⟨none, 0, rfl, fun i hi => by simp at hi⟩ (by decide) (by decide)).mono ?_
  rintro e w6 ⟨rfl, hB6⟩
  rw [show ([] : List (List UInt8)).flatten = [] from rfl, vec_nil]
  have hU : U 8246050544436514353 = 8246050544436514353 := rfl
  rw [hU]
  clear hU c0 c1
  go_wp2_with fail
  have hb6 := (hB6.block b (Array.getElem?_eq_some_iff.1 HB5.out).1).trans HB5.out
  have hbb6 := hbb5.trans (hB6.mono hbb5.size)
  have HB6 := Lib.hid hb6
  have hb5s := (Array.getElem?_eq_some_iff.1 hb6).1
  clear hB6 hb6 hbb5
  refine (sum_any _ 60 b w6 HB6.out).mono ?_
  rintro e w7 ⟨rfl, hB7⟩
  rw [HS15.out]
  have hU : U 11613035633349379557 = 11613035633349379557 := rfl
  rw [hU]
  clear hU
  go_wp2_with fail
  have hb7 := (hB7.block b hb5s).trans HB6.out
  have hbb7 := hbb6.trans (hB7.mono hbb6.size)
  refine (len_any _ 60 b w7 hb7).mono ?_
  rintro e w8 ⟨rfl, rfl⟩
  rw [HN15.out]
  clear HB5 HB6 hb7 hB7
  go_wp2_with fail
  refine (seed_any 3 w7).mono ?_
  rintro e w9 ⟨rfl, hB9⟩
  have hbb9 := hbb7.trans (hB9.mono hbb7.size)
  have hsv : seedV 3 = .agg #[.int .u64 3, .int .u64 18446744073709551612] := by show keyV (sA 3) (sB 3) = _; rw [vec_seed.1, vec_seed.2]; rfl
  rw [hsv]
  clear hsv hB9
  have hcs := fun (w : World) => Lib.run_convert_bytes_const (P := Try.prog) w 37 5 #[.int .u8 97] 1 1 rfl rfl
  go_wp2_with fail
  have hb1 : BytesAt (w9.alloc (.cells #[.int .u8 97] 5 (1, 2))) (.slice (some ⟨w9.heap.size, 0, none⟩) 1 1) [97] := bytes_lit w9 [97] (1, 2)
  have hA1 : Below w9.heap.size w9 (w9.alloc (.cells #[.int .u8 97] 5 (1, 2))) := (Below.refl _ _).alloc (Nat.le_refl _) _
  have hsz : (w9.alloc (.cells #[.int .u8 97] 5 (1, 2))).heap.size = w9.heap.size + 1 := by simp
  generalize w9.alloc (.cells #[.int .u8 97] 5 (1, 2)) = wa at *
  have hr := rows_one wa _ [97] 37 hb1
  rw [hsz] at hr
  clear hsz
  have hbb10 := (hbb9.trans (hA1.mono hbb9.size))
  have hbb11 := hbb10.alloc hbb10.size (.cells #[.slice (some ⟨w9.heap.size, 0, none⟩) 1 1] 37)
  refine (mark_any _ [[97]] _ hr (by decide) (by decide)).mono ?_
  rintro e wb ⟨rfl, hBb⟩
  have hm : markV (markB [[97]].flatten) = .agg #[.int .u8 42, .int .u8 146, .int .u8 3, .int .u8 220, .int .u8 188, .int .u8 64, .int .u8 41, .int .u8 35, .int .u8 190, .int .u8 6, .int .u8 240, .int .u8 177, .int .u8 186, .int .u8 46, .int .u8 185, .int .u8 191] := by rw [show [[(97 : UInt8)]].flatten = [97] from rfl, mark97]; rfl
  rw [hm]
  have hbb := hbb11.trans (hBb.mono hbb11.size)
  have HBB := Lib.hid hbb
  clear hm hb1 hA1 hr hbb10 hbb11 hBb hbb hbb9 hbb7 hbb6
  have hne := mark97_neq
  go_wp2_with fail
  go_ret
  exact ⟨rfl, HBB.out⟩
end Go.Proofs.Ytfebfpfmjdeedaa
