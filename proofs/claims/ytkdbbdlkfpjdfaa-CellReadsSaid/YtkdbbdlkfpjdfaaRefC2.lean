/- The document's bytes of a cell.
   Conditions: those that each theorem names. -/
import Derived.Test.YtkdbbdlkfpjdfaaRefC1
namespace Go.Proofs.Ytkdbbdlkfpjdfaa
set_option maxRecDepth 100000
set_option linter.unusedVariables false
set_option linter.unusedSimpArgs false
open Go.RowKit Go.Rg
set_option linter.unusedVariables false
attribute [local go_sem] cellV ba_app
theorem mb_nb (h : UInt64) (k : Nat) (hk : k < 8) : mb h k = nb h (7 - k) := by
  apply UInt8.toNat_inj.1
  have e : (mb h k).toNat = h.toNat / 2 ^ (8 * (7 - k)) % 256 := by
    have := mb_wrap h k hk
    rw [IntKind.wrap_u8] at this
    unfold U at this
    have h2 : ((h.toNat : Int) / 2 ^ (8 * (7 - k))) = ((h.toNat / 2 ^ (8 * (7 - k)) : Nat) : Int) := by rw [Int.natCast_ediv, Int.natCast_pow]; rfl
    rw [h2] at this
    omega
  rw [e]
  unfold nb
  rw [UInt8.toNat_ofNat', show (256 : Nat) = 2 ^ 8 from rfl, ← Nat.pow_mul]
theorem eight_eq (h : UInt64) : eightB h 8 = eightL h := by
  unfold eightL
  rw [show List.range 8 = [0, 1, 2, 3, 4, 5, 6, 7] from rfl]
  simp only [List.map_cons, List.map_nil, eightB]
  rw [mb_nb h 0 (by omega), mb_nb h 1 (by omega), mb_nb h 2 (by omega), mb_nb h 3 (by omega), mb_nb h 4 (by omega), mb_nb h 5 (by omega), mb_nb h 6 (by omega), mb_nb h 7 (by omega)]
set_option maxHeartbeats 2000000 in
theorem refcbytes_any (c : Ce) (hc : c.ok) (w : World) : Calls Try.prog 26 #[.agg c.vals.toArray] w fun e w' => e = .returned (str c.bytes) ∧ Below w.heap.size w w' := by
  have hnl : (numN (zigN c.n).toNat).length ≤ 9 := by rw [numN_length]; unfold sizeN; split; omega; have := digits_lt 8 (zigN c.n).toNat (by have := (zigN c.n).toNat_lt; omega); omega
  have k1 := fun X => ref_zig c.n X ⟨hc.lo, hc.hi⟩
  have k2 := fun X => ref_number (zigN c.n) X
  have k3 := fun X => eight_any c.h X
  rw [eight_eq] at k3
  have hbb : c.bytes = numN (zigN c.n).toNat ++ c.m ++ eightL c.h := rfl
  have hl8 := eightL_length c.h
  have hm := hc.m
  generalize numN (zigN c.n).toNat = a at *
  generalize hee : eightL c.h = b8 at *
  have hl1 := len_ok a c.m (by omega)
  have hl2 := len_ok (a ++ c.m) b8 (by rw [List.length_append]; omega)
  rw [List.length_append] at hl2
  go_enter Try.func26, Try.ntmps26
  have hbx : CellAt w.heap.size 26 c (w.alloc (.cells c.vals.toArray 26)) := World.alloc_heap_new _ _
  have hB : Below w.heap.size w (w.alloc (.cells c.vals.toArray 26)) := (Below.refl _ _).alloc (Nat.le_refl _) _
  replace hbb := Lib.hid hbb
  replace hee := Lib.hid hee
  replace hl8 := Lib.hid hl8
  clear hnl
  go_wp2_with fail
  generalize w.alloc (.cells c.vals.toArray 26) = w1 at *
  have lc0 : ∀ X, Below w1.heap.size w1 X → X.cell? ⟨w.heap.size, 0, none⟩ = some (.int .i64 c.n) := fun X hX => (hbx.below hX (blk_lt hbx)).n
  have lc17 : ∀ X, Below w1.heap.size w1 X → X.cell? ⟨w.heap.size, 17, none⟩ = some (.int .u64 (U c.h)) := fun X hX => (hbx.below hX (blk_lt hbx)).h hm
  have hcv : ∀ X, Below w1.heap.size w1 X → (convert 41 9 (.slice (some ⟨w.heap.size, 1, none⟩) 16 16)).run Try.prog X = .ok (str c.m) X := fun X hX => by
    have hby := mark_bytes (o := 1) (hbx.below hX (blk_lt hbx)) (m := c.m) (fun j hj => by rw [c.get_m j (byteV c.m[j]) (by rw [List.getElem?_map, List.getElem?_eq_getElem hj]; rfl), List.getElem?_eq_getElem hj]; rfl) 16
    rw [hm] at hby
    exact conv_bytes hby
  have hm2 : (9223372036854775807 < a.length + 16) = False := by rw [← hm]; exact hl1
  have HM := Lib.hid hm
  replace k1 := Lib.hid k1
  replace k2 := Lib.hid k2
  replace k3 := Lib.hid k3
  replace hB := Lib.hid hB
  clear hbx hm
  refine wp_region_calm_lit (by kernel_rfl) (by kernel_rfl) ?_
  repeat
    first
    | (apply calm_want
       · first | rfl | (go_simp; done)
       · intro X hX
         go_simp
         first
           | done
           | rfl
           | (refine ⟨trivial, ?_⟩; (first | with_reducible exact calls_calm_same hX (k1.out X) | with_reducible exact calls_calm hX (k2.out X) | with_reducible exact calls_calm hX (k3.out X)); done)
           | ((first | with_reducible exact calls_calm_same hX (k1.out X) | with_reducible exact calls_calm hX (k2.out X) | with_reducible exact calls_calm hX (k3.out X)); done)
       intro K hK
       go_simp
       refine hK _ ?_
       clear hK K)
    | (apply calm_skip
       · first | rfl | (go_simp; done)
       intro K hK
       go_simp
       refine hK _ ?_
       clear hK K)
  refine wpQuiet_nil ?_
  intro X hX
  have hBw := hB.out.trans (hX.mono hB.out.size)
  clear lc0 lc17 hcv hX
  go_wp2_with fail
  go_ret
  exact ⟨by rw [hbb.out, List.append_assoc]; rfl, hBw⟩
end Go.Proofs.Ytkdbbdlkfpjdfaa
