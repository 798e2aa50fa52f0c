/- The document's order of marks: Less, Marks, Has, Right.
   Conditions: those that each theorem names. -/
import Derived.Test.YtkdbbdlkfpjdfaaBs
import Derived.Test.YtkdbbdlkfpjdfaaCloneM
import Derived.Test.YtkdbbdlkfpjdfaaCelE
import Derived.Test.YtkdbbdlkfpjdfaaIbC
import Derived.IntWalk
import Derived.Deep.CutBlock
import Derived.Deep.DeepCutAuto
namespace Go.Proofs.Ytkdbbdlkfpjdfaa
set_option maxRecDepth 100000
set_option linter.unusedVariables false
set_option linter.unusedSimpArgs false
open Go.RowKit Go.Rg
set_option linter.unusedVariables false
theorem ba_list (l : List UInt8) : (⟨l.toArray⟩ : ByteArray).toList = l := by
  simp [go_sem]
theorem bytes_of_mark {X : World} {g : Nat} {T : TypeId} {m : List UInt8} (h : X.heap[g]? = some (.cells (m.map byteV).toArray T (0, 0))) (hm : m.length = 16) : (convert 41 9 (.slice (some ⟨g, 0, none⟩) 16 16)).run Try.prog X = .ok (str m) X := by
  have hby := mark_bytes (o := 0) h (m := m) (fun j hj => by rw [Nat.zero_add, List.getElem?_map, List.getElem?_eq_getElem hj]; rfl) 16
  rw [hm] at hby
  exact conv_bytes hby
set_option maxHeartbeats 1000000 in
theorem less_any (a b : List UInt8) (ha : a.length = 16) (hb : b.length = 16) (w : World) : Calls Try.prog 82 #[.agg (a.map byteV).toArray, .agg (b.map byteV).toArray] w fun e w' => e = .returned (.bool (Op.bytesLess a b)) ∧ Below w.heap.size w w' := by
  go_enter Try.func82, Try.ntmps82
  go_wp2_with fail
  have h1 : ((w.alloc (.cells (a.map byteV).toArray 23)).alloc (.cells (b.map byteV).toArray 23)).heap[w.heap.size]? = some (.cells (a.map byteV).toArray 23 (0, 0)) := (Below.heap_alloc _ _ _ (by simp)).trans (World.alloc_heap_new _ _)
  have h2 : ((w.alloc (.cells (a.map byteV).toArray 23)).alloc (.cells (b.map byteV).toArray 23)).heap[w.heap.size + 1]? = some (.cells (b.map byteV).toArray 23 (0, 0)) := by
    rw [show w.heap.size + 1 = (w.alloc (.cells (a.map byteV).toArray 23)).heap.size by simp]
    exact World.alloc_heap_new _ _
  have hB : Below w.heap.size w ((w.alloc (.cells (a.map byteV).toArray 23)).alloc (.cells (b.map byteV).toArray 23)) := ((Below.refl _ _).alloc (Nat.le_refl _) _).alloc (by simp) _
  generalize (w.alloc (.cells (a.map byteV).toArray 23)).alloc (.cells (b.map byteV).toArray 23) = w1 at *
  have c1 := fun X (hX : Below w1.heap.size w1 X) => bytes_of_mark ((hX.block _ (blk_lt h1)).trans h1) ha
  have c2 := fun X (hX : Below w1.heap.size w1 X) => bytes_of_mark ((hX.block _ (blk_lt h2)).trans h2) hb
  have e1 := ba_list a
  have e2 := ba_list b
  have HB := Lib.hid hB
  clear hB h1 h2 ha hb
  refine wp_region_calm_lit (by kernel_rfl) (by kernel_rfl) ?_
  repeat
    first
    | (apply calm_want
       · first | rfl | (go_simp; done)
       · intro X hX
         go_simp
         first
           | done
           | rfl
           | (refine ⟨trivial, ?_⟩; (fail); done)
           | ((fail); done)
       intro K hK
       go_simp
       refine hK _ ?_
       clear hK K)
    | (apply calm_skip
       · first | rfl | (go_simp; done)
       intro K hK
       go_simp
       refine hK _ ?_
       clear hK K)
  refine wpQuiet_nil ?_
  intro X hX
  have hBw := HB.out.trans (hX.mono HB.out.size)
  clear c1 c2 hX
  go_wp2_with fail
  go_ret
  exact ⟨rfl, hBw⟩
theorem contains_snoc (l : List (List UInt8)) (i : Nat) (x m : List UInt8) (hx : l[i]? = some x) : (l.take (i + 1)).contains m = ((l.take i).contains m || (m == x)) := by
  rw [List.take_add_one, hx, Bool.eq_iff_iff]; simp
set_option maxHeartbeats 2000000 in
theorem has_any (v : Value) (l : List (List UInt8)) (m : List UInt8) (hm : m.length = 16) (w : World) (h : MarksAt w v l) (h16 : Marks16 l) (hn : l.length ≤ 1000000000) :
    Calls Try.prog 85 #[v, .agg (m.map byteV).toArray] w fun e w' => e = .returned (.bool (l.contains m)) ∧ Below w.heap.size w w' := by
  obtain ⟨p, cap, rfl, hcap, _⟩ := id h
  have HM := Lib.hid h
  have H16 := Lib.hid h16
  have Hm := Lib.hid hm
  clear h h16 hm
  go_enter Try.func85, Try.ntmps85
  go_wp2_with fail
  have h1 : (w.alloc (.cells (m.map byteV).toArray 23)).heap[w.heap.size]? = some (.cells (m.map byteV).toArray 23 (0, 0)) := World.alloc_heap_new _ _
  have hB : Below w.heap.size w (w.alloc (.cells (m.map byteV).toArray 23)) := (Below.refl _ _).alloc (Nat.le_refl _) _
  generalize w.alloc (.cells (m.map byteV).toArray 23) = w1 at *
  have H1 := Lib.hid h1
  have HB := Lib.hid hB
  clear h1 hB
  go_loopw [6, 9] (fun _ c wr => ∃ i : Nat, i ≤ l.length ∧ c = .int .i64 i ∧ Hid ((l.take i).contains m = false) ∧ Hid (Below w1.heap.size w1 wr)) (fun _ c _ => l.length - (intOf c).toNat)
  case atStart => exact ⟨0, by omega, rfl, Lib.hid (by simp), Lib.hid (Below.refl _ _)⟩
  case round =>
    obtain ⟨i, hi, rfl, HC, HW⟩ := hrel
    by_cases hil : i < l.length
    · have e1 : decide ((i : Int) < (l.length : Int)) = true := decide_eq_true (by omega)
      obtain ⟨x, hx⟩ : ∃ x, l[i]? = some x := ⟨_, List.getElem?_eq_getElem hil⟩
      have hx16 := H16.out x (List.mem_of_getElem? hx)
      have hBw := HB.out.trans (HW.out.mono HB.out.size)
      obtain ⟨g, o, hpe, _, hld⟩ := HM.out.load H16.out hx
      subst hpe
      have hL := hld wr hBw
      have bm := boxedM wr x hx16
      have a1 := bm.a1
      have l1 := bm.l1
      have hB5 := HW.out.trans (bm.B.mono HW.out.size)
      have l2 := mark_whole ((hB5.block _ (blk_lt H1.out)).trans H1.out) Hm.out
      have ev := fun p q X => eqv_mark x m hx16 Hm.out p q X
      unfold markV at ev
      have hsn := contains_snoc l i x m hx
      rw [HC.out, Bool.false_or] at hsn
      have HS := Lib.hid hsn
      have B5 := Lib.hid hB5
      clear hsn hB5 bm hld hx hx16 hBw HC HW
      by_cases hxm : x = m
      · have e2 : (x == m) = true := by simp [hxm]
        have HX := Lib.hid hxm
        simp only [e2] at ev
        clear hxm e2
        go_wp2_with (first | (refine wpList_load_at rfl _ _ rfl rfl (hL) ?_) | (refine wpList_store_at rfl _ _ _ rfl rfl rfl (a1) ?_) | (refine wpList_load_at rfl _ _ rfl rfl (l1) ?_) | (refine wpList_load_at rfl _ _ rfl rfl (l2) ?_) | (refine wpList_bin_at rfl rfl rfl rfl (ev _ _ _) ?_))
        go_ret
        have hS := HS.out
        rw [HX.out, beq_self_eq_true] at hS
        refine ⟨?_, HB.out.trans (B5.out.mono HB.out.size)⟩
        rw [show l.contains m = true from List.contains_iff_mem.2 (List.mem_of_mem_take (List.contains_iff_mem.1 hS))]; rfl
      · have e2 : (x == m) = false := by simpa using hxm
        have HX := Lib.hid hxm
        simp only [e2] at ev
        clear hxm e2
        go_wp2_with (first | (refine wpList_load_at rfl _ _ rfl rfl (hL) ?_) | (refine wpList_store_at rfl _ _ _ rfl rfl rfl (a1) ?_) | (refine wpList_load_at rfl _ _ rfl rfl (l1) ?_) | (refine wpList_load_at rfl _ _ rfl rfl (l2) ?_) | (refine wpList_bin_at rfl rfl rfl rfl (ev _ _ _) ?_))
        go_roundw
        case rel => exact ⟨i + 1, by omega, by go_num, Lib.hid (by rw [HS.out]; simp; exact fun e => HX.out e.symm), B5⟩
        case measure => simp [intOf]; omega
    · have e1 : decide ((i : Int) < (l.length : Int)) = false := decide_eq_false (by omega)
      have hC := HC.out
      rw [List.take_of_length_le (by omega)] at hC
      have HC2 := Lib.hid hC
      clear hC
      go_wp2_with fail
      go_ret
      exact ⟨by rw [HC2.out]; rfl, HB.out.trans (HW.out.mono HB.out.size)⟩
/-! ### The document's set of marks: an insertion sort -/
def atR (m : List UInt8) (out : List (List UInt8)) : Nat → Nat
  | 0 => 0
  | k + 1 => if Op.bytesLess m (out.getD k []) then atR m out k else k + 1
def dupR (m : List UInt8) (out : List (List UInt8)) (k : Nat) : Bool := decide (0 < k) && (out.getD (k - 1) [] == m)
def insM (out : List (List UInt8)) (m : List UInt8) : List (List UInt8) :=
  if dupR m out (atR m out out.length) then out else out.take (atR m out out.length) ++ [m] ++ out.drop (atR m out out.length)
def marksR (l : List (List UInt8)) : List (List UInt8) := l.foldl insM []
theorem marksR_succ (l : List (List UInt8)) (i : Nat) (x : List UInt8) (hx : l[i]? = some x) : marksR (l.take (i + 1)) = insM (marksR (l.take i)) x := by
  unfold marksR
  rw [List.take_add_one, hx, List.foldl_append]; rfl
theorem atR_le (m : List UInt8) (out : List (List UInt8)) : ∀ k, atR m out k ≤ k
  | 0 => Nat.le_refl _
  | k + 1 => by unfold atR; split; exact Nat.le_succ_of_le (atR_le m out k); exact Nat.le_refl _
theorem insM_mem {out : List (List UInt8)} {m x : List UInt8} (h : x ∈ insM out m) : x ∈ out ∨ x = m := by
  unfold insM at h
  split at h
  · exact .inl h
  · rcases List.mem_append.1 h with h | h
    · rcases List.mem_append.1 h with h | h
      · exact .inl (List.mem_of_mem_take h)
      · exact .inr (by simpa using h)
    · exact .inl (List.mem_of_mem_drop h)
theorem insM_16 {out : List (List UInt8)} {m : List UInt8} (h : Marks16 out) (hm : m.length = 16) : Marks16 (insM out m) := by
  intro x hx
  rcases insM_mem hx with h' | rfl
  · exact h x h'
  · exact hm
theorem insM_length (out : List (List UInt8)) (m : List UInt8) : (insM out m).length ≤ out.length + 1 := by
  have := atR_le m out out.length
  unfold insM; split <;> simp; omega
theorem foldl_ins (l : List (List UInt8)) : ∀ out, Marks16 out → Marks16 l → Marks16 (l.foldl insM out) ∧ (l.foldl insM out).length ≤ out.length + l.length := by
  induction l with
  | nil => intro out h _; exact ⟨h, Nat.le_refl _⟩
  | cons m t ih =>
    intro out h h2
    obtain ⟨a, b⟩ := ih (insM out m) (insM_16 h (h2 m (by simp))) (fun x hx => h2 x (by simp [hx]))
    have := insM_length out m
    exact ⟨a, by rw [List.foldl_cons, List.length_cons]; omega⟩
theorem marksR_16 {l : List (List UInt8)} (h : Marks16 l) : Marks16 (marksR l) := (foldl_ins l [] (fun x hx => by cases hx) h).1
theorem marksR_length {l : List (List UInt8)} (h : Marks16 l) : (marksR l).length ≤ l.length := by
  have := (foldl_ins l [] (fun x hx => by cases hx) h).2
  simpa [marksR] using this
theorem infoEM : InfoE 23 16 16 := by
  obtain ⟨i0, hi0, hz0, hz1, hz2⟩ := info_parts infoM
  exact ⟨i0, _, hi0, hz0, hz1, hz2, rfl⟩
theorem mk_mark (a : List UInt8) (ha : a.length = 16) (w : World) : (Instr.buildSlice 28 1 #[(0, .agg (a.map byteV).toArray)]).run Try.prog w = .ok (.slice (some ⟨w.heap.size, 0, none⟩) 1 1) (w.alloc (.cells (a.map byteV).toArray 23)) := by
  obtain ⟨a0, a1, a2, a3, a4, a5, a6, a7, a8, a9, b0, b1, b2, b3, b4, b5, rfl⟩ := list16 ha
  kernel_rfl
theorem RowM.load {lo : Nat} {w : World} {p : Option Addr} {n cap : Nat} {ms : List (List UInt8)} (h : RowF lo 23 16 w (.slice p n cap) (rawM ms)) (hm : Marks16 ms) {i : Nat} {m : List UInt8} (hi : ms[i]? = some m) :
    ∃ g o, p = some ⟨g, o, none⟩ ∧ g < w.heap.size ∧ ∀ X, Below w.heap.size w X → (Instr.loadAt 23 (.pointer (some ⟨g, o + i * 16, none⟩))).run Try.prog X = .ok (.agg (m.map byteV).toArray) X :=
  (marksAt_iff.2 h.at).load hm hi
set_option maxHeartbeats 4000000 in
theorem refmarks_any (v : Value) (l : List (List UInt8)) (w : World) (h : MarksAt w v l) (h16 : Marks16 l) (hn : l.length ≤ 1000000) :
    Calls Try.prog 42 #[v] w fun e w' => ∃ v', e = .returned v' ∧ RowF w.heap.size 23 16 w' v' (rawM (marksR l)) ∧ Below w.heap.size w w' := by
  obtain ⟨p, cap, rfl, hcap, _⟩ := id h
  have HM := Lib.hid h
  have H16 := Lib.hid h16
  clear h h16
  go_enter Try.func42, Try.ntmps42
  go_wp2_with fail
  go_loopw [3, 5, 6, 7, 10] (fun u _ _ _ c wr => ∃ i : Nat, i ≤ l.length ∧ c = .int .i64 i ∧ ∃ q d, u = .slice q (marksR (l.take i)).length d ∧ Hid (RowF w.heap.size 23 16 wr (.slice q (marksR (l.take i)).length d) (rawM (marksR (l.take i)))) ∧ Hid (Below w.heap.size w wr)) (fun _ _ _ _ c _ => l.length - (intOf c).toNat)
  case atStart => exact ⟨0, by omega, rfl, none, 0, rfl, Lib.hid (RowF.nil _ _ _ _), Lib.hid (Below.refl _ _)⟩
  case round =>
    obtain ⟨i, hi, rfl, q, d, rfl, HR, HW⟩ := hrel
    by_cases hil : i < l.length
    · have e1 : decide ((i : Int) < (l.length : Int)) = true := decide_eq_true (by omega)
      obtain ⟨x, hx⟩ : ∃ x, l[i]? = some x := ⟨_, List.getElem?_eq_getElem hil⟩
      have hx16 := H16.out x (List.mem_of_getElem? hx)
      have ho16 : Marks16 (marksR (l.take i)) := marksR_16 (fun y hy => H16.out y (List.mem_of_mem_take hy))
      have hol : (marksR (l.take i)).length ≤ 1000000 := by
        have := marksR_length (l := l.take i) (fun y hy => H16.out y (List.mem_of_mem_take hy))
        rw [List.length_take] at this
        omega
      have hsn := marksR_succ l i x hx
      obtain ⟨out, hout⟩ : ∃ out, marksR (l.take i) = out := ⟨_, rfl⟩
      rw [hout] at HR ho16 hol hsn ⊢
      obtain ⟨g, o, hpe, _, hld⟩ := HM.out.load H16.out hx
      subst hpe
      have hL := hld wr HW.out
      have bm := boxedM wr x hx16
      have a1 := bm.a1
      have HBX := Lib.hid bm.b
      have R5 := Lib.hid (HR.out.below bm.B)
      have B5 := Lib.hid (HW.out.trans (bm.B.mono HW.out.size))
      have HSN := Lib.hid hsn
      have HO16 := Lib.hid ho16
      have HX16 := Lib.hid hx16
      clear hsn ho16 hx16 bm hld hx hout HR HW
      go_upto_block 2 with (first | (refine wpList_load_at rfl _ _ rfl rfl (hL) ?_) | (refine wpList_store_at rfl _ _ _ rfl rfl rfl (a1) ?_))
      clear hL a1
      generalize (wr.alloc (.cells zeroMark 23)).setCells wr.heap.size 0 (x.map byteV) = w5 at *
      generalize wr.heap.size = kx at *
      go_cut [6] (fun a wx => a = .int .i64 (atR x out out.length : Nat) ∧ Hid (Below w5.heap.size w5 wx))
      case first =>
        go_wp2_with fail
        go_loopw [6] (fun a wy => ∃ k : Nat, k ≤ out.length ∧ a = .int .i64 k ∧ Hid (atR x out out.length = atR x out k) ∧ Hid (Below w5.heap.size w5 wy)) (fun a _ => (intOf a).toNat)
        case atStart => exact ⟨_, Nat.le_refl _, rfl, Lib.hid rfl, Lib.hid (Below.refl _ _)⟩
        case round =>
          obtain ⟨k, hk, rfl, HK, HY⟩ := hrel
          have lx := fun X (hX : Below wr.heap.size wr X) => mark_whole (((HY.out.trans (hX.mono HY.out.size)).block _ (blk_lt HBX.out)).trans HBX.out) HX16.out
          cases k with
          | zero =>
            have hk0 : atR x out out.length = 0 := HK.out
            go_wp2_with fail
            refine wp_region_calm_lit (by kernel_rfl) (by kernel_rfl) ?_
            repeat
              first
              | (apply calm_want
                 · first | rfl | (go_simp; done)
                 · intro X hX
                   go_simp
                   first
                     | done
                     | rfl
                     | (refine ⟨trivial, ?_⟩; (fail); done)
                     | ((fail); done)
                 intro K hK
                 go_simp
                 refine hK _ ?_
                 clear hK K)
              | (apply calm_skip
                 · first | rfl | (go_simp; done)
                 intro K hK
                 go_simp
                 refine hK _ ?_
                 clear hK K)
            refine wpQuiet_nil ?_
            intro X hX
            go_wp2_with fail
            go_meet
            case rel => exact ⟨by rw [hk0]; rfl, Lib.hid (HY.out.trans (hX.mono HY.out.size))⟩
          | succ k =>
            obtain ⟨y, hy⟩ : ∃ y, out[k]? = some y := ⟨_, List.getElem?_eq_getElem (by omega)⟩
            have hy16 := HO16.out y (List.mem_of_getElem? hy)
            obtain ⟨g2, o2, hq, _, hld⟩ := RowM.load (R5.out.below HY.out) HO16.out hy
            subst hq
            have hL := hld
            have kl := fun X => less_any x y HX16.out hy16 X
            have i1 : (0 : Int) < ((k + 1 : Nat) : Int) := by omega
            have i4 : IntKind.i64.wrap (k : Int) = (k : Int) := IntWalk.i64_in _ (by omega)
            have i3 : (k : Int) < (out.length : Int) := by omega
            have k0 : (0 : Int) ≤ (k : Int) := Int.natCast_nonneg _
            have k1 : (k : Int) ≤ 1000000 := by omega
            have hat : atR x out (k + 1) = if Op.bytesLess x y then atR x out k else k + 1 := by
              show (if Op.bytesLess x (out.getD k []) then _ else _) = _
              rw [List.getD_eq_getElem?_getD, hy]; rfl
            replace hat := Lib.hid hat
            replace hy := Lib.hid hy
            cases hbl : Op.bytesLess x y with
            | true =>
              rw [hbl] at kl
              replace hbl := Lib.hid hbl
              replace kl := Lib.hid kl
              replace lx := Lib.hid lx
              replace hL := Lib.hid hL
              go_wp2_with fail
              refine wp_region_calm_lit (by kernel_rfl) (by kernel_rfl) ?_
              repeat
                first
                | (apply calm_want
                   · first | rfl | (go_simp; done)
                   · intro X hX
                     first
                     | exact calm_load rfl rfl (lx.out X hX) hX
                     | exact calm_load rfl rfl (hL.out X hX) hX
                     | (go_simp
                        first
                          | done
                          | rfl
                          | (refine ⟨trivial, ?_⟩; (with_reducible exact calls_calm hX (kl.out X)); done)
                          | ((with_reducible exact calls_calm hX (kl.out X)); done))
                   intro K hK
                   go_simp
                   refine hK _ ?_
                   clear hK K)
                | (apply calm_skip
                   · first | rfl | (go_simp; done)
                   intro K hK
                   go_simp
                   refine hK _ ?_
                   clear hK K)
              refine wpQuiet_nil ?_
              intro X hX
              have hBX := Lib.hid (HY.out.trans (hX.mono HY.out.size))
              clear kl lx hL hX
              go_wp2_with fail
              go_roundw
              case rel => exact ⟨k, by omega, by go_num, Lib.hid (by rw [HK.out, hat.out, if_pos hbl.out]), hBX⟩
              case measure => simp [intOf]
            | false =>
              rw [hbl] at kl
              have hfin : atR x out out.length = k + 1 := by rw [HK.out, hat.out, if_neg (by rw [hbl]; simp)]
              replace hbl := Lib.hid hbl
              replace kl := Lib.hid kl
              replace lx := Lib.hid lx
              replace hL := Lib.hid hL
              replace hfin := Lib.hid hfin
              go_wp2_with fail
              refine wp_region_calm_lit (by kernel_rfl) (by kernel_rfl) ?_
              repeat
                first
                | (apply calm_want
                   · first | rfl | (go_simp; done)
                   · intro X hX
                     first
                     | exact calm_load rfl rfl (lx.out X hX) hX
                     | exact calm_load rfl rfl (hL.out X hX) hX
                     | (go_simp
                        first
                          | done
                          | rfl
                          | (refine ⟨trivial, ?_⟩; (with_reducible exact calls_calm hX (kl.out X)); done)
                          | ((with_reducible exact calls_calm hX (kl.out X)); done))
                   intro K hK
                   go_simp
                   refine hK _ ?_
                   clear hK K)
                | (apply calm_skip
                   · first | rfl | (go_simp; done)
                   intro K hK
                   go_simp
                   refine hK _ ?_
                   clear hK K)
              refine wpQuiet_nil ?_
              intro X hX
              have hBX := Lib.hid (HY.out.trans (hX.mono HY.out.size))
              clear kl lx hL hX
              go_wp2_with fail
              go_meet
              case rel => exact ⟨by rw [hfin.out]; go_num, hBX⟩
      case rest =>
        obtain ⟨rfl, HX⟩ := hcut
        have hKl := atR_le x out out.length
        have hins : insM out x = if dupR x out (atR x out out.length) then out else out.take (atR x out out.length) ++ [x] ++ out.drop (atR x out out.length) := rfl
        obtain ⟨K, hKd⟩ : ∃ K, atR x out out.length = K := ⟨_, rfl⟩
        rw [hKd] at hKl hins ⊢
        replace hins := Lib.hid hins
        replace hKd := Lib.hid hKd
        generalize wc = w6 at *
        go_upto_region 8 with fail
        go_cut [39] (fun b wx => b = .bool (dupR x out K) ∧ Hid (Below w5.heap.size w5 wx))
        case first =>
          have lx := fun X (hX : Below w6.heap.size w6 X) => mark_whole (((HX.out.trans (hX.mono HX.out.size)).block _ (blk_lt HBX.out)).trans HBX.out) HX16.out
          cases K with
          | zero =>
            have hd : dupR x out 0 = false := rfl
            replace hd := Lib.hid hd
            go_wp2_with fail
            refine wp_region_calm_lit (by kernel_rfl) (by kernel_rfl) ?_
            repeat
              first
              | (apply calm_want
                 · first | rfl | (go_simp; done)
                 · intro X hX
                   go_simp
                   first
                     | done
                     | rfl
                     | (refine ⟨trivial, ?_⟩; (fail); done)
                     | ((fail); done)
                 intro K hK
                 go_simp
                 refine hK _ ?_
                 clear hK K)
              | (apply calm_skip
                 · first | rfl | (go_simp; done)
                 intro K hK
                 go_simp
                 refine hK _ ?_
                 clear hK K)
            refine wpQuiet_nil ?_
            intro X hX
            have hBX := Lib.hid (HX.out.trans (hX.mono HX.out.size))
            clear hX lx
            go_wp2_with fail
            go_meet
            case rel => exact ⟨by rw [hd.out], hBX⟩
          | succ k =>
            obtain ⟨y, hy⟩ : ∃ y, out[k]? = some y := ⟨_, List.getElem?_eq_getElem (by omega)⟩
            have hy16 := HO16.out y (List.mem_of_getElem? hy)
            obtain ⟨g2, o2, hq, _, hld⟩ := RowM.load (R5.out.below HX.out) HO16.out hy
            subst hq
            have hL := hld
            have i1 : (0 : Int) < ((k + 1 : Nat) : Int) := by omega
            have i4 : IntKind.i64.wrap (k : Int) = (k : Int) := IntWalk.i64_in _ (by omega)
            have i3 : (k : Int) < (out.length : Int) := by omega
            have k0 : (0 : Int) ≤ (k : Int) := Int.natCast_nonneg _
            have k1 : (k : Int) ≤ 1000000 := by omega
            have hd : dupR x out (k + 1) = (y == x) := by
              unfold dupR
              rw [Nat.add_sub_cancel, List.getD_eq_getElem?_getD, hy]
              simp
            have ev := fun p q X => eqv_mark y x hy16 HX16.out p q X
            unfold markV at ev
            obtain ⟨b, hb⟩ : ∃ b, (y == x) = b := ⟨_, rfl⟩
            simp only [hb] at ev hd
            replace ev := Lib.hid ev
            replace hL := Lib.hid hL
            replace lx := Lib.hid lx
            replace hd := Lib.hid hd
            clear hb hy
            go_wp2_with fail
            refine wp_region_calm_lit (by kernel_rfl) (by kernel_rfl) ?_
            repeat
              first
              | (apply calm_want
                 · first | rfl | (go_simp; done)
                 · intro X hX
                   first
                   | exact calm_load rfl rfl (lx.out X hX) hX
                   | exact calm_load rfl rfl (hL.out X hX) hX
                   | exact calm_bin rfl rfl rfl (ev.out _ _ X) hX
                   | (go_simp
                      first
                        | done
                        | rfl
                        | (refine ⟨trivial, ?_⟩; (fail); done)
                        | ((fail); done))
                 intro K hK
                 go_simp
                 refine hK _ ?_
                 clear hK K)
              | (apply calm_skip
                 · first | rfl | (go_simp; done)
                 intro K hK
                 go_simp
                 refine hK _ ?_
                 clear hK K)
            refine wpQuiet_nil ?_
            intro X hX
            have hBX := Lib.hid (HX.out.trans (hX.mono HX.out.size))
            clear hX lx hL ev
            go_wp2_with fail
            go_meet
            case rel => exact ⟨by rw [hd.out], hBX⟩
        case rest =>
          obtain ⟨rfl, HX2⟩ := hcut
          clear HX
          generalize wc = w7 at *
          have R7 := R5.out.below HX2.out
          have B7 := B5.out.trans (HX2.out.mono B5.out.size)
          have HB7 := (HX2.out.block _ (blk_lt HBX.out)).trans HBX.out
          replace R7 := Lib.hid R7
          replace B7 := Lib.hid B7
          replace HB7 := Lib.hid HB7
          clear R5 B5 HBX HX2
          cases hd : dupR x out K with
          | true =>
            rw [hd, if_pos rfl] at hins
            have hnx : marksR (l.take (i + 1)) = out := by rw [HSN.out, hins.out]
            replace hd := Lib.hid hd
            replace hnx := Lib.hid hnx
            go_wp2_with fail
            go_roundw
            case rel => exact ⟨i + 1, by omega, by go_num, q, d, by rw [hnx.out], by rw [hnx.out]; exact R7, B7⟩
            case measure => simp [intOf]; omega
          | false =>
            rw [hd, if_neg (by simp)] at hins
            have hnx : marksR (l.take (i + 1)) = out.take K ++ [x] ++ out.drop K := by rw [HSN.out, hins.out]
            replace hd := Lib.hid hd
            replace hnx := Lib.hid hnx
            have hBa : Below w7.heap.size w7 (w7.alloc (.cells #[] 23)) := (Below.refl _ _).alloc (Nat.le_refl _) _
            have hr0 : RowF w.heap.size 23 16 (w7.alloc (.cells #[] 23)) (.slice (some ⟨w7.heap.size, 0, none⟩) 0 0) [] := ⟨OwnV.made 23 16 w7 [] (Sized.nil _) (by decide), fun g hg => by cases hg; exact B7.out.size⟩
            have hs0 := (R7.out.below hBa).at
            have hol2 : out.length = (rawM out).length := (rawM_length out).symm
            have hs1 : SlV 16 (w7.alloc (.cells #[] 23)) (.slice q K d) (rawM (out.take K)) := by
              rw [hol2] at hs0
              have := hs0.take K (by rw [rawM_length]; exact hKl)
              unfold rawM at this ⊢
              rwa [List.map_take]
            have hz1 : Sized 16 (rawM (out.take K)) := rawM_sized (fun m hm => HO16.out m (List.mem_of_mem_take hm))
            have hb1 : (rawM (out.take K)).length ≤ 1000000 := by rw [rawM_length, List.length_take]; omega
            have hlo : w.heap.size ≤ (w7.alloc (.cells #[] 23)).heap.size := Nat.le_trans B7.out.size hBa.size
            have hKd2 : K ≤ d := by obtain ⟨p', c', e, hc, _⟩ := R7.out.at; injection e with _ _ e3; rw [rawM_length] at hc; omega
            replace hr0 := Lib.hid hr0
            replace hs1 := Lib.hid hs1
            replace hBa := Lib.hid hBa
            clear hs0 hol2
            go_wp2_with (at_builtin; refine wpList_appV rfl _ _ 28 rfl 23 16 16 Try.underlying28 infoEM (by omega) rfl hr0.out rfl hs1.out hz1 (by simp only [List.length_nil]; unfold maxLen; omega) (by simp only [List.length_nil]; omega) hlo ?_)
            intro v1 w8 hr1 hB1 hg1 hat1
            have hl8 : (rawM (out.take K)).length = K := by rw [rawM_length, List.length_take]; omega
            obtain ⟨p1, c1, rfl, _⟩ := hr1.shape
            simp only [List.nil_append, hl8] at hr1 hat1 ⊢
            have hp1 : ∀ k, (Value.slice p1 K c1).ownBlock = some k → w7.heap.size ≤ k := fun k hk => by
              rcases hat1 with e | e
              · rw [e] at hk; cases hk; exact Nat.le_refl _
              · rw [e] at hk; cases hk; simp
            have kp8 : ∀ k, k < w7.heap.size → w8.heap[k]? = w7.heap[k]? := fun k hk => (hg1.block k (by simp; omega) (fun e => by simp [Value.ownBlock] at e; omega)).trans (hBa.out.block k hk)
            have hs78 : w7.heap.size ≤ w8.heap.size := Nat.le_trans hBa.out.size hB1.size
            have R8 := R7.out.kept (fun g hg => kp8 g (R7.out.own.lt hg))
            have HB8 := (kp8 kx (blk_lt HB7.out)).trans HB7.out
            have B8 := (B7.out.alloc B7.out.size (.cells #[] 23)).trans hB1
            have hbl8 : ∀ g, (Value.slice q out.length d).ownBlock = some g → g < w7.heap.size := fun g hg => R7.out.own.lt hg
            have lx8 := mark_whole HB8 HX16.out
            have mk8 := mk_mark x HX16.out w8
            have hBm : Below w8.heap.size w8 (w8.alloc (.cells (x.map byteV).toArray 23)) := (Below.refl _ _).alloc (Nat.le_refl _) _
            have hr8 := hr1.below hBm
            have hs8 : SlV 16 (w8.alloc (.cells (x.map byteV).toArray 23)) (.slice (some ⟨w8.heap.size, 0, none⟩) 1 1) [x.map byteV] := SlV.lit (World.alloc_heap_new _ _) (Nat.le_refl _)
            have hz8 : Sized 16 [x.map byteV] := rawM_sized (ms := [x]) (fun m hm => by simp at hm; rw [hm]; exact HX16.out)
            have hlo8 : w.heap.size ≤ (w8.alloc (.cells (x.map byteV).toArray 23)).heap.size := Nat.le_trans B8.size hBm.size
            replace R8 := Lib.hid R8
            replace B8 := Lib.hid B8
            replace hr8 := Lib.hid hr8
            replace hs8 := Lib.hid hs8
            replace hBm := Lib.hid hBm
            replace hp1 := Lib.hid hp1
            replace kp8 := Lib.hid kp8
            replace hbl8 := Lib.hid hbl8
            clear hr1 hB1 hg1 hat1 R7 B7 HB7 HB8 hr0 hs1 hBa hlo
            go_wp2_with (first | (refine wpList_load_at rfl _ _ rfl rfl lx8 ?_) | (refine wpList_mk_w rfl (by go_simp) mk8 (by first | rfl | (go_simp; done)) ?_) | (at_builtin; refine wpList_appV rfl _ _ 28 rfl 23 16 16 Try.underlying28 infoEM (by omega) rfl hr8.out rfl hs8.out hz8 (by simp only [List.length_cons, List.length_nil]; unfold maxLen; omega) (by simp only [List.length_cons, List.length_nil]; omega) hlo8 ?_))
            intro v2 w9 hr2 hB2 hg2 hat2
            have kp9 : ∀ k, k < w7.heap.size → w9.heap[k]? = w8.heap[k]? := fun k hk => (hg2.block k (by simp; omega) (fun e => by have := hp1.out k e.symm; omega)).trans (hBm.out.block k (by omega))
            have R9 := R8.out.kept (fun g hg => kp9 g (hbl8.out g hg))
            have B9 := (B8.out.alloc B8.out.size (.cells (x.map byteV).toArray 23)).trans hB2
            have hs9 := R9.at
            have hol2 : out.length = (rawM out).length := (rawM_length out).symm
            obtain ⟨A, hA⟩ : ∃ A, (if d = K then q else q.map (fun x => x.add (K * 16))) = A := ⟨_, rfl⟩
            have hs10 : SlV 16 w9 (.slice A (out.length - K) (d - K)) (rawM (out.drop K)) := by
              rw [hol2] at hs9
              have := hs9.drop K (by rw [rawM_length]; exact hKl)
              rw [hA, rawM_length] at this
              unfold rawM at this ⊢
              rwa [List.map_drop]
            have hz9 : Sized 16 (rawM (out.drop K)) := rawM_sized (fun m hm => HO16.out m (List.mem_of_mem_drop hm))
            have hl9 : (rawM (out.take K) ++ [x.map byteV]).length + (rawM (out.drop K)).length ≤ 2000000 := by rw [List.length_append, hl8, rawM_length, List.length_drop]; simp; omega
            replace hs10 := Lib.hid hs10
            replace hr2 := Lib.hid hr2
            replace B9 := Lib.hid B9
            replace hl9 := Lib.hid hl9
            clear lx8 mk8 hs9 hol2 R9 R8 B8 hr8 hs8 hBm hB2 hg2 hat2 hlo8 hs78 kp9 kp8 hp1
            go_wp2_with (at_builtin; refine wpList_appV rfl _ _ 28 rfl 23 16 16 Try.underlying28 infoEM (by omega) rfl hr2.out rfl hs10.out hz9 (by have := hl9.out; unfold maxLen; omega) (by have := hl9.out; omega) B9.out.size ?_)
            intro v3 w10 hr3 hB3 _ _
            have B10 := B9.out.trans hB3
            have hmm : rawM (out.take K) ++ x.map byteV :: rawM (out.drop K) = rawM (marksR (l.take (i + 1))) := by
              rw [hnx.out]; unfold rawM; rw [List.map_append, List.map_append]; simp
            rw [hmm] at hr3
            obtain ⟨p3, c3, rfl, _⟩ := hr3.shape
            rw [rawM_length] at hr3 ⊢
            replace B10 := Lib.hid B10
            replace hr3 := Lib.hid hr3
            clear hmm hB3 hA hs10 hr2 B9 hl9
            go_wp2_with fail
            go_roundw
            case rel => exact ⟨i + 1, by omega, by go_num, p3, c3, rfl, hr3, B10⟩
            case measure => simp [intOf]; omega
    · have e1 : decide ((i : Int) < (l.length : Int)) = false := decide_eq_false (by omega)
      have hR := HR.out
      rw [List.take_of_length_le (by omega)] at hR
      replace hR := Lib.hid hR
      go_wp2_with fail
      go_ret
      exact ⟨_, rfl, by rw [List.take_of_length_le (by omega)]; exact hR.out, HW.out⟩
end Go.Proofs.Ytkdbbdlkfpjdfaa
