/- The document's fold of marks.
   Conditions: those that each theorem names. -/
import Derived.Test.YtkdbbdlkfpjdfaaMarks
namespace Go.Proofs.Ytkdbbdlkfpjdfaa
set_option maxRecDepth 100000
set_option linter.unusedVariables false
set_option linter.unusedSimpArgs false
open Go.RowKit Go.Rg
attribute [local go_sem] Rg.q_add Rg.q_add' Rg.q_xor Rg.q_or Rg.q_and markV cellV
set_option linter.unusedVariables false
def foldM (ms : List (List UInt8)) : List UInt8 := ms.foldl xorL (List.replicate 16 0)
theorem foldM_snoc (ms : List (List UInt8)) (m : List UInt8) : foldM (ms ++ [m]) = xorL (foldM ms) m := by simp [foldM]
theorem foldM_len_aux (ms : List (List UInt8)) : ∀ a : List UInt8, a.length = 16 → Marks16 ms → (ms.foldl xorL a).length = 16 := by
  induction ms with
  | nil => intro a h _; exact h
  | cons m t ih => intro a h hm; exact ih _ ((xorL_length (h.trans (hm m (by simp)).symm)).trans h) (fun y hy => hm y (by simp [hy]))
theorem foldM_len {ms : List (List UInt8)} (h : Marks16 ms) : (foldM ms).length = 16 := foldM_len_aux ms _ (by simp) h
theorem xorL_get {a b : List UInt8} {i : Nat} {x y : UInt8} (ha : a[i]? = some x) (hb : b[i]? = some y) : (xorL a b)[i]? = some (x ^^^ y) := by
  unfold xorL
  rw [List.getElem?_zipWith, ha, hb]
/-- What the fold's variable holds: the first i bytes done, the next one over j marks. -/
def FoldSt (b : Nat) (ms : List (List UInt8)) (i j : Nat) (X : World) : Prop :=
  ∃ L : List UInt8, L.length = 16 ∧ (∀ p, p < i → L[p]? = (foldM ms)[p]?) ∧ (L[i]? = (foldM (ms.take j))[i]?) ∧ (∀ p, i < p → p < 16 → L[p]? = some 0) ∧ X.heap[b]? = some (.cells (L.map byteV).toArray 23 (0, 0))
theorem FoldSt.next {b : Nat} {ms : List (List UInt8)} {i : Nat} {X : World} (h : FoldSt b ms i ms.length X) (h16 : Marks16 ms) : FoldSt b ms (i + 1) 0 X := by
  obtain ⟨L, hL, h1, h2, h3, h4⟩ := h
  refine ⟨L, hL, fun p hp => ?_, ?_, fun p hp => h3 p (by omega), h4⟩
  · by_cases e : p = i
    · rw [e, h2, List.take_length]
    · exact h1 p (by omega)
  · rw [List.take_zero]
    by_cases e : i + 1 < 16
    · rw [h3 _ (by omega) e]
      show _ = (List.replicate 16 (0 : UInt8))[i + 1]?
      rw [List.getElem?_replicate, if_pos e]
    · rw [List.getElem?_eq_none (by omega), List.getElem?_eq_none (by rw [foldM_len (fun _ h => by cases h)]; omega)]
theorem FoldSt.other {b : Nat} {ms : List (List UInt8)} {i j : Nat} {X Y : World} (h : FoldSt b ms i j X) (hy : Y.heap[b]? = X.heap[b]?) : FoldSt b ms i j Y := by
  obtain ⟨L, hL, h1, h2, h3, h4⟩ := h
  exact ⟨L, hL, h1, h2, h3, hy.trans h4⟩
theorem FoldSt.lt {b : Nat} {ms : List (List UInt8)} {i j : Nat} {X : World} (h : FoldSt b ms i j X) : b < X.heap.size := by
  obtain ⟨L, hL, h1, h2, h3, h4⟩ := h
  exact blk_lt h4
/-- One byte more. -/
theorem FoldSt.step {b : Nat} {ms : List (List UInt8)} {i j : Nat} {m : List UInt8} {X : World} (h : FoldSt b ms i j X) (h16 : Marks16 ms) (hi : i < 16) (hm : ms[j]? = some m) :
    ∃ x y : UInt8, m[i]? = some y ∧ (∀ Y, Below X.heap.size X Y → Y.cell? ⟨b, i, none⟩ = some (.int .u8 (x.toNat : Int)) ∧ Y.frozen? ⟨b, i, none⟩ = false ∧ FoldSt b ms i (j + 1) (Y.setCell ⟨b, i, none⟩ (.int .u8 ((x ^^^ y).toNat : Int)))) := by
  obtain ⟨L, hL, h1, h2, h3, h4⟩ := h
  have hx : L[i]? = some L[i] := List.getElem?_eq_getElem (by omega)
  have hml := h16 m (List.mem_of_getElem? hm)
  have hy : m[i]? = some m[i] := List.getElem?_eq_getElem (by omega)
  refine ⟨L[i], m[i], hy, fun Y hY => ?_⟩
  have hb := (hY.block _ (blk_lt h4)).trans h4
  refine ⟨by rw [cell_at hb, List.getElem?_map, hx]; rfl, free_of hb i, L.set i (L[i] ^^^ m[i]), by simpa using hL, fun p hp => ?_, ?_, fun p hp hp2 => ?_, ?_⟩
  · rw [List.getElem?_set_ne (by omega)]; exact h1 p hp
  · rw [List.getElem?_set_self (by omega), List.take_add_one, hm]
    show _ = (foldM (ms.take j ++ [m]))[i]?
    rw [foldM_snoc, xorL_get (h2.symm.trans hx) hy]
  · rw [List.getElem?_set_ne (by omega)]; exact h3 p hp hp2
  · have := set_cell i (byteV (L[i] ^^^ m[i])) hb
    rw [← List.map_set] at this
    exact this
theorem FoldSt.fin {b : Nat} {ms : List (List UInt8)} {X : World} (h : FoldSt b ms 16 0 X) (h16 : Marks16 ms) : X.heap[b]? = some (.cells ((foldM ms).map byteV).toArray 23 (0, 0)) := by
  obtain ⟨L, hL, h1, h2, h3, h4⟩ := h
  have e : L = foldM ms := by
    apply List.ext_getElem?
    intro p
    by_cases hp : p < 16
    · exact h1 p hp
    · rw [List.getElem?_eq_none (by omega), List.getElem?_eq_none (by rw [foldM_len h16]; omega)]
  rw [e] at h4
  exact h4
theorem FoldSt.start {b : Nat} {ms : List (List UInt8)} {X : World} (h : X.heap[b]? = some (.cells zeroMark 23 (0, 0))) : FoldSt b ms 0 0 X := by
  refine ⟨List.replicate 16 0, by simp, fun p hp => by omega, rfl, fun p hp hp2 => by rw [List.getElem?_replicate, if_pos hp2], h⟩
set_option maxHeartbeats 2000000 in
theorem fold_any (v : Value) (ms : List (List UInt8)) (w : World) (h : MarksAt w v ms) (h16 : Marks16 ms) (hn : ms.length ≤ 1000000000) :
    Calls Try.prog 59 #[v] w fun e w' => e = .returned (markV (foldM ms)) ∧ Below w.heap.size w w' := by
  have HH := Lib.hid h
  have H16 := Lib.hid h16
  obtain ⟨p, cap, rfl, hcap, _⟩ := h
  clear h16
  go_enter Try.func59, Try.ntmps59
  obtain ⟨w1, hw1⟩ : ∃ w1, w1 = (w.alloc (.cells zeroMark 23)).alloc (.cells zeroMark 23) := ⟨_, rfl⟩
  have h0 : w1.heap[w.heap.size]? = some (.cells zeroMark 23 (0, 0)) := by
    rw [hw1]; exact (Below.heap_alloc _ _ _ (by simp)).trans (World.alloc_heap_new _ _)
  have h1 : w1.heap[w.heap.size + 1]? = some (.cells zeroMark 23 (0, 0)) := by
    rw [hw1, show w.heap.size + 1 = (w.alloc (.cells zeroMark 23)).heap.size by simp]
    exact World.alloc_heap_new _ _
  have hB : Below w.heap.size w w1 := by rw [hw1]; exact ((Below.refl _ _).alloc (Nat.le_refl _) _).alloc (by simp) _
  have H1 := Lib.hid (FoldSt.start (ms := ms) h1)
  have H0 := Lib.hid h0
  have HB := Lib.hid hB
  have HW := Lib.hid hw1
  clear h0 h1 hB hw1
  go_wp2_with fail
  rw [← HW.out]
  go_loopw [4] (fun c wr => ∃ i : Nat, i ≤ 16 ∧ c = .int .i64 i ∧ Hid (FoldSt (w.heap.size + 1) ms i 0 wr) ∧ Hid (wr.heap[w.heap.size]? = some (.cells zeroMark 23 (0, 0))) ∧ Hid (Below w.heap.size w wr)) (fun c _ => 16 - (intOf c).toNat)
  case atStart => exact ⟨0, by omega, rfl, H1, H0, HB⟩
  case round =>
    obtain ⟨i, hi, rfl, HS, HZ, HB⟩ := hrel
    obtain ⟨wo, rfl⟩ : ∃ wo : World, wo = wr := ⟨_, rfl⟩
    by_cases hil : i < 16
    · have e1 : decide ((i : Int) < 16) = true := decide_eq_true (by omega)
      have e16 : (i : Int) < 16 := by omega
      go_wp2_with fail
      go_loopw [6, 13] (fun _ c wr => ∃ j : Nat, j ≤ ms.length ∧ c = .int .i64 j ∧ Hid (FoldSt (w.heap.size + 1) ms i j wr) ∧ Hid (wr.heap[w.heap.size]? = some (.cells zeroMark 23 (0, 0))) ∧ Hid (Below w.heap.size w wr)) (fun _ c _ => ms.length - (intOf c).toNat)
      case atStart => exact ⟨0, by omega, rfl, HS, HZ, HB⟩
      case round =>
        obtain ⟨j, hj, rfl, HS, HZ, HB⟩ := hrel
        by_cases hjl : j < ms.length
        · have e2 : decide ((j : Int) < (ms.length : Int)) = true := decide_eq_true (by omega)
          obtain ⟨m, hm⟩ : ∃ m, ms[j]? = some m := ⟨_, List.getElem?_eq_getElem hjl⟩
          have hm16 := H16.out m (List.mem_of_getElem? hm)
          obtain ⟨g, o, hpe, _, hld⟩ := (HH.out.below HB.out).load H16.out hm
          subst hpe
          have hL := hld wr (Below.refl _ _)
          have hnew : (wr.alloc (.cells zeroMark 23)).heap[wr.heap.size]? = some (.cells ((List.replicate 16 0).map byteV).toArray 23 (0, 0)) := World.alloc_heap_new _ _
          obtain ⟨a1, a2⟩ := mark_store hnew (m := m) (by simp) hm16
          have hb1 := HS.out.lt
          have hb0 := blk_lt HZ.out
          have hk : ∀ k, k < wr.heap.size → ((wr.alloc (.cells zeroMark 23)).setCells wr.heap.size 0 (m.map byteV)).heap[k]? = wr.heap[k]? := fun k hk => (heap_setCells_ne _ _ _ _ _ (by omega)).trans (Below.heap_alloc _ _ _ hk)
          have s5 := HS.out.other (hk _ hb1)
          have z5 := (hk _ hb0).trans HZ.out
          have b5 : Below w.heap.size w ((wr.alloc (.cells zeroMark 23)).setCells wr.heap.size 0 (m.map byteV)) := Below.setCells (HB.out.alloc HB.out.size _) _ _ _ HB.out.size
          have S5 := Lib.hid s5
          have Z5 := Lib.hid z5
          have B5 := Lib.hid b5
          have A2 := Lib.hid a2
          have HM := Lib.hid hm
          have hbs : w.heap.size ≤ wr.heap.size := HB.out.size
          clear s5 z5 b5 a2 hld hnew hk hm HS HZ HB
          go_wp2_with (first | (refine wpList_load_at rfl _ _ rfl rfl (hL) ?_) | (refine wpList_store_at rfl _ _ _ rfl rfl rfl (a1) ?_))
          clear hL a1
          have hsz5 : wr.heap.size < ((wr.alloc (.cells zeroMark 23)).setCells wr.heap.size 0 (m.map byteV)).heap.size := by rw [size_setCells]; simp
          generalize (wr.alloc (.cells zeroMark 23)).setCells wr.heap.size 0 (m.map byteV) = w5 at *
          obtain ⟨x, y, hy, hst⟩ := S5.out.step H16.out hil HM.out
          have g0 : ∀ X, Below w5.heap.size w5 X → X.cell? ⟨w.heap.size + 1, i, none⟩ = some (.int .u8 (x.toNat : Int)) := fun X hX => (hst X hX).1
          have g1 : ∀ X, Below w5.heap.size w5 X → X.cell? ⟨wr.heap.size, i, none⟩ = some (.int .u8 (y.toNat : Int)) := fun X hX => by
            rw [cell_at ((hX.block _ hsz5).trans A2.out), List.getElem?_map, hy]; rfl
          have hq := q_xor8 x y
          have ST := Lib.hid hst
          clear hst hy
          refine wp_region_calm_tail 9 (by kernel_rfl) (by kernel_rfl) ?_
          simp only [List.take_succ_cons, List.take_zero, List.drop_succ_cons, List.drop_zero]
          repeat
            first
            | (apply calm_want
               · first | rfl | (go_simp; done)
               · intro X hX
                 go_simp
                 first
                   | done
                   | rfl
                   | (refine ⟨trivial, ?_⟩; (fail); done)
                   | ((fail); done)
               intro K hK
               go_simp
               refine hK _ ?_
               clear hK K)
            | (apply calm_skip
               · first | rfl | (go_simp; done)
               intro K hK
               go_simp
               refine hK _ ?_
               clear hK K)
          refine wpQuiet_nil ?_
          intro X hX
          have hf := (ST.out X hX).2.1
          have hcl := (ST.out X hX).1
          have K0 := Lib.hid (ST.out X hX).2.2
          have K1 := Lib.hid ((Below.heap_setCell X ⟨w.heap.size + 1, i, none⟩ (.int .u8 ((x ^^^ y).toNat : Int)) w.heap.size (by dsimp only; omega)).trans ((hX.block _ (blk_lt Z5.out)).trans Z5.out))
          have K2 := Lib.hid ((B5.out.trans (hX.mono B5.out.size)).setCell (p := ⟨w.heap.size + 1, i, none⟩) (by dsimp only; omega) (.int .u8 ((x ^^^ y).toNat : Int)))
          clear g0 g1 ST
          go_wp2_with fail
          go_roundw
          case rel => exact ⟨j + 1, by omega, by go_num, K0, K1, K2⟩
          case measure => simp [intOf]; omega
        · have e2 : decide ((j : Int) < (ms.length : Int)) = false := decide_eq_false (by omega)
          obtain rfl : j = ms.length := by omega
          go_wp2_with fail
          go_roundw
          case rel => exact ⟨i + 1, by omega, by go_num, Lib.hid (HS.out.next H16.out), HZ, HB⟩
          case measure => simp [intOf]; omega
    · have e1 : decide ((i : Int) < 16) = false := decide_eq_false (by omega)
      obtain rfl : i = 16 := by omega
      have hfl := foldM_len H16.out
      have hl := mark_whole (HS.out.fin H16.out) hfl
      obtain ⟨s1, s2⟩ := mark_store (old := List.replicate 16 0) HZ.out (m := foldM ms) (by simp) hfl
      have hB' := Below.setCells HB.out w.heap.size 0 ((foldM ms).map byteV) (Nat.le_refl _)
      have S2 := Lib.hid s2
      clear s2
      go_wp2_with (first | (refine wpList_load_at rfl _ _ rfl rfl (hl) ?_) | (refine wpList_store_at rfl _ _ _ rfl rfl rfl (s1) ?_))
      exact bodyPost_ret (v := markV (foldM ms)) (mark_ret S2.out hfl rfl rfl) rfl ⟨rfl, hB'⟩
end Go.Proofs.Ytkdbbdlkfpjdfaa
