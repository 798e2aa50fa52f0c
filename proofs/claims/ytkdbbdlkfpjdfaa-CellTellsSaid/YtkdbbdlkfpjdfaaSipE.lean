/- Contracts of the words that the laws lean on: rotations, rounds, hashes and marks, plainly told.
   Conditions: those that each theorem names. -/
import Derived.Test.YtkdbbdlkfpjdfaaSipD
import Derived.Test.YtkdbbdlkfpjdfaaTail
namespace Go.Proofs.Ytkdbbdlkfpjdfaa
set_option maxRecDepth 100000
set_option linter.unusedVariables false
set_option linter.unusedSimpArgs false
set_option linter.unusedVariables false
open Go.RowKit Go.Rg
attribute [local go_sem] Rg.q_add Rg.q_add' Rg.q_xor Rg.q_or Rg.q_and
theorem up_any (x : UInt64) (k : Nat) (h0 : 0 < k) (hk : k < 64) (w : World) : Calls Try.prog 104 #[.int .u64 (U x), .int .i64 k] w fun e w' => e = .returned (.int .u64 (U (rot x k))) ∧ Below w.heap.size w w' := by
  have hx := U_nonneg x
  have hx' := U_lt x
  go_enter Try.func104, Try.ntmps104
  go_wp2_with (go_quiet (fail))
  go_wp2
  go_ret
  exact ⟨ret_int (rot_eq x k h0 hk), ⟨rfl, rfl, rfl, Nat.le_refl _, fun _ _ => rfl⟩⟩

def vec (s : S4) : Value := .agg #[.int .u64 (U s.a), .int .u64 (U s.b), .int .u64 (U s.c), .int .u64 (U s.d)]

/-- The box of a round: its block, the result's block behind it. -/
structure Vec (w W : World) (s : S4) : Prop where
  box : W.heap[w.heap.size]? = some (.cells (s.vals ++ []).toArray 134 (0, 0))
  res : W.heap[w.heap.size + 1]? = some (.cells #[.int .u64 0, .int .u64 0, .int .u64 0, .int .u64 0] 134 (0, 0))
  below : Below w.heap.size w W
theorem Vec.grow {w W X : World} {s : S4} (h : Vec w W s) (hX : Below W.heap.size W X) : Vec w X s :=
  ⟨(hX.block _ (Array.getElem?_eq_some_iff.1 h.box).1).trans h.box, (hX.block _ (Array.getElem?_eq_some_iff.1 h.res).1).trans h.res, h.below.trans (hX.mono h.below.size)⟩
theorem Vec.look {w W : World} {s : S4} (h : Vec w W s) :
    W.cell? ⟨w.heap.size, 0, none⟩ = some (.int .u64 (U s.a)) ∧ W.cell? ⟨w.heap.size, 1, none⟩ = some (.int .u64 (U s.b)) ∧ W.cell? ⟨w.heap.size, 2, none⟩ = some (.int .u64 (U s.c)) ∧ W.cell? ⟨w.heap.size, 3, none⟩ = some (.int .u64 (U s.d)) ∧
    W.frozen? ⟨w.heap.size, 0, none⟩ = false ∧ W.frozen? ⟨w.heap.size, 1, none⟩ = false ∧ W.frozen? ⟨w.heap.size, 2, none⟩ = false ∧ W.frozen? ⟨w.heap.size, 3, none⟩ = false := by
  obtain ⟨k0, k1, k2, k3⟩ := cellS h.box
  exact ⟨k0, k1, k2, k3, freeS h.box 0, freeS h.box 1, freeS h.box 2, freeS h.box 3⟩
theorem Vec.all {w W : World} {s : S4} (h : Vec w W s) : ∀ X, Below W.heap.size W X →
    X.cell? ⟨w.heap.size, 0, none⟩ = some (.int .u64 (U s.a)) ∧ X.cell? ⟨w.heap.size, 1, none⟩ = some (.int .u64 (U s.b)) ∧ X.cell? ⟨w.heap.size, 2, none⟩ = some (.int .u64 (U s.c)) ∧ X.cell? ⟨w.heap.size, 3, none⟩ = some (.int .u64 (U s.d)) :=
  fun X hX => cellS (h.grow hX).box
theorem Vec.put {w W : World} {s s' : S4} (h : Vec w W s) (j : Nat) (x : UInt64) (hs : (s.vals ++ []).toArray.setIfInBounds j (.int .u64 (U x)) = (s'.vals ++ []).toArray) : Vec w (W.setCell ⟨w.heap.size, j, none⟩ (.int .u64 (U x))) s' :=
  ⟨(block_set _ h.box).trans (by rw [hs]), (Below.heap_setCell _ _ _ _ (by simp)).trans h.res, h.below.setCell (Nat.le_refl _) _⟩
theorem Vec.drew {w W : World} {s : S4} (h : Vec w W s) : Vec w W.drew s := ⟨h.box, h.res, h.below.drew⟩

theorem vec_fin {w wF : World} {ts : Array Value} (s : S4) (B : wF.heap[w.heap.size + 1]? = some (.cells (((((([] ++ [Value.int .u64 (U s.a)]) ++ [Value.int .u64 (U s.b)]) ++ [Value.int .u64 (U s.c)]) ++ [Value.int .u64 (U s.d)])) ++ []).toArray 134 (0, 0)))
    (L : Below w.heap.size w wF) (h : ts[2]? = some (.pointer (some ⟨w.heap.size + 1, 0, none⟩))) :
    bodyPost Try.prog Try.f93 (fun e w' => e = .returned (vec s) ∧ Below w.heap.size w w') Exit.ret { tmps := ts, defers := [] } wF := by
  have g0 : wF.cell? ⟨w.heap.size + 1, 0, none⟩ = some (.int .u64 (U s.a)) := by simp [World.cell?, B]
  have g1 : wF.cell? ⟨w.heap.size + 1, 1, none⟩ = some (.int .u64 (U s.b)) := by simp [World.cell?, B]
  have g2 : wF.cell? ⟨w.heap.size + 1, 2, none⟩ = some (.int .u64 (U s.c)) := by simp [World.cell?, B]
  have g3 : wF.cell? ⟨w.heap.size + 1, 3, none⟩ = some (.int .u64 (U s.d)) := by simp [World.cell?, B]
  refine bodyPost_ret (v := vec s) ?_ rfl ⟨rfl, L⟩
  simp [results, Try.results93, go_sem, h, g0, g1, g2, g3, vec]

set_option maxRecDepth 100000 in
set_option maxHeartbeats 2000000 in
theorem plain_round_any (s : S4) (w : World) :
    Calls Try.prog 93 #[vec s] w fun e w' => e = .returned (vec s.round) ∧ Below w.heap.size w w' := by
  obtain ⟨a0, b0, c0, d0⟩ := s
  go_enter Try.func93, Try.ntmps93
  simp only [vec]
  go_wp2_with fail
  generalize ha : a0 + b0 = a1
  generalize hw1 : (w.alloc (.cells #[.int .u64 (U a1), .int .u64 (U b0), .int .u64 (U c0), .int .u64 (U d0)] 134)).alloc (.cells #[.int .u64 0, .int .u64 0, .int .u64 0, .int .u64 0] 134) = w1
  have hV : Vec w w1 ⟨a1, b0, c0, d0⟩ := by
    rw [← hw1]
    refine ⟨(Below.heap_alloc _ _ _ (by simp)).trans (World.alloc_heap_new _ _), ?_, ((Below.refl _ _).alloc (Nat.le_refl _) _).alloc (by simp) _⟩
    rw [show w.heap.size + 1 = (w.alloc (.cells #[.int .u64 (U a1), .int .u64 (U b0), .int .u64 (U c0), .int .u64 (U d0)] 134)).heap.size by simp]
    exact World.alloc_heap_new _ _
  have HV := Lib.hid hV
  have HA := Lib.hid ha
  clear ha hw1 hV
  have hVA := HV.out.all
  refine wp_region_calm_tail 7 (by kernel_rfl) (by kernel_rfl) ?_
  simp only [List.take_succ_cons, List.take_zero, List.drop_succ_cons, List.drop_zero]
  repeat
    first
    | (apply calm_want
       · first | rfl | (go_simp; done)
       · intro X hX
         go_simp
         first
           | done
           | rfl
           | (refine ⟨trivial, ?_⟩; (exact calls_calm hX (up_any _ 13 (by decide) (by decide) _)); done)
           | ((exact calls_calm hX (up_any _ 13 (by decide) (by decide) _)); done)
       intro K hK
       go_simp
       refine hK _ ?_
       clear hK K)
    | (apply calm_skip
       · first | rfl | (go_simp; done)
       intro K hK
       go_simp
       refine hK _ ?_
       clear hK K)
  refine wpQuiet_nil ?_
  intro X hX
  have hV := HV.out.grow hX
  clear HV hVA hX
  have HV := Lib.hid hV
  clear hV
  obtain ⟨k0, k1, k2, k3, f0, f1, f2, f3⟩ := HV.out.look
  generalize hb1 : rot b0 13 ^^^ a1 = b1
  have Hb1 := Lib.hid hb1
  clear hb1
  go_wp2_with fail
  refine (up_any _ 32 (by decide) (by decide) _).mono ?_
  rintro e X ⟨rfl, hB⟩
  have hV := ((HV.out.put (s' := ⟨a1, b1, c0, d0⟩) 1 b1 rfl)).grow hB
  clear HV k0 k1 k2 k3 f0 f1 f2 f3 hB
  have HV := Lib.hid hV
  clear hV
  obtain ⟨k0, k1, k2, k3, f0, f1, f2, f3⟩ := HV.out.look
  generalize ha2 : rot a1 32 = a2
  have Ha2 := Lib.hid ha2
  clear ha2
  generalize hc1 : c0 + d0 = c1
  have Hc1 := Lib.hid hc1
  go_wp2_with fail
  clear hc1
  have hV := ((HV.out.put (s' := ⟨a2, b1, c0, d0⟩) 0 a2 rfl).put (s' := ⟨a2, b1, c1, d0⟩) 2 c1 rfl)
  clear HV k0 k1 k2 k3 f0 f1 f2 f3
  generalize ((X.setCell ⟨w.heap.size, 0, none⟩ (.int .u64 (U a2))).setCell ⟨w.heap.size, 2, none⟩ (.int .u64 (U c1))) = w2 at *
  have HV := Lib.hid hV
  clear hV
  have hVA := HV.out.all
  refine wp_region_calm_tail 7 (by kernel_rfl) (by kernel_rfl) ?_
  simp only [List.take_succ_cons, List.take_zero, List.drop_succ_cons, List.drop_zero]
  repeat
    first
    | (apply calm_want
       · first | rfl | (go_simp; done)
       · intro X hX
         go_simp
         first
           | done
           | rfl
           | (refine ⟨trivial, ?_⟩; (exact calls_calm hX (up_any _ 16 (by decide) (by decide) _)); done)
           | ((exact calls_calm hX (up_any _ 16 (by decide) (by decide) _)); done)
       intro K hK
       go_simp
       refine hK _ ?_
       clear hK K)
    | (apply calm_skip
       · first | rfl | (go_simp; done)
       intro K hK
       go_simp
       refine hK _ ?_
       clear hK K)
  refine wpQuiet_nil ?_
  intro X hX
  have hV := HV.out.grow hX
  clear HV hVA hX
  have HV := Lib.hid hV
  clear hV
  obtain ⟨k0, k1, k2, k3, f0, f1, f2, f3⟩ := HV.out.look
  generalize hd1 : rot d0 16 ^^^ c1 = d1
  have Hd1 := Lib.hid hd1
  clear hd1
  go_wp2_with fail
  generalize ha3 : a2 + d1 = a3
  have Ha3 := Lib.hid ha3
  clear ha3
  have hV := ((HV.out.put (s' := ⟨a2, b1, c1, d1⟩) 3 d1 rfl).put (s' := ⟨a3, b1, c1, d1⟩) 0 a3 rfl)
  clear HV k0 k1 k2 k3 f0 f1 f2 f3
  generalize ((X.setCell ⟨w.heap.size, 3, none⟩ (.int .u64 (U d1))).setCell ⟨w.heap.size, 0, none⟩ (.int .u64 (U a3))) = w3 at *
  have HV := Lib.hid hV
  clear hV
  have hVA := HV.out.all
  refine wp_region_calm_tail 7 (by kernel_rfl) (by kernel_rfl) ?_
  simp only [List.take_succ_cons, List.take_zero, List.drop_succ_cons, List.drop_zero]
  repeat
    first
    | (apply calm_want
       · first | rfl | (go_simp; done)
       · intro X hX
         go_simp
         first
           | done
           | rfl
           | (refine ⟨trivial, ?_⟩; (exact calls_calm hX (up_any _ 21 (by decide) (by decide) _)); done)
           | ((exact calls_calm hX (up_any _ 21 (by decide) (by decide) _)); done)
       intro K hK
       go_simp
       refine hK _ ?_
       clear hK K)
    | (apply calm_skip
       · first | rfl | (go_simp; done)
       intro K hK
       go_simp
       refine hK _ ?_
       clear hK K)
  refine wpQuiet_nil ?_
  intro X hX
  have hV := HV.out.grow hX
  clear HV hVA hX
  have HV := Lib.hid hV
  clear hV
  obtain ⟨k0, k1, k2, k3, f0, f1, f2, f3⟩ := HV.out.look
  generalize hd2 : rot d1 21 ^^^ a3 = d2
  have Hd2 := Lib.hid hd2
  clear hd2
  go_wp2_with fail
  generalize hc2 : c1 + b1 = c2
  have Hc2 := Lib.hid hc2
  clear hc2
  have hV := ((HV.out.put (s' := ⟨a3, b1, c1, d2⟩) 3 d2 rfl).put (s' := ⟨a3, b1, c2, d2⟩) 2 c2 rfl)
  clear HV k0 k1 k2 k3 f0 f1 f2 f3
  generalize ((X.setCell ⟨w.heap.size, 3, none⟩ (.int .u64 (U d2))).setCell ⟨w.heap.size, 2, none⟩ (.int .u64 (U c2))) = w4 at *
  have HV := Lib.hid hV
  clear hV
  have hVA := HV.out.all
  refine wp_region_calm_tail 7 (by kernel_rfl) (by kernel_rfl) ?_
  simp only [List.take_succ_cons, List.take_zero, List.drop_succ_cons, List.drop_zero]
  repeat
    first
    | (apply calm_want
       · first | rfl | (go_simp; done)
       · intro X hX
         go_simp
         first
           | done
           | rfl
           | (refine ⟨trivial, ?_⟩; (exact calls_calm hX (up_any _ 17 (by decide) (by decide) _)); done)
           | ((exact calls_calm hX (up_any _ 17 (by decide) (by decide) _)); done)
       intro K hK
       go_simp
       refine hK _ ?_
       clear hK K)
    | (apply calm_skip
       · first | rfl | (go_simp; done)
       intro K hK
       go_simp
       refine hK _ ?_
       clear hK K)
  refine wpQuiet_nil ?_
  intro X hX
  have hV := HV.out.grow hX
  clear HV hVA hX
  have HV := Lib.hid hV
  clear hV
  obtain ⟨k0, k1, k2, k3, f0, f1, f2, f3⟩ := HV.out.look
  generalize hb2 : rot b1 17 ^^^ c2 = b2
  have Hb2 := Lib.hid hb2
  clear hb2
  go_wp2_with fail
  refine (up_any _ 32 (by decide) (by decide) _).mono ?_
  rintro e X ⟨rfl, hB⟩
  have hV := ((HV.out.put (s' := ⟨a3, b2, c2, d2⟩) 1 b2 rfl)).grow hB
  clear HV k0 k1 k2 k3 f0 f1 f2 f3 hB
  have HV := Lib.hid hV
  clear hV
  obtain ⟨k0, k1, k2, k3, f0, f1, f2, f3⟩ := HV.out.look
  generalize hc3 : rot c2 32 = c3
  have Hc3 := Lib.hid hc3
  clear hc3
  have hr := HV.out.res
  have g0 := freeS hr 0
  have r0 : X.cell? ⟨w.heap.size + 1, 0, none⟩ = some (.int .u64 0) := by simp [World.cell?, hr]
  have g1 := freeS hr 1
  have r1 : X.cell? ⟨w.heap.size + 1, 1, none⟩ = some (.int .u64 0) := by simp [World.cell?, hr]
  have g2 := freeS hr 2
  have r2 : X.cell? ⟨w.heap.size + 1, 2, none⟩ = some (.int .u64 0) := by simp [World.cell?, hr]
  have g3 := freeS hr 3
  have r3 : X.cell? ⟨w.heap.size + 1, 3, none⟩ = some (.int .u64 0) := by simp [World.cell?, hr]
  have hr0 : (X.setCell ⟨w.heap.size, 2, none⟩ (.int .u64 (U c3))).heap[w.heap.size + 1]? = some (.cells ([] ++ [Value.int .u64 0, Value.int .u64 0, Value.int .u64 0, Value.int .u64 0]).toArray 134 (0, 0)) := (Below.heap_setCell _ _ _ _ (by simp)).trans hr
  have B0 := fill (v := Value.int .u64 (U a3)) 0 rfl hr0
  have B1 := fill (v := Value.int .u64 (U b2)) 1 rfl B0
  have B2 := fill (v := Value.int .u64 (U c3)) 2 rfl B1
  have B3 := fill (v := Value.int .u64 (U d2)) 3 rfl B2
  have HBF := Lib.hid B3
  clear hr hr0 B0 B1 B2 B3
  have hbl := HV.out.below.setCell (p := ⟨w.heap.size, 2, none⟩) (Nat.le_refl _) (Value.int .u64 (U c3))
  have hbl := hbl.setCell (p := ⟨w.heap.size + 1, 0, none⟩) (by simp) (Value.int .u64 (U a3))
  have hbl := hbl.setCell (p := ⟨w.heap.size + 1, 1, none⟩) (by simp) (Value.int .u64 (U b2))
  have hbl := hbl.setCell (p := ⟨w.heap.size + 1, 2, none⟩) (by simp) (Value.int .u64 (U c3))
  have hbl := hbl.setCell (p := ⟨w.heap.size + 1, 3, none⟩) (by simp) (Value.int .u64 (U d2))
  have HBL := Lib.hid hbl
  clear hbl
  go_wp2_with fail
  have e : S4.round ⟨a0, b0, c0, d0⟩ = ⟨a3, b2, c3, d2⟩ := by
    simp only [S4.round, HA.out, Hb1.out, Ha2.out, Hc1.out, Hd1.out, Ha3.out, Hd2.out, Hc2.out, Hb2.out, Hc3.out]
  rw [e]
  have hB := HBF.out
  have hL := HBL.out
  exact vec_fin ⟨a3, b2, c3, d2⟩ hB hL rfl
end Go.Proofs.Ytkdbbdlkfpjdfaa
