/- Package sip: the document's answers.
   Conditions: those that each theorem names. -/
import Derived.Test.YtkdbbdlkfpjdfaaSp
import Derived.Test.YtkdbbdlkfpjdfaaBs
import Derived.Laws.BytesArg
import Derived.Laws.IdiomStrings
/- Contracts of the words that the laws lean on: rotations, rounds, hashes and marks, plainly told.
   Conditions: those that each theorem names. -/
namespace Go.Proofs.Ytkdbbdlkfpjdfaa
set_option maxRecDepth 100000
set_option linter.unusedVariables false
set_option linter.unusedSimpArgs false
set_option linter.unusedVariables false
open Go.RowKit Go.Rg
attribute [local go_sem] Rg.q_add Rg.q_add' Rg.q_xor Rg.q_or Rg.q_and
theorem up_any (x : UInt64) (k : Nat) (h0 : 0 < k) (hk : k < 64) (w : World) : Calls Try.prog 104 #[.int .u64 (U x), .int .i64 k] w fun e w' => e = .returned (.int .u64 (U (rot x k))) ∧ Below w.heap.size w w' := by
  have hx := U_nonneg x
  have hx' := U_lt x
  go_enter Try.func104, Try.ntmps104
  go_wp2_with (go_quiet (fail))
  go_wp2
  go_ret
  exact ⟨ret_int (rot_eq x k h0 hk), ⟨rfl, rfl, rfl, Nat.le_refl _, fun _ _ => rfl⟩⟩

def vec (s : S4) : Value := .agg #[.int .u64 (U s.a), .int .u64 (U s.b), .int .u64 (U s.c), .int .u64 (U s.d)]

/-- The box of a round: its block, the result's block behind it. -/
structure Vec (w W : World) (s : S4) : Prop where
  box : W.heap[w.heap.size]? = some (.cells (s.vals ++ []).toArray 134 (0, 0))
  res : W.heap[w.heap.size + 1]? = some (.cells #[.int .u64 0, .int .u64 0, .int .u64 0, .int .u64 0] 134 (0, 0))
  below : Below w.heap.size w W
theorem Vec.grow {w W X : World} {s : S4} (h : Vec w W s) (hX : Below W.heap.size W X) : Vec w X s :=
  ⟨(hX.block _ (Array.getElem?_eq_some_iff.1 h.box).1).trans h.box, (hX.block _ (Array.getElem?_eq_some_iff.1 h.res).1).trans h.res, h.below.trans (hX.mono h.below.size)⟩
theorem Vec.look {w W : World} {s : S4} (h : Vec w W s) :
    W.cell? ⟨w.heap.size, 0, none⟩ = some (.int .u64 (U s.a)) ∧ W.cell? ⟨w.heap.size, 1, none⟩ = some (.int .u64 (U s.b)) ∧ W.cell? ⟨w.heap.size, 2, none⟩ = some (.int .u64 (U s.c)) ∧ W.cell? ⟨w.heap.size, 3, none⟩ = some (.int .u64 (U s.d)) ∧
    W.frozen? ⟨w.heap.size, 0, none⟩ = false ∧ W.frozen? ⟨w.heap.size, 1, none⟩ = false ∧ W.frozen? ⟨w.heap.size, 2, none⟩ = false ∧ W.frozen? ⟨w.heap.size, 3, none⟩ = false := by
  obtain ⟨k0, k1, k2, k3⟩ := cellS h.box
  exact ⟨k0, k1, k2, k3, freeS h.box 0, freeS h.box 1, freeS h.box 2, freeS h.box 3⟩
theorem Vec.all {w W : World} {s : S4} (h : Vec w W s) : ∀ X, Below W.heap.size W X →
    X.cell? ⟨w.heap.size, 0, none⟩ = some (.int .u64 (U s.a)) ∧ X.cell? ⟨w.heap.size, 1, none⟩ = some (.int .u64 (U s.b)) ∧ X.cell? ⟨w.heap.size, 2, none⟩ = some (.int .u64 (U s.c)) ∧ X.cell? ⟨w.heap.size, 3, none⟩ = some (.int .u64 (U s.d)) :=
  fun X hX => cellS (h.grow hX).box
theorem Vec.put {w W : World} {s s' : S4} (h : Vec w W s) (j : Nat) (x : UInt64) (hs : (s.vals ++ []).toArray.setIfInBounds j (.int .u64 (U x)) = (s'.vals ++ []).toArray) : Vec w (W.setCell ⟨w.heap.size, j, none⟩ (.int .u64 (U x))) s' :=
  ⟨(block_set _ h.box).trans (by rw [hs]), (Below.heap_setCell _ _ _ _ (by simp)).trans h.res, h.below.setCell (Nat.le_refl _) _⟩
theorem Vec.drew {w W : World} {s : S4} (h : Vec w W s) : Vec w W.drew s := ⟨h.box, h.res, h.below.drew⟩

theorem vec_fin {w wF : World} {ts : Array Value} (s : S4) (B : wF.heap[w.heap.size + 1]? = some (.cells (((((([] ++ [Value.int .u64 (U s.a)]) ++ [Value.int .u64 (U s.b)]) ++ [Value.int .u64 (U s.c)]) ++ [Value.int .u64 (U s.d)])) ++ []).toArray 134 (0, 0)))
    (L : Below w.heap.size w wF) (h : ts[2]? = some (.pointer (some ⟨w.heap.size + 1, 0, none⟩))) :
    bodyPost Try.prog Try.f93 (fun e w' => e = .returned (vec s) ∧ Below w.heap.size w w') Exit.ret { tmps := ts, defers := [] } wF := by
  have g0 : wF.cell? ⟨w.heap.size + 1, 0, none⟩ = some (.int .u64 (U s.a)) := by simp [World.cell?, B]
  have g1 : wF.cell? ⟨w.heap.size + 1, 1, none⟩ = some (.int .u64 (U s.b)) := by simp [World.cell?, B]
  have g2 : wF.cell? ⟨w.heap.size + 1, 2, none⟩ = some (.int .u64 (U s.c)) := by simp [World.cell?, B]
  have g3 : wF.cell? ⟨w.heap.size + 1, 3, none⟩ = some (.int .u64 (U s.d)) := by simp [World.cell?, B]
  refine bodyPost_ret (v := vec s) ?_ rfl ⟨rfl, L⟩
  simp [results, Try.results93, go_sem, h, g0, g1, g2, g3, vec]

set_option maxRecDepth 100000 in
set_option maxHeartbeats 2000000 in
theorem plain_round_any (s : S4) (w : World) :
    Calls Try.prog 93 #[vec s] w fun e w' => e = .returned (vec s.round) ∧ Below w.heap.size w w' := by
  obtain ⟨a0, b0, c0, d0⟩ := s
  go_enter Try.func93, Try.ntmps93
  simp only [vec]
  go_wp2_with fail
  generalize ha : a0 + b0 = a1
  generalize hw1 : (w.alloc (.cells #[.int .u64 (U a1), .int .u64 (U b0), .int .u64 (U c0), .int .u64 (U d0)] 134)).alloc (.cells #[.int .u64 0, .int .u64 0, .int .u64 0, .int .u64 0] 134) = w1
  have hV : Vec w w1 ⟨a1, b0, c0, d0⟩ := by
    rw [← hw1]
    refine ⟨(Below.heap_alloc _ _ _ (by simp)).trans (World.alloc_heap_new _ _), ?_, ((Below.refl _ _).alloc (Nat.le_refl _) _).alloc (by simp) _⟩
    rw [show w.heap.size + 1 = (w.alloc (.cells #[.int .u64 (U a1), .int .u64 (U b0), .int .u64 (U c0), .int .u64 (U d0)] 134)).heap.size by simp]
    exact World.alloc_heap_new _ _
  have HV := Lib.hid hV
  have HA := Lib.hid ha
  clear ha hw1 hV
  have hVA := HV.out.all
  refine wp_region_calm_tail 7 (by kernel_rfl) (by kernel_rfl) ?_
  simp only [List.take_succ_cons, List.take_zero, List.drop_succ_cons, List.drop_zero]
  repeat
    first
    | (apply calm_want
       · first | rfl | (go_simp; done)
       · intro X hX
         go_simp
         first
           | done
           | rfl
           | (refine ⟨trivial, ?_⟩; (exact calls_calm hX (up_any _ 13 (by decide) (by decide) _)); done)
           | ((exact calls_calm hX (up_any _ 13 (by decide) (by decide) _)); done)
       intro K hK
       go_simp
       refine hK _ ?_
       clear hK K)
    | (apply calm_skip
       · first | rfl | (go_simp; done)
       intro K hK
       go_simp
       refine hK _ ?_
       clear hK K)
  refine wpQuiet_nil ?_
  intro X hX
  have hV := HV.out.grow hX
  clear HV hVA hX
  have HV := Lib.hid hV
  clear hV
  obtain ⟨k0, k1, k2, k3, f0, f1, f2, f3⟩ := HV.out.look
  generalize hb1 : rot b0 13 ^^^ a1 = b1
  have Hb1 := Lib.hid hb1
  clear hb1
  go_wp2_with fail
  refine (up_any _ 32 (by decide) (by decide) _).mono ?_
  rintro e X ⟨rfl, hB⟩
  have hV := ((HV.out.put (s' := ⟨a1, b1, c0, d0⟩) 1 b1 rfl)).grow hB
  clear HV k0 k1 k2 k3 f0 f1 f2 f3 hB
  have HV := Lib.hid hV
  clear hV
  obtain ⟨k0, k1, k2, k3, f0, f1, f2, f3⟩ := HV.out.look
  generalize ha2 : rot a1 32 = a2
  have Ha2 := Lib.hid ha2
  clear ha2
  generalize hc1 : c0 + d0 = c1
  have Hc1 := Lib.hid hc1
  go_wp2_with fail
  clear hc1
  have hV := ((HV.out.put (s' := ⟨a2, b1, c0, d0⟩) 0 a2 rfl).put (s' := ⟨a2, b1, c1, d0⟩) 2 c1 rfl)
  clear HV k0 k1 k2 k3 f0 f1 f2 f3
  generalize ((X.setCell ⟨w.heap.size, 0, none⟩ (.int .u64 (U a2))).setCell ⟨w.heap.size, 2, none⟩ (.int .u64 (U c1))) = w2 at *
  have HV := Lib.hid hV
  clear hV
  have hVA := HV.out.all
  refine wp_region_calm_tail 7 (by kernel_rfl) (by kernel_rfl) ?_
  simp only [List.take_succ_cons, List.take_zero, List.drop_succ_cons, List.drop_zero]
  repeat
    first
    | (apply calm_want
       · first | rfl | (go_simp; done)
       · intro X hX
         go_simp
         first
           | done
           | rfl
           | (refine ⟨trivial, ?_⟩; (exact calls_calm hX (up_any _ 16 (by decide) (by decide) _)); done)
           | ((exact calls_calm hX (up_any _ 16 (by decide) (by decide) _)); done)
       intro K hK
       go_simp
       refine hK _ ?_
       clear hK K)
    | (apply calm_skip
       · first | rfl | (go_simp; done)
       intro K hK
       go_simp
       refine hK _ ?_
       clear hK K)
  refine wpQuiet_nil ?_
  intro X hX
  have hV := HV.out.grow hX
  clear HV hVA hX
  have HV := Lib.hid hV
  clear hV
  obtain ⟨k0, k1, k2, k3, f0, f1, f2, f3⟩ := HV.out.look
  generalize hd1 : rot d0 16 ^^^ c1 = d1
  have Hd1 := Lib.hid hd1
  clear hd1
  go_wp2_with fail
  generalize ha3 : a2 + d1 = a3
  have Ha3 := Lib.hid ha3
  clear ha3
  have hV := ((HV.out.put (s' := ⟨a2, b1, c1, d1⟩) 3 d1 rfl).put (s' := ⟨a3, b1, c1, d1⟩) 0 a3 rfl)
  clear HV k0 k1 k2 k3 f0 f1 f2 f3
  generalize ((X.setCell ⟨w.heap.size, 3, none⟩ (.int .u64 (U d1))).setCell ⟨w.heap.size, 0, none⟩ (.int .u64 (U a3))) = w3 at *
  have HV := Lib.hid hV
  clear hV
  have hVA := HV.out.all
  refine wp_region_calm_tail 7 (by kernel_rfl) (by kernel_rfl) ?_
  simp only [List.take_succ_cons, List.take_zero, List.drop_succ_cons, List.drop_zero]
  repeat
    first
    | (apply calm_want
       · first | rfl | (go_simp; done)
       · intro X hX
         go_simp
         first
           | done
           | rfl
           | (refine ⟨trivial, ?_⟩; (exact calls_calm hX (up_any _ 21 (by decide) (by decide) _)); done)
           | ((exact calls_calm hX (up_any _ 21 (by decide) (by decide) _)); done)
       intro K hK
       go_simp
       refine hK _ ?_
       clear hK K)
    | (apply calm_skip
       · first | rfl | (go_simp; done)
       intro K hK
       go_simp
       refine hK _ ?_
       clear hK K)
  refine wpQuiet_nil ?_
  intro X hX
  have hV := HV.out.grow hX
  clear HV hVA hX
  have HV := Lib.hid hV
  clear hV
  obtain ⟨k0, k1, k2, k3, f0, f1, f2, f3⟩ := HV.out.look
  generalize hd2 : rot d1 21 ^^^ a3 = d2
  have Hd2 := Lib.hid hd2
  clear hd2
  go_wp2_with fail
  generalize hc2 : c1 + b1 = c2
  have Hc2 := Lib.hid hc2
  clear hc2
  have hV := ((HV.out.put (s' := ⟨a3, b1, c1, d2⟩) 3 d2 rfl).put (s' := ⟨a3, b1, c2, d2⟩) 2 c2 rfl)
  clear HV k0 k1 k2 k3 f0 f1 f2 f3
  generalize ((X.setCell ⟨w.heap.size, 3, none⟩ (.int .u64 (U d2))).setCell ⟨w.heap.size, 2, none⟩ (.int .u64 (U c2))) = w4 at *
  have HV := Lib.hid hV
  clear hV
  have hVA := HV.out.all
  refine wp_region_calm_tail 7 (by kernel_rfl) (by kernel_rfl) ?_
  simp only [List.take_succ_cons, List.take_zero, List.drop_succ_cons, List.drop_zero]
  repeat
    first
    | (apply calm_want
       · first | rfl | (go_simp; done)
       · intro X hX
         go_simp
         first
           | done
           | rfl
           | (refine ⟨trivial, ?_⟩; (exact calls_calm hX (up_any _ 17 (by decide) (by decide) _)); done)
           | ((exact calls_calm hX (up_any _ 17 (by decide) (by decide) _)); done)
       intro K hK
       go_simp
       refine hK _ ?_
       clear hK K)
    | (apply calm_skip
       · first | rfl | (go_simp; done)
       intro K hK
       go_simp
       refine hK _ ?_
       clear hK K)
  refine wpQuiet_nil ?_
  intro X hX
  have hV := HV.out.grow hX
  clear HV hVA hX
  have HV := Lib.hid hV
  clear hV
  obtain ⟨k0, k1, k2, k3, f0, f1, f2, f3⟩ := HV.out.look
  generalize hb2 : rot b1 17 ^^^ c2 = b2
  have Hb2 := Lib.hid hb2
  clear hb2
  go_wp2_with fail
  refine (up_any _ 32 (by decide) (by decide) _).mono ?_
  rintro e X ⟨rfl, hB⟩
  have hV := ((HV.out.put (s' := ⟨a3, b2, c2, d2⟩) 1 b2 rfl)).grow hB
  clear HV k0 k1 k2 k3 f0 f1 f2 f3 hB
  have HV := Lib.hid hV
  clear hV
  obtain ⟨k0, k1, k2, k3, f0, f1, f2, f3⟩ := HV.out.look
  generalize hc3 : rot c2 32 = c3
  have Hc3 := Lib.hid hc3
  clear hc3
  have hr := HV.out.res
  have g0 := freeS hr 0
  have r0 : X.cell? ⟨w.heap.size + 1, 0, none⟩ = some (.int .u64 0) := by simp [World.cell?, hr]
  have g1 := freeS hr 1
  have r1 : X.cell? ⟨w.heap.size + 1, 1, none⟩ = some (.int .u64 0) := by simp [World.cell?, hr]
  have g2 := freeS hr 2
  have r2 : X.cell? ⟨w.heap.size + 1, 2, none⟩ = some (.int .u64 0) := by simp [World.cell?, hr]
  have g3 := freeS hr 3
  have r3 : X.cell? ⟨w.heap.size + 1, 3, none⟩ = some (.int .u64 0) := by simp [World.cell?, hr]
  have hr0 : (X.setCell ⟨w.heap.size, 2, none⟩ (.int .u64 (U c3))).heap[w.heap.size + 1]? = some (.cells ([] ++ [Value.int .u64 0, Value.int .u64 0, Value.int .u64 0, Value.int .u64 0]).toArray 134 (0, 0)) := (Below.heap_setCell _ _ _ _ (by simp)).trans hr
  have B0 := fill (v := Value.int .u64 (U a3)) 0 rfl hr0
  have B1 := fill (v := Value.int .u64 (U b2)) 1 rfl B0
  have B2 := fill (v := Value.int .u64 (U c3)) 2 rfl B1
  have B3 := fill (v := Value.int .u64 (U d2)) 3 rfl B2
  have HBF := Lib.hid B3
  clear hr hr0 B0 B1 B2 B3
  have hbl := HV.out.below.setCell (p := ⟨w.heap.size, 2, none⟩) (Nat.le_refl _) (Value.int .u64 (U c3))
  have hbl := hbl.setCell (p := ⟨w.heap.size + 1, 0, none⟩) (by simp) (Value.int .u64 (U a3))
  have hbl := hbl.setCell (p := ⟨w.heap.size + 1, 1, none⟩) (by simp) (Value.int .u64 (U b2))
  have hbl := hbl.setCell (p := ⟨w.heap.size + 1, 2, none⟩) (by simp) (Value.int .u64 (U c3))
  have hbl := hbl.setCell (p := ⟨w.heap.size + 1, 3, none⟩) (by simp) (Value.int .u64 (U d2))
  have HBL := Lib.hid hbl
  clear hbl
  go_wp2_with fail
  have e : S4.round ⟨a0, b0, c0, d0⟩ = ⟨a3, b2, c3, d2⟩ := by
    simp only [S4.round, HA.out, Hb1.out, Ha2.out, Hc1.out, Hd1.out, Ha3.out, Hd2.out, Hc2.out, Hb2.out, Hc3.out]
  rw [e]
  have hB := HBF.out
  have hL := HBL.out
  exact vec_fin ⟨a3, b2, c3, d2⟩ hB hL rfl
end Go.Proofs.Ytkdbbdlkfpjdfaa

/- Contracts of the words that the laws lean on: rotations, rounds, hashes and marks, plainly told.
   Conditions: those that each theorem names. -/
namespace Go.Proofs.Ytkdbbdlkfpjdfaa
set_option maxRecDepth 100000
set_option linter.unusedVariables false
set_option linter.unusedSimpArgs false
set_option linter.unusedVariables false
open Go.RowKit Go.Rg
attribute [local go_sem] Rg.q_add Rg.q_add' Rg.q_xor Rg.q_or Rg.q_and
/-- Eight bytes as one number, the first the least. -/
def hN : List UInt8 → Nat
  | [] => 0
  | c :: l => c.toNat + 256 * hN l
def word (l : List UInt8) : UInt64 := UInt64.ofNat (hN l)
def refIt : Nat → S4 → List UInt8 → S4
  | 0, s, _ => s
  | n + 1, s, l => refIt n (s.take (word (l.take 8))) (l.drop 8)
def pd (l : List UInt8) : Nat := (15 - l.length % 8) % 8
def pad (l : List UInt8) : List UInt8 := l ++ List.replicate (pd l) 0 ++ [UInt8.ofNat (l.length % 256)]
def refHash (A B : UInt64) (l : List UInt8) : UInt64 := (refIt ((l.length + 8) / 8) (newS A B) (pad l)).fin
def strLen : Value → Nat | .string s => s.size | _ => 0
theorem pd_le (l : List UInt8) : pd l ≤ 7 := by unfold pd; omega
theorem pd_end (l : List UInt8) : (l.length + pd l) % 8 = 7 := by unfold pd; omega
theorem pd_first (l : List UInt8) (j : Nat) (h : j ≤ pd l) (h7 : (l.length + j) % 8 = 7) : j = pd l := by unfold pd at *; omega

/-- A block of four numbers, all below the call's start as it was. -/
structure Box (w W : World) (b : Nat) (s : S4) : Prop where
  box : W.heap[b]? = some (.cells (s.vals ++ []).toArray 134 (0, 0))
  below : Below w.heap.size w W
  low : w.heap.size ≤ b
theorem Box.grow {w W X : World} {b : Nat} {s : S4} (h : Box w W b s) (hX : Below W.heap.size W X) : Box w X b s :=
  ⟨(hX.block _ (Array.getElem?_eq_some_iff.1 h.box).1).trans h.box, h.below.trans (hX.mono h.below.size), h.low⟩
theorem Box.look {w W : World} {b : Nat} {s : S4} (h : Box w W b s) :
    W.cell? ⟨b, 0, none⟩ = some (.int .u64 (U s.a)) ∧ W.cell? ⟨b, 1, none⟩ = some (.int .u64 (U s.b)) ∧ W.cell? ⟨b, 2, none⟩ = some (.int .u64 (U s.c)) ∧ W.cell? ⟨b, 3, none⟩ = some (.int .u64 (U s.d)) ∧
    W.frozen? ⟨b, 0, none⟩ = false ∧ W.frozen? ⟨b, 1, none⟩ = false ∧ W.frozen? ⟨b, 2, none⟩ = false ∧ W.frozen? ⟨b, 3, none⟩ = false := by
  obtain ⟨k0, k1, k2, k3⟩ := cellS h.box
  exact ⟨k0, k1, k2, k3, freeS h.box 0, freeS h.box 1, freeS h.box 2, freeS h.box 3⟩
theorem Box.put {w W : World} {b : Nat} {s : S4} (h : Box w W b s) (s' : S4) (j : Nat) (x : UInt64) (hs : (s.vals ++ []).toArray.setIfInBounds j (.int .u64 (U x)) = (s'.vals ++ []).toArray) : Box w (W.setCell ⟨b, j, none⟩ (.int .u64 (U x))) b s' :=
  ⟨(block_set _ h.box).trans (by rw [hs]), h.below.setCell h.low _, h.low⟩

theorem plain_round (s : S4) (w : World) : Calls Try.prog 93 #[.agg #[.int .u64 (U s.a), .int .u64 (U s.b), .int .u64 (U s.c), .int .u64 (U s.d)]] w fun e w' =>
    e = .returned (.agg #[.int .u64 (U s.round.a), .int .u64 (U s.round.b), .int .u64 (U s.round.c), .int .u64 (U s.round.d)]) ∧ Below w.heap.size w w' := plain_round_any s w
/-- All four numbers laid anew. -/
theorem Box.puts {w W : World} {b : Nat} {s : S4} (h : Box w W b s) (s' : S4) :
    Box w ((((W.setCell ⟨b, 0, none⟩ (.int .u64 (U s'.a))).setCell ⟨b, 1, none⟩ (.int .u64 (U s'.b))).setCell ⟨b, 2, none⟩ (.int .u64 (U s'.c))).setCell ⟨b, 3, none⟩ (.int .u64 (U s'.d))) b s' :=
  (((h.put ⟨s'.a, s.b, s.c, s.d⟩ 0 s'.a rfl).put ⟨s'.a, s'.b, s.c, s.d⟩ 1 s'.b rfl).put ⟨s'.a, s'.b, s'.c, s.d⟩ 2 s'.c rfl).put s' 3 s'.d rfl
theorem hN_lt : ∀ l : List UInt8, hN l < 256 ^ l.length
  | [] => by simp [hN]
  | c :: l => by
    have := hN_lt l
    have := c.toNat_lt
    simp only [hN, List.length_cons, Nat.pow_succ]
    omega
theorem word_cons (c : UInt8) (l : List UInt8) : IntKind.u64.wrap (IntKind.u64.wrap (U (word l) * 256) + IntKind.u64.wrap (c.toNat : Int)) = U (word (c :: l)) := by
  have := byte_lt c
  simp only [wrap_u64, U, word, hN, UInt64.toNat_ofNat']
  omega
theorem ba_drop (q : List UInt8) : (⟨q.toArray⟩ : ByteArray).extract 8 q.length = ⟨(q.drop 8).toArray⟩ := by
  apply ByteArray.ext
  simp [ByteArray.data_extract]
  exact List.take_of_length_le (by simp)
theorem drop8 (q : List UInt8) (hq8 : q.length % 8 = 0) (n : Nat) (hn : q.length / 8 = n + 1) : (q.drop 8).length % 8 = 0 ∧ (q.drop 8).length / 8 = n ∧ (q.drop 8).length < q.length := by
  simp; omega
attribute [local go_sem] ba_app

set_option maxRecDepth 100000 in
set_option maxHeartbeats 2000000 in
theorem plain_hash_any (A B : UInt64) (l : List UInt8) (w : World) (hn : l.length ≤ 1000000) :
    Calls Try.prog 62 #[keyV A B, str l] w fun e w' => e = .returned (.int .u64 (U (refHash A B l))) ∧ Below w.heap.size w w' := by
  have x0 : bits .xor .u64 (U A) 8317987319222330741 = U (newS A B).a := q_xor A 8317987319222330741
  have x1 : bits .xor .u64 (U B) 7237128888997146477 = U (newS A B).b := q_xor B 7237128888997146477
  have x2 : bits .xor .u64 (U A) 7816392313619706465 = U (newS A B).c := q_xor A 7816392313619706465
  have x3 : bits .xor .u64 (U B) 8387220255154660723 = U (newS A B).d := q_xor B 8387220255154660723
  generalize hr : refHash A B l = r
  have HR := Lib.hid hr
  clear hr
  go_enter Try.func62, Try.ntmps62
  go_wp2_with fail
  generalize hw1 : (w.alloc (.cells #[.int .u64 (U A), .int .u64 (U B)] 98)).alloc (.cells #[.int .u64 (U (newS A B).a), .int .u64 (U (newS A B).b), .int .u64 (U (newS A B).c), .int .u64 (U (newS A B).d)] 134) = w1
  have hV : Box w w1 (w.heap.size + 1) (newS A B) := by
    rw [← hw1]
    refine ⟨?_, ((Below.refl _ _).alloc (Nat.le_refl _) _).alloc (by simp) _, by omega⟩
    rw [show w.heap.size + 1 = (w.alloc (.cells #[.int .u64 (U A), .int .u64 (U B)] 98)).heap.size by simp]
    exact World.alloc_heap_new _ _
  have HV := Lib.hid hV
  generalize hst : newS A B = st at *
  have HST := Lib.hid hst
  clear hw1 hV x0 x1 x2 x3 hst
  go_loopw [1, 25, 26, 27, 28, 29, 30] (fun c _ _ _ _ _ _ wr => ∃ m : List UInt8, c = .string ⟨m.toArray⟩ ∧ wr = w1 ∧ Hid (∃ j, j ≤ pd l ∧ m = l ++ List.replicate j 0)) (fun c _ _ _ _ _ _ _ => l.length + pd l - strLen c)
  case atStart => exact ⟨l, rfl, rfl, Lib.hid ⟨0, by omega, by simp⟩⟩
  case round =>
    obtain ⟨m, rfl, rfl, hm⟩ := hrel
    have hml : m.length ≤ 1000007 := by
      obtain ⟨j, hj, rfl⟩ := hm.out
      have := pd_le l
      simp; omega
    by_cases hil : m.length % 8 = 7
    · have e1 : ((m.length : Int) % 8 != 7) = false := by simp; omega
      obtain ⟨cl, hcl⟩ : ∃ cl, cl = UInt8.ofNat (l.length % 256) := ⟨_, rfl⟩
      have e5 : (l.length : Int) % 256 = (cl.toNat : Int) := by rw [hcl]; simp
      have hconv := conv_one cl
      have hpad : pad l = m ++ [cl] := by
        obtain ⟨j, hj, rfl⟩ := hm.out
        have := pd_first l j hj (by simpa using hil)
        subst this
        rw [hcl]; rfl
      have hq8 : (pad l).length = (l.length + 8) / 8 * 8 := by
        unfold pad pd; simp; omega
      have HCL := Lib.hid hcl
      have HP := Lib.hid hpad
      have HQ := Lib.hid hq8
      clear hcl hpad hq8
      go_wp2_with fail
      have hbx := HV.out.grow ((Below.refl wr.heap.size wr).alloc (Nat.le_refl _) (.cells #[.int .u8 (cl.toNat : Int)] 5))
      have hit : (refIt ((m ++ [cl]).length / 8) st (m ++ [cl])).fin = r := by
        rw [← HP.out, HQ.out, ← HST.out, ← HR.out]
        unfold refHash
        rw [Nat.mul_div_cancel _ (by decide)]
      have hq8 : (m ++ [cl]).length % 8 = 0 := by rw [← HP.out, HQ.out, Nat.mul_mod_left]
      have hql : (m ++ [cl]).length ≤ 1000008 := by simp; omega
      generalize m ++ [cl] = q0 at *
      generalize wr.alloc (.cells #[.int .u8 (cl.toNat : Int)] 5) = w2 at *
      have HB := Lib.hid hbx
      have HIT := Lib.hid hit
      clear hbx hit hm hil e1 hml HV HCL HP HQ hconv e5
      go_loopw [1, 7, 8, 37, 38, 39, 40, 41, 42, 43, 44, 45, 46, 47, 48, 49, 50, 51, 52, 53, 54, 55, 56, 57, 58, 59, 60, 61, 62, 63, 64, 65]
        (fun c _ _ _ _ _ _ _ _ _ _ _ _ _ _ _ _ _ _ _ _ _ _ _ _ _ _ _ _ _ _ _ wr => ∃ (q : List UInt8) (s : S4), c = .string ⟨q.toArray⟩ ∧ Hid (Box w wr (w.heap.size + 1) s) ∧ q.length % 8 = 0 ∧ q.length ≤ 1000008 ∧ Hid ((refIt (q.length / 8) s q).fin = r)) (fun c _ _ _ _ _ _ _ _ _ _ _ _ _ _ _ _ _ _ _ _ _ _ _ _ _ _ _ _ _ _ _ _ => strLen c)
      case atStart => exact ⟨q0, st, rfl, HB, hq8, hql, HIT⟩
      case round =>
        obtain ⟨q, s, rfl, hB, hq8, hql, hit⟩ := hrel
        by_cases hq0 : 0 < q.length
        · have e1 : decide ((0 : Int) < (q.length : Int)) = true := decide_eq_true (by omega)
          have e2 : decide ((q.length : Int) > 0) = true := e1
          obtain ⟨n, hn8⟩ : ∃ n, q.length / 8 = n + 1 := ⟨q.length / 8 - 1, by omega⟩
          have hit' : (refIt n (s.take (word (q.take 8))) (q.drop 8)).fin = r := by rw [← hit.out, hn8]; rfl
          have HIT' := Lib.hid hit'
          have HN := Lib.hid hn8
          clear hit' hn8
          go_wp2_with fail
          go_loopw [7, 8, 40, 41, 42, 43, 44, 45, 46, 47, 48, 49, 50] (fun x i _ _ _ _ _ _ _ _ _ _ _ wr' => ∃ k : Nat, k ≤ 8 ∧ i = .int .i64 ((k : Int) - 1) ∧ x = .int .u64 (U (word ((q.take 8).drop k))) ∧ wr' = wr) (fun _ i _ _ _ _ _ _ _ _ _ _ _ _ => (intOf i + 1).toNat)
          case atStart => exact ⟨8, by omega, rfl, by simp [word, hN]; rfl, rfl⟩
          case round =>
            obtain ⟨k, hk, rfl, rfl, rfl⟩ := hrel
            by_cases hk0 : 0 < k
            · have e3 : decide (0 ≤ (k : Int) - 1) = true := decide_eq_true (by omega)
              have e4 : decide ((k : Int) - 1 ≥ 0) = true := e3
              go_wp2_with fail
              refine ⟨⟨k - 1, by omega, by go_num, ?_, trivial⟩, by simp [intOf]; omega⟩
              have hkq : k - 1 < (q.take 8).length := by simp; omega
              have e : (q.take 8).drop (k - 1) = q[k - 1]'(by simp at hkq; omega) :: (q.take 8).drop k := by
                rw [List.drop_eq_getElem_cons hkq, List.getElem_take, show k - 1 + 1 = k by omega]
              rw [e]
              exact congrArg _ (word_cons _ _)
            · have e3 : decide (0 ≤ (k : Int) - 1) = false := decide_eq_false (by omega)
              have e4 : decide ((k : Int) - 1 ≥ 0) = false := e3
              obtain rfl : k = 0 := by omega
              rw [List.drop_zero]
              obtain ⟨x, hx⟩ : ∃ x, word (q.take 8) = x := ⟨_, rfl⟩
              have HX := Lib.hid hx
              rw [hx]
              clear hx
              obtain ⟨k0, k1, k2, k3, f0, f1, f2, f3⟩ := hB.out.look
              go_wp2_with fail
              have h1 := hB.out.put ⟨s.a, s.b, s.c, s.d ^^^ x⟩ 3 (s.d ^^^ x) rfl
              generalize hdx : s.d ^^^ x = dx at *
              have HDX := Lib.hid hdx
              clear hdx
              refine (plain_round ⟨s.a, s.b, s.c, dx⟩ _).mono ?_
              rintro e X ⟨rfl, hX⟩
              have h2 := h1.grow hX
              go_wp2_with fail
              refine (plain_round (S4.round ⟨s.a, s.b, s.c, dx⟩) _).mono ?_
              rintro e Y ⟨rfl, hY⟩
              have h3 := h2.grow hY
              obtain ⟨t, ht⟩ : ∃ t, t = (S4.round ⟨s.a, s.b, s.c, dx⟩).round := ⟨_, rfl⟩
              rw [← ht]
              have HT := Lib.hid ht
              clear ht h1 h2 k0 k1 k2 k3 f0 f1 f2 f3 hX hY
              have H3 := Lib.hid h3
              obtain ⟨k0, k1, k2, k3, f0, f1, f2, f3⟩ := h3.look
              clear h3
              obtain ⟨ax, hax⟩ : ∃ ax, ax = t.a ^^^ x := ⟨_, rfl⟩
              have e5 : bits .xor .u64 (U t.a) (U x) = U ax := by rw [hax]; exact q_xor t.a x
              have HAX := Lib.hid hax
              clear hax
              go_wp2_with fail
              obtain ⟨d1, d2, d3⟩ := drop8 q hq8 n HN.out
              have ht : s.take x = ⟨ax, t.b, t.c, t.d⟩ := by
                rw [HAX.out, HT.out, ← HDX.out]; rfl
              have hb := (H3.out.puts t).put ⟨ax, t.b, t.c, t.d⟩ 0 ax rfl
              refine ⟨⟨q.drop 8, ⟨ax, t.b, t.c, t.d⟩, by rw [ba_drop], Lib.hid hb, d1, by omega, Lib.hid ?_⟩, ?_⟩
              · rw [d2, ← ht, ← HX.out]; exact HIT'.out
              · rw [ba_drop]; exact d3
        · have e1 : decide ((0 : Int) < (q.length : Int)) = false := decide_eq_false (by omega)
          have e2 : decide ((q.length : Int) > 0) = false := e1
          obtain rfl : q = [] := List.eq_nil_of_length_eq_zero (by omega)
          obtain ⟨k0, k1, k2, k3, f0, f1, f2, f3⟩ := hB.out.look
          have e3 : bits .xor .u64 (U s.c) 255 = U (s.c ^^^ 255) := q_xor s.c 255
          go_wp2_with fail
          have h0 := hB.out.put ⟨s.a, s.b, s.c ^^^ 255, s.d⟩ 2 (s.c ^^^ 255) rfl
          have hfin : S4.fin s = r := hit.out
          unfold S4.fin at hfin
          generalize hcx : s.c ^^^ 255 = cx at *
          have HCX := Lib.hid hcx
          clear hcx
          refine (plain_round ⟨s.a, s.b, cx, s.d⟩ _).mono ?_
          rintro e X ⟨rfl, hX⟩
          have h1 := h0.grow hX
          generalize S4.round ⟨s.a, s.b, cx, s.d⟩ = r1 at *
          go_wp2_with fail
          refine (plain_round r1 _).mono ?_
          rintro e X2 ⟨rfl, hX2⟩
          have h2 := h1.grow hX2
          generalize S4.round r1 = r2 at *
          go_wp2_with fail
          refine (plain_round r2 _).mono ?_
          rintro e X3 ⟨rfl, hX3⟩
          have h3 := h2.grow hX3
          generalize S4.round r2 = r3 at *
          go_wp2_with fail
          refine (plain_round r3 _).mono ?_
          rintro e X4 ⟨rfl, hX4⟩
          have h4 := h3.grow hX4
          generalize S4.round r3 = r4 at *
          have HF := Lib.hid hfin
          clear h0 h1 h2 h3 hX hX2 hX3 hX4 hfin k0 k1 k2 k3 f0 f1 f2 f3
          have H4 := Lib.hid h4
          obtain ⟨k0, k1, k2, k3, f0, f1, f2, f3⟩ := h4.look
          clear h4
          go_wp2_with fail
          have hb := H4.out.puts r4
          go_ret
          exact ⟨by rw [HF.out]; rfl, hb.below⟩
    · have e1 : ((m.length : Int) % 8 != 7) = true := by simp; omega
      go_wp2_with fail
      obtain ⟨j, hj, hmj⟩ := hm.out
      refine ⟨⟨m ++ [0], rfl, trivial, Lib.hid ⟨j + 1, ?_, ?_⟩⟩, ?_⟩
      · have := pd_end l
        have : m.length = l.length + j := by rw [hmj]; simp
        have : j ≠ pd l := fun e => hil (by omega)
        omega
      · rw [hmj, List.append_assoc, List.replicate_succ']
      · simp [strLen, ByteArray.size]
        have := pd_end l
        have : m.length = l.length + j := by rw [hmj]; simp
        have : j ≠ pd l := fun e => hil (by omega)
        omega
end Go.Proofs.Ytkdbbdlkfpjdfaa

/- The hash of the package is the hash that its page describes.
   Conditions: those that each theorem names. -/
namespace Go.Proofs.Ytkdbbdlkfpjdfaa
set_option maxRecDepth 100000
set_option linter.unusedVariables false
set_option linter.unusedSimpArgs false
set_option linter.unusedVariables false
open Go.RowKit Go.Rg
theorem hN_append : ∀ p l : List UInt8, hN (p ++ l) = hN p + 256 ^ p.length * hN l
  | [], l => by simp [hN]
  | c :: p, l => by
    simp only [List.cons_append, hN, hN_append p l, List.length_cons, Nat.pow_succ]
    rw [Nat.mul_add, Nat.add_assoc, ← Nat.mul_assoc, Nat.mul_comm 256 (256 ^ p.length)]
theorem hN_zeros : ∀ k : Nat, hN (List.replicate k 0) = 0
  | 0 => rfl
  | k + 1 => by rw [List.replicate_succ, hN, hN_zeros k]; rfl
theorem or_add (a b i : Nat) (h : b < 2 ^ i) : b ||| 2 ^ i * a = b + 2 ^ i * a := by
  rw [Nat.or_comm, ← Nat.two_pow_add_eq_or_of_lt h, Nat.add_comm]
theorem word_toNat (l : List UInt8) (h : l.length ≤ 8) : (word l).toNat = hN l := by
  have h1 := hN_lt l
  have h2 : 256 ^ l.length ≤ 256 ^ 8 := Nat.pow_le_pow_right (by decide) h
  unfold word
  rw [UInt64.toNat_ofNat', Nat.mod_eq_of_lt (by omega)]
theorem word_snoc (p : List UInt8) (c : UInt8) (h : p.length ≤ 7) : word p ||| sh c p.length = word (p ++ [c]) := by
  apply UInt64.toNat_inj.1
  rw [UInt64.toNat_or, word_toNat p (by omega), word_toNat (p ++ [c]) (by simp; omega), hN_append]
  have h1 := hN_lt p
  have hc := c.toNat_lt
  have e : (256 : Nat) ^ p.length = 2 ^ (8 * p.length) := by rw [Nat.pow_mul]
  have es : (sh c p.length).toNat = 2 ^ (8 * p.length) * c.toNat := by
    unfold sh
    have hlt : 2 ^ (8 * p.length) * c.toNat < 2 ^ 64 := by
      have : 2 ^ (8 * p.length) ≤ 2 ^ 56 := Nat.pow_le_pow_right (by decide) (by omega)
      calc 2 ^ (8 * p.length) * c.toNat ≤ 2 ^ 56 * c.toNat := Nat.mul_le_mul_right _ this
        _ < 2 ^ 64 := by omega
    rw [UInt64.toNat_shiftLeft]
    simp
    rw [Nat.mod_eq_of_lt (show 8 * p.length < 64 by omega), Nat.shiftLeft_eq, Nat.mul_comm, Nat.mod_eq_of_lt hlt]
  rw [es, e, or_add _ _ _ (e ▸ h1)]
  simp [hN]
theorem write_part (s : S4) (n : Nat) (h8 : n % 8 = 0) : ∀ (l p : List UInt8), p.length + l.length ≤ 7 → (Sp.mk s (word p) (n + p.length)).write l = Sp.mk s (word (p ++ l)) (n + (p ++ l).length)
  | [], p, _ => by simp [Sp.write]
  | c :: l, p, h => by
    simp only [List.length_cons] at h
    have e : (Sp.mk s (word p) (n + p.length)).write (c :: l) = ((Sp.mk s (word p) (n + p.length)).step c).write l := rfl
    have e2 : (Sp.mk s (word p) (n + p.length)).step c = Sp.mk s (word (p ++ [c])) (n + (p ++ [c]).length) := by
      unfold Sp.step
      dsimp only
      rw [if_neg (by omega), show (n + p.length) % 8 = p.length by omega, word_snoc p c (by omega)]
      simp [Nat.add_assoc]
    rw [e, e2, write_part s n h8 l (p ++ [c]) (by simp; omega)]
    simp
theorem write_eight (s : S4) (n : Nat) (h8 : n % 8 = 0) (l : List UInt8) (hl : l.length = 8) : (Sp.mk s 0 n).write l = Sp.mk (s.take (word l)) 0 (n + 8) := by
  have e : l = l.take 7 ++ [l[7]] := by
    have := List.take_append_getElem (l := l) (i := 7) (by omega)
    rw [this, List.take_of_length_le (by omega)]
  have h7 : (l.take 7).length = 7 := by simp; omega
  generalize l.take 7 = p at *
  generalize l[7] = c at *
  subst e
  have e1 := write_part s n h8 p [] (by simp; omega)
  rw [Sp.write_append]
  have e0 : Sp.mk s 0 n = Sp.mk s (word []) (n + ([] : List UInt8).length) := rfl
  rw [e0, e1]
  show Sp.step _ c = _
  unfold Sp.step
  simp only [List.nil_append, h7]
  rw [if_pos (by omega), show (n + 7) % 8 = 7 by omega]
  have := word_snoc p c (by omega)
  rw [h7] at this
  rw [this]
def padN (N : Nat) (l : List UInt8) : List UInt8 := l ++ List.replicate (pd l) 0 ++ [UInt8.ofNat (N % 256)]
theorem word_pad (N : Nat) (l : List UInt8) (hl : l.length ≤ 7) : word (padN N l) = word l ||| top N := by
  have hpd : l.length + pd l = 7 := by unfold pd; omega
  have h7 : (l ++ List.replicate (pd l) 0).length = 7 := by simp; omega
  unfold padN
  rw [← word_snoc _ _ (by omega), h7]
  have e1 : word (l ++ List.replicate (pd l) 0) = word l := by unfold word; rw [hN_append, hN_zeros]; simp
  have e2 : sh (UInt8.ofNat (N % 256)) 7 = top N := by
    apply UInt64.toNat_inj.1
    unfold sh top
    simp only [UInt64.toNat_shiftLeft]
    simp [Nat.shiftLeft_eq]
    omega
  rw [e1, e2]
theorem walk_eq (N k : Nat) : ∀ (l : List UInt8) (s : S4) (n : Nat), n % 8 = 0 → n + l.length = N → l.length / 8 = k →
    ((Sp.mk s 0 n).write l).sum = (refIt ((l.length + 8) / 8) s (padN N l)).fin := by
  induction k with
  | zero =>
    intro l s n h8 hN hk
    have hl : l.length ≤ 7 := by omega
    have e1 := write_part s n h8 l [] (by simp; omega)
    have e0 : Sp.mk s 0 n = Sp.mk s (word []) (n + ([] : List UInt8).length) := rfl
    rw [e0, e1, show (l.length + 8) / 8 = 1 by omega]
    have hpd : l.length + pd l = 7 := by unfold pd; omega
    have h8' : (padN N l).length = 8 := by unfold padN; simp; omega
    have e2 : refIt 1 s (padN N l) = S4.take s (word (padN N l)) := by
      unfold refIt refIt
      rw [List.take_of_length_le (by omega)]
    rw [e2, word_pad N l hl]
    unfold Sp.sum
    simp only [List.nil_append, hN]
  | succ k ih =>
    intro l s n h8 hN hk
    have hl : 8 ≤ l.length := by omega
    have e8 : (l.take 8).length = 8 := by simp; omega
    have ed : (l.drop 8).length = l.length - 8 := by simp
    have e : (Sp.mk s 0 n).write l = (Sp.mk (s.take (word (l.take 8))) 0 (n + 8)).write (l.drop 8) := by
      rw [← write_eight s n h8 _ e8, ← Sp.write_append, List.take_append_drop]
    have epd : pd (l.drop 8) = pd l := by unfold pd; rw [ed]; omega
    have ep : padN N l = l.take 8 ++ padN N (l.drop 8) := by
      unfold padN
      rw [epd, ← List.append_assoc, ← List.append_assoc, List.take_append_drop]
    rw [e, ih (l.drop 8) _ (n + 8) (by omega) (by omega) (by omega), ed, show (l.length + 8) / 8 = (l.length - 8 + 8) / 8 + 1 by omega]
    rw [refIt, ep, List.take_left' e8, List.drop_left' e8]
/-- **The two hashes are one.** -/
theorem hash_eq (A B : UInt64) (l : List UInt8) : hashS A B l = refHash A B l := by
  unfold hashS refHash newP
  exact walk_eq l.length _ l _ 0 rfl (by simp) rfl
end Go.Proofs.Ytkdbbdlkfpjdfaa

/- Contracts of the words that the laws of package sip lean on.
   Conditions: those that each theorem names. -/
namespace Go.Proofs.Ytkdbbdlkfpjdfaa
set_option maxRecDepth 100000
set_option linter.unusedVariables false
set_option linter.unusedSimpArgs false
set_option linter.unusedVariables false
open Go.RowKit Go.Rg
attribute [local go_sem] Rg.q_add Rg.q_add' Rg.q_xor Rg.q_or Rg.q_and ba_app
theorem plain_seed_any (n : Int) (w : World) : Calls Try.prog 63 #[.int .i64 n] w fun e w' => e = .returned (seedV n) ∧ Below w.heap.size w w' := by
  have E1 := U_sA n
  have E2 : IntKind.u64.wrap (18446744073709551615 - U (sA n)) = U (sB n) := by
    unfold sB
    have e : ∀ x : UInt64, (18446744073709551615 ^^^ x) = 18446744073709551615 - x := by
      intro x
      apply UInt64.toBitVec_inj.1
      show BitVec.allOnes 64 ^^^ x.toBitVec = BitVec.allOnes 64 - x.toBitVec
      rw [BitVec.allOnes_sub_eq_not, BitVec.allOnes_xor]
    rw [e, wrap_u64]
    exact q_sub' 18446744073709551615 (sA n)
  go_enter Try.func63, Try.ntmps63
  go_wp2_with fail
  exact bodyPost_ret (v := seedV n) (by simp [results, Try.results63, go_sem]) rfl ⟨rfl, (Below.refl _ _).alloc (Nat.le_refl _) _⟩

def tot (ls : List (List UInt8)) : Nat := ls.length + ls.flatten.length
theorem tot_take (ls : List (List UInt8)) (i : Nat) (h : i < ls.length) : tot (ls.take (i + 1)) = tot (ls.take i) + (1 + (ls[i]?.getD []).length) := by
  unfold tot
  rw [flat_take ls i h, List.length_append]
  simp; omega
theorem tot_le (ls : List (List UInt8)) (i : Nat) : tot (ls.take i) ≤ tot ls := by
  have h1 := flat_take_le ls i
  have h2 := List.length_take_le i ls
  have h3 : (ls.take i).length ≤ ls.length := by rw [List.length_take]; omega
  unfold tot
  omega

end Go.Proofs.Ytkdbbdlkfpjdfaa

/- Contracts of the words that the laws of package sip lean on.
   Conditions: those that each theorem names. -/
namespace Go.Proofs.Ytkdbbdlkfpjdfaa
set_option maxRecDepth 100000
set_option linter.unusedVariables false
set_option linter.unusedSimpArgs false
set_option linter.unusedVariables false
open Go.RowKit Go.Rg
attribute [local go_sem] Rg.q_add Rg.q_add' Rg.q_xor Rg.q_or Rg.q_and ba_app
/-! ### Eight bytes, marks -/
def nb (h : UInt64) (i : Nat) : UInt8 := UInt8.ofNat (h.toNat / 256 ^ i)
def eightB (h : UInt64) : Nat → List UInt8
  | 0 => []
  | i + 1 => nb h i :: eightB h i
theorem eight_any (x : UInt64) (w : World) : Calls Try.prog 69 #[.int .u64 (U x)] w fun e w' => e = .returned (str (eightB x 8)) ∧ Below w.heap.size w w' := by
  obtain ⟨r, hr⟩ : ∃ r, eightB x 8 = r := ⟨_, rfl⟩
  rw [hr]
  have HR := Lib.hid hr
  clear hr
  go_enter Try.func69, Try.ntmps69
  go_wp2_with fail
  go_loopw [0, 3, 4] (fun y s c wr => Below w.heap.size w wr ∧ ∃ i : Nat, i ≤ 8 ∧ c = .int .i64 i ∧ y = .int .u64 (U x / 256 ^ i) ∧ s = .string ⟨(eightB x i).toArray⟩) (fun _ _ c _ => 8 - (intOf c).toNat)
  case atStart => exact ⟨Below.refl _ _, 0, by omega, rfl, by simp, rfl⟩
  case round =>
    obtain ⟨hB, i, hi, rfl, rfl, rfl⟩ := hrel
    by_cases hil : i < 8
    · have e1 : decide ((i : Int) < 8) = true := decide_eq_true (by omega)
      have hc : U x / 256 ^ i % 256 = ((nb x i).toNat : Int) := by
        unfold U nb
        rw [UInt8.toNat_ofNat', Int.natCast_emod, Int.natCast_ediv, Int.natCast_pow]
        rfl
      have hconv := conv_one (nb x i)
      have hl : (eightB x i).length ≤ 8 := by
        have : ∀ j, (eightB x j).length = j := fun j => by induction j with
          | zero => rfl
          | succ j ih => simp [eightB, ih]
        rw [this]; omega
      have hq : U x / 256 ^ i / 256 = U x / 256 ^ (i + 1) := by
        rw [Int.pow_succ, Int.ediv_ediv_of_nonneg (Int.pow_nonneg (by decide))]
      have hy0 : 0 ≤ U x / 256 ^ i := Int.ediv_nonneg (U_nonneg x) (Int.pow_nonneg (by decide))
      have hy1 : U x / 256 ^ i < 18446744073709551616 := Int.lt_of_le_of_lt (Int.ediv_le_self _ (U_nonneg x)) (U_lt x)
      have HQ := Lib.hid hq
      obtain ⟨c, hcc⟩ : ∃ c, c = nb x i := ⟨_, rfl⟩
      rw [← hcc] at hc hconv
      have HC := Lib.hid hcc
      have hc' : ((U x / 256 ^ i).tmod 256) = (c.toNat : Int) := by rw [Int.tmod_eq_emod_of_nonneg hy0]; exact hc
      have hq' : ((U x / 256 ^ i).tdiv 256) = U x / 256 ^ (i + 1) := by rw [Int.tdiv_eq_ediv_of_nonneg hy0]; exact hq
      clear hq hcc
      obtain ⟨m, hm⟩ : ∃ m, eightB x i = m := ⟨_, rfl⟩
      rw [hm] at hl ⊢
      have HM := Lib.hid hm
      clear hm
      go_wp2_with fail
      have hw : IntKind.u64.wrap (U x / 256 ^ (i + 1)) = U x / 256 ^ (i + 1) := by
        refine wraps_u64 _ (Int.ediv_nonneg (U_nonneg x) (Int.pow_nonneg (by decide))) ?_
        exact Int.lt_of_le_of_lt (Int.ediv_le_self _ (U_nonneg x)) (U_lt x)
      refine ⟨⟨hB.alloc hB.size _, i + 1, by omega, by go_num, by rw [hw], ?_⟩, by simp [intOf]; omega⟩
      rw [HC.out, ← HM.out]; rfl
    · have e1 : decide ((i : Int) < 8) = false := decide_eq_false (by omega)
      obtain rfl : i = 8 := by omega
      rw [HR.out]
      generalize U x / 256 ^ 8 = y at *
      go_wp2_with fail
      go_ret
      exact ⟨rfl, hB⟩

theorem eightB_get (x : UInt64) (k : Nat) (hk : k < 8) : (eightB x 8)[k]? = some (mb x k) := by
  have e : ∀ i, nb x i = (x >>> (8 * i).toUInt64).toUInt8 ∨ 8 ≤ i := by
    intro i
    by_cases h : i < 8
    · left
      apply UInt8.toNat_inj.1
      unfold nb
      rw [UInt8.toNat_ofNat', UInt64.toNat_toUInt8, UInt64.toNat_shiftRight]
      simp
      rw [Nat.mod_eq_of_lt (show 8 * i < 64 by omega), Nat.shiftRight_eq_div_pow, Nat.pow_mul]
    · right; omega
  have e' : ∀ i, i < 8 → nb x i = (x >>> (8 * i).toUInt64).toUInt8 := fun i hi => (e i).resolve_right (by omega)
  rcases k with _|_|_|_|_|_|_|_|k
  all_goals first | omega | (simp only [eightB, List.getElem?_cons_zero, List.getElem?_cons_succ]; rw [e' _ (by omega)]; rfl)
theorem eightB_eq (x : UInt64) : eightB x 8 = (List.range 8).map (mb x) := by
  apply List.ext_getElem?
  intro k
  by_cases hk : k < 8
  · rw [eightB_get x k hk]; simp [hk]
  · rw [List.getElem?_eq_none (by simp [eightB]; omega), List.getElem?_eq_none (by simp; omega)]
theorem mark_list (h1 h2 : UInt64) : eightB h1 8 ++ eightB h2 8 = (List.range 16).map (markH h1 h2) := by
  rw [eightB_eq, eightB_eq]; rfl

end Go.Proofs.Ytkdbbdlkfpjdfaa

