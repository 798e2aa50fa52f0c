/- Marks and cells: what package cell's functions come to.
   Conditions: those that each theorem names. -/
import Derived.Test.YtkdbbdlkfpjdfaaBs
import Derived.Test.YtkdbbdlkfpjdfaaSp
namespace Go.Proofs.Ytkdbbdlkfpjdfaa
set_option maxRecDepth 100000
set_option linter.unusedVariables false
set_option linter.unusedSimpArgs false
open Go.RowKit Go.Rg
attribute [local go_sem] Rg.q_add Rg.q_add' Rg.q_xor Rg.q_or Rg.q_and
/-! ### The plain things -/
def xorL (a b : List UInt8) : List UInt8 := List.zipWith (fun x y => x ^^^ y) a b
theorem xorL_length {a b : List UInt8} (h : a.length = b.length) : (xorL a b).length = a.length := by simp [xorL, h]
def check (m : List UInt8) : UInt64 := hashS (sA 3) (sB 3) m
structure Ce where
  n : Int
  m : List UInt8
  h : UInt64
def Ce.vals (c : Ce) : List Value := .int .i64 c.n :: (c.m.map byteV ++ [.int .u64 (U c.h)])
def cellV (c : Ce) : Value := .agg c.vals.toArray
def Ce.add (a b : Ce) : Ce := ⟨IntKind.i64.wrap (a.n + b.n), xorL a.m b.m, a.h ^^^ b.h⟩
def Ce.sub (a b : Ce) : Ce := ⟨IntKind.i64.wrap (a.n - b.n), xorL a.m b.m, a.h ^^^ b.h⟩
def Ce.of (m : List UInt8) : Ce := ⟨1, m, check m⟩
attribute [local go_sem] markV cellV
theorem byteV_one (l : List UInt8) : ∀ v ∈ l.map byteV, v.oneCell' = true := bytes_oneCell l
theorem Ce.one (c : Ce) : ∀ v ∈ c.vals, v.oneCell' = true := by
  intro v hv
  simp only [Ce.vals, List.mem_cons, List.mem_append, List.not_mem_nil, or_false] at hv
  rcases hv with rfl | h | rfl
  · rfl
  · exact byteV_one _ v h
  · rfl
theorem Ce.vals_length (c : Ce) (h : c.m.length = 16) : c.vals.length = 18 := by simp [Ce.vals, h]
/-- A whole array of bytes, read and written in a block. -/
theorem mark_bytes {w : World} {b o : Nat} {cs : List Value} {T : TypeId} {m : List UInt8} (h : w.heap[b]? = some (.cells cs.toArray T (0, 0))) (hm : ∀ j, j < m.length → cs[o + j]? = some (byteV (m[j]?.getD 0))) (cap : Nat) :
    BytesAt w (.slice (some ⟨b, o, none⟩) m.length cap) m := by
  refine ⟨_, cap, rfl, fun i hi => ⟨b, o, rfl, blk_lt h, ?_⟩⟩
  rw [cell_at h, hm i hi]; rfl

theorem rows_one (w : World) (u : Value) (l : List UInt8) (T : TypeId) (h : BytesAt w u l) : RowsAt (w.alloc (.cells #[u] T)) (.slice (some ⟨w.heap.size, 0, none⟩) 1 1) [l] := by
  refine ⟨_, _, rfl, fun i hi => ?_⟩
  obtain rfl : i = 0 := by simp at hi; omega
  exact ⟨w.heap.size, 0, u, rfl, by simp, by rw [World.cell?, World.alloc_heap_new]; rfl, h.below ((Below.refl _ _).alloc (Nat.le_refl _) _)⟩
set_option maxHeartbeats 1000000 in
theorem check_any (m : List UInt8) (hm : m.length = 16) (w : World) : Calls Try.prog 14 #[markV m] w fun e w' => e = .returned (.int .u64 (U (check m))) ∧ Below w.heap.size w w' := by
  unfold markV
  go_enter Try.func14, Try.ntmps14
  go_wp2_with fail
  have hb : (w.alloc (.cells (m.map byteV).toArray 23)).heap[w.heap.size]? = some (.cells (m.map byteV).toArray 23 (0, 0)) := World.alloc_heap_new _ _
  have hB : Below w.heap.size w (w.alloc (.cells (m.map byteV).toArray 23)) := (Below.refl _ _).alloc (Nat.le_refl _) _
  have hlt := blk_lt hb
  generalize w.alloc (.cells (m.map byteV).toArray 23) = w1 at *
  have HM := Lib.hid hm
  have HBB := Lib.hid hb
  have HBL := Lib.hid hB
  clear hm hb hB
  refine wp_region_vals [[], [], [1], [0, 2], [3]] (fun X => Below w1.heap.size w1 X) (fun X Y => Below X.heap.size X Y) (by kernel_rfl) (by kernel_rfl) (by kernel_rfl) (Below.drew (Below.refl _ _)) (fun X Y hC hG => hC.trans (hG.mono hC.size)) ?_
  iterate 2
    (apply vals_fx
     · intro vs X hX hA
       try simp only [List.cons_append, List.nil_append, List.getD_cons_zero, List.getD_cons_succ, List.forall_mem_cons, List.not_mem_nil, false_implies, implies_true, and_true] at hA
       simp only [List.getD_cons_zero, List.getD_cons_succ, putL, dstOf, List.foldl_nil, List.foldl_cons, List.getElem?_toArray, List.getElem?_cons_zero, List.getElem?_cons_succ, Option.bind_some, Act.put, List.setIfInBounds_toArray, List.set_cons_zero, List.set_cons_succ]
       try simp only [hA]
       go_wp2_with fail
       first
       | exact ⟨_, rfl, Below.refl _ _, rfl⟩
       | (refine (seed_any 3 _).mono ?_; rintro e w' ⟨rfl, hB⟩; go_wp2_with fail; exact ⟨_, rfl, hB, rfl⟩)
     simp only [List.cons_append, List.nil_append])
  apply vals_pr (fun v X => RowsAt X v [m]) (by rintro v X Y _ hG h; exact h.below hG)
  · intro vs X hX hA
    try simp only [List.cons_append, List.nil_append, List.getD_cons_zero, List.getD_cons_succ, List.forall_mem_cons, List.not_mem_nil, false_implies, implies_true, and_true] at hA
    simp only [List.getD_cons_zero, List.getD_cons_succ, putL, dstOf, List.foldl_nil, List.foldl_cons, List.getElem?_toArray, List.getElem?_cons_zero, List.getElem?_cons_succ, Option.bind_some, Act.put, List.setIfInBounds_toArray, List.set_cons_zero, List.set_cons_succ]
    try simp only [hA]
    have hbx := (hX.block _ hlt).trans HBB.out
    have hby := mark_bytes (o := 0) hbx (m := m) (fun j hj => by rw [Nat.zero_add, List.getElem?_map, List.getElem?_eq_getElem hj]; rfl) 16
    rw [HM.out] at hby
    have HR := Lib.hid (rows_one X _ m 41 hby)
    clear hbx hby
    go_wp2_with fail
    exact ⟨_, rfl, (Below.refl _ _).alloc (Nat.le_refl _) _, HR.out⟩
  apply vals_fx
  · intro vs X hX hA
    try simp only [List.cons_append, List.nil_append, List.getD_cons_zero, List.getD_cons_succ, List.forall_mem_cons, List.not_mem_nil, false_implies, implies_true, and_true] at hA
    simp only [List.getD_cons_zero, List.getD_cons_succ, putL, dstOf, List.foldl_nil, List.foldl_cons, List.getElem?_toArray, List.getElem?_cons_zero, List.getElem?_cons_succ, Option.bind_some, Act.put, List.setIfInBounds_toArray, List.set_cons_zero, List.set_cons_succ]
    try simp only [hA]
    have HR := Lib.hid hA.2
    clear hA
    go_wp2_with fail
    refine (hash_any _ _ _ [m] X HR.out (by simp [HM.out]) (by simp)).mono ?_
    rintro e w' ⟨rfl, hB⟩
    go_wp2_with fail
    exact ⟨_, rfl, hB, rfl⟩
  repeat
    (apply vals_fx
     · intro vs X hX hA
       try simp only [List.cons_append, List.nil_append, List.getD_cons_zero, List.getD_cons_succ, List.forall_mem_cons, List.not_mem_nil, false_implies, implies_true, and_true] at hA
       simp only [List.getD_cons_zero, List.getD_cons_succ, putL, dstOf, List.foldl_nil, List.foldl_cons, List.getElem?_toArray, List.getElem?_cons_zero, List.getElem?_cons_succ, Option.bind_some, Act.put, List.setIfInBounds_toArray, List.set_cons_zero, List.set_cons_succ]
       try simp only [hA]
       go_wp2_with fail
       exact ⟨_, rfl, Below.refl _ _, rfl⟩
     simp only [List.cons_append, List.nil_append])
  refine vals_nil ?_
  intro vs X hX hA
  rw [(fun (l : List Oper) (h : l.length = 5) => (by rw [h]; rfl : List.range l.length = [0, 1, 2, 3, 4])) _ rfl]
  simp only [List.getD_cons_zero, List.getD_cons_succ, putL, dstOf, List.foldl_nil, List.foldl_cons, List.getElem?_toArray, List.getElem?_cons_zero, List.getElem?_cons_succ, Option.bind_some, Act.put, List.setIfInBounds_toArray, List.set_cons_zero, List.set_cons_succ]
  have e4 : vs 4 = .int .u64 (U (check m)) := (hA 4 (by decide)).trans (by simp [check])
  rw [e4]
  clear hA e4
  have hB := HBL.out.trans (hX.mono HBL.out.size)
  go_wp2_with fail
  go_ret
  exact ⟨rfl, hB⟩
theorem q_xor8 (a b : UInt8) : bits .xor .u8 (a.toNat : Int) (b.toNat : Int) = ((a ^^^ b).toNat : Int) := by
  have ha : a.toNat % 2 ^ 8 = a.toNat := Nat.mod_eq_of_lt a.toNat_lt
  have hb : b.toNat % 2 ^ 8 = b.toNat := Nat.mod_eq_of_lt b.toNat_lt
  have hx : a.toNat ^^^ b.toNat < 2 ^ 8 := Nat.xor_lt_two_pow a.toNat_lt b.toNat_lt
  have e : IntKind.u8.bits = 8 := rfl
  rw [UInt8.toNat_xor]
  simp only [bits, e, BitVec.ofInt_natCast, BitVec.toNat_xor, BitVec.toNat_ofNat, ha, hb]
  rw [IntKind.wrap_u8]
  omega
theorem list16 {m : List UInt8} (h : m.length = 16) : ∃ a0 a1 a2 a3 a4 a5 a6 a7 a8 a9 b0 b1 b2 b3 b4 b5, m = [a0, a1, a2, a3, a4, a5, a6, a7, a8, a9, b0, b1, b2, b3, b4, b5] := by
  match m, h with
  | [a0, a1, a2, a3, a4, a5, a6, a7, a8, a9, b0, b1, b2, b3, b4, b5], _ => exact ⟨_, _, _, _, _, _, _, _, _, _, _, _, _, _, _, _, rfl⟩
theorem build_cell (c : Ce) (hm : c.m.length = 16) (w : World) : (Instr.build 26 #[(0, .int .i64 c.n), (1, markV c.m), (2, .int .u64 (U c.h))]).run Try.prog w = .ok (cellV c) w := by
  obtain ⟨n, m, h⟩ := c
  obtain ⟨a0, a1, a2, a3, a4, a5, a6, a7, a8, a9, b0, b1, b2, b3, b4, b5, rfl⟩ := list16 hm
  kernel_rfl
def CellAt (b : Nat) (T : TypeId) (c : Ce) (X : World) : Prop := X.heap[b]? = some (.cells c.vals.toArray T (0, 0))
theorem CellAt.below {n b : Nat} {T : TypeId} {c : Ce} {X Y : World} (h : CellAt b T c X) (hB : Below n X Y) (hb : b < n) : CellAt b T c Y := (hB.block b hb).trans h
theorem mark_load {b o : Nat} {T : TypeId} {f : Nat × Nat} {cs : List Value} {m : List UInt8} {X : World} (h : X.heap[b]? = some (.cells cs.toArray T f)) (hm : m.length = 16) (hc : ∀ j v, (m.map byteV)[j]? = some v → cs[o + j]? = some v) :
    (Instr.loadAt 23 (.pointer (some ⟨b, o, none⟩))).run Try.prog X = .ok (.agg (m.map byteV).toArray) X :=
  run_loadAt_mid X b o 23 (m.map byteV) _ (blk_range h o _ hc) Try.underlying23 rfl (by rw [List.length_map, hm]; kernel_rfl)
theorem mark_whole {b : Nat} {T : TypeId} {f : Nat × Nat} {m : List UInt8} {X : World} (h : X.heap[b]? = some (.cells (m.map byteV).toArray T f)) (hm : m.length = 16) :
    (Instr.loadAt 23 (.pointer (some ⟨b, 0, none⟩))).run Try.prog X = .ok (.agg (m.map byteV).toArray) X :=
  mark_load h hm (fun j v hv => by rw [Nat.zero_add]; exact hv)
theorem CellAt.whole {b : Nat} {T : TypeId} {c : Ce} {X : World} (h : CellAt b T c X) (hm : c.m.length = 16) :
    (Instr.loadAt 26 (.pointer (some ⟨b, 0, none⟩))).run Try.prog X = .ok (.agg c.vals.toArray) X :=
  run_loadAt_mid X b 0 26 c.vals _ (blk_all h) Try.underlying26 rfl (by rw [c.vals_length hm]; kernel_rfl)
theorem Ce.get_n (c : Ce) : c.vals[0]? = some (.int .i64 c.n) := rfl
theorem Ce.get_m (c : Ce) (j : Nat) (v : Value) (h : (c.m.map byteV)[j]? = some v) : c.vals[1 + j]? = some v := by
  unfold Ce.vals
  rw [Nat.add_comm 1 j, List.getElem?_cons_succ, List.getElem?_append_left (List.getElem?_eq_some_iff.1 h).1, h]
theorem Ce.get_h (c : Ce) (hm : c.m.length = 16) : c.vals[17]? = some (.int .u64 (U c.h)) := by
  unfold Ce.vals
  rw [List.getElem?_cons_succ, List.getElem?_append_right (by simp [hm]), List.length_map, hm]; rfl
theorem CellAt.mark {b : Nat} {T : TypeId} {c : Ce} {X : World} (h : CellAt b T c X) (hm : c.m.length = 16) :
    (Instr.loadAt 23 (.pointer (some ⟨b, 1, none⟩))).run Try.prog X = .ok (.agg (c.m.map byteV).toArray) X := mark_load h hm c.get_m
theorem CellAt.n {b : Nat} {T : TypeId} {c : Ce} {X : World} (h : CellAt b T c X) : X.cell? ⟨b, 0, none⟩ = some (.int .i64 c.n) := cell_at h 0
theorem CellAt.h {b : Nat} {T : TypeId} {c : Ce} {X : World} (h : CellAt b T c X) (hm : c.m.length = 16) : X.cell? ⟨b, 17, none⟩ = some (.int .u64 (U c.h)) := (cell_at h 17).trans (c.get_h hm)
def Ce.zero : Ce := ⟨0, List.replicate 16 0, 0⟩
abbrev zeroCells : Array Value := #[.int .i64 0, .int .u8 0, .int .u8 0, .int .u8 0, .int .u8 0, .int .u8 0, .int .u8 0, .int .u8 0, .int .u8 0, .int .u8 0, .int .u8 0, .int .u8 0, .int .u8 0, .int .u8 0, .int .u8 0, .int .u8 0, .int .u8 0, .int .u64 0]
abbrev zeroMark : Array Value := #[.int .u8 0, .int .u8 0, .int .u8 0, .int .u8 0, .int .u8 0, .int .u8 0, .int .u8 0, .int .u8 0, .int .u8 0, .int .u8 0, .int .u8 0, .int .u8 0, .int .u8 0, .int .u8 0, .int .u8 0, .int .u8 0]
theorem Ce.zero_vals : zeroCells = Ce.zero.vals.toArray := rfl
theorem zero_mark : zeroMark = ((List.replicate 16 0).map byteV).toArray := rfl
theorem zero_at {w : World} {T : TypeId} : CellAt w.heap.size T Ce.zero (w.alloc (.cells zeroCells T)) := World.alloc_heap_new _ _
theorem CellAt.store {b : Nat} {T : TypeId} {old c : Ce} {X : World} (h : CellAt b T old X) (ho : old.m.length = 16) (hm : c.m.length = 16) :
    (Instr.storeAt 26 (.pointer (some ⟨b, 0, none⟩)) (.agg c.vals.toArray)).run Try.prog X = .ok () (X.setCells b 0 c.vals) ∧ CellAt b T c (X.setCells b 0 c.vals) := by
  have h18 := c.vals_length hm
  have h18' := old.vals_length ho
  refine ⟨run_storeAt_mid X b 0 26 c.vals.toArray (blk_there h _ _ (by rw [List.size_toArray]; omega)) (by rw [List.size_toArray, h18]; kernel_rfl) (all_oneCell_toArray c.one), ?_⟩
  have := heap_setCells b T (0, 0) c.vals 0 old.vals X h (by omega)
  rw [splice_all (by omega)] at this
  exact this
theorem mark_store {b : Nat} {T : TypeId} {old m : List UInt8} {X : World} (h : X.heap[b]? = some (.cells (old.map byteV).toArray T (0, 0))) (ho : old.length = 16) (hm : m.length = 16) :
    (Instr.storeAt 23 (.pointer (some ⟨b, 0, none⟩)) (.agg (m.map byteV).toArray)).run Try.prog X = .ok () (X.setCells b 0 (m.map byteV)) ∧ (X.setCells b 0 (m.map byteV)).heap[b]? = some (.cells (m.map byteV).toArray T (0, 0)) := by
  refine ⟨run_storeAt_mid X b 0 23 (m.map byteV).toArray (blk_there h _ _ (by rw [List.size_toArray]; simp; omega)) (by rw [List.size_toArray, List.length_map, hm]; kernel_rfl) (all_oneCell_toArray (byteV_one m)), ?_⟩
  have := heap_setCells b T (0, 0) (m.map byteV) 0 (old.map byteV) X h (by simp; omega)
  rw [splice_all (by simp; omega)] at this
  exact this
theorem CellAt.ret {fn : Func} {p b : Nat} {T : TypeId} {c : Ce} {w : World} {ts : Array Value} (h : CellAt b T c w) (hm : c.m.length = 16) (hf : fn.results = #[.cell p 26]) (hp : ts.getD p undef = .pointer (some ⟨b, 0, none⟩)) : (results fn ts).run Try.prog w = .ok (cellV c) w :=
  results_cell_row hf ts w b T c.vals.toArray (0, 0) _ hp h Try.underlying26 rfl (by rw [List.size_toArray, c.vals_length hm]; kernel_rfl)
theorem mark_ret {fn : Func} {p b : Nat} {T : TypeId} {m : List UInt8} {w : World} {ts : Array Value} (h : w.heap[b]? = some (.cells (m.map byteV).toArray T (0, 0))) (hm : m.length = 16) (hf : fn.results = #[.cell p 23]) (hp : ts.getD p undef = .pointer (some ⟨b, 0, none⟩)) : (results fn ts).run Try.prog w = .ok (markV m) w :=
  results_cell_row hf ts w b T (m.map byteV).toArray (0, 0) _ hp h Try.underlying23 rfl (by rw [List.size_toArray, List.length_map, hm]; kernel_rfl)
set_option maxHeartbeats 1000000 in
theorem of_any (m : List UInt8) (hm : m.length = 16) (w : World) : Calls Try.prog 16 #[markV m] w fun e w' => e = .returned (cellV (Ce.of m)) ∧ Below w.heap.size w w' := by
  unfold markV
  go_enter Try.func16, Try.ntmps16
  go_wp2_with fail
  have hb : ((w.alloc (.cells (m.map byteV).toArray 23)).alloc (.cells zeroCells 26)).heap[w.heap.size]? = some (.cells (m.map byteV).toArray 23 (0, 0)) := (Below.heap_alloc _ _ _ (by simp)).trans (World.alloc_heap_new _ _)
  have hc : CellAt (w.heap.size + 1) 26 Ce.zero ((w.alloc (.cells (m.map byteV).toArray 23)).alloc (.cells zeroCells 26)) := by
    have := zero_at (w := w.alloc (.cells (m.map byteV).toArray 23)) (T := 26)
    simpa using this
  have hB : Below w.heap.size w ((w.alloc (.cells (m.map byteV).toArray 23)).alloc (.cells zeroCells 26)) := ((Below.refl _ _).alloc (Nat.le_refl _) _).alloc (by simp) _
  generalize (w.alloc (.cells (m.map byteV).toArray 23)).alloc (.cells zeroCells 26) = w1 at *
  have hl : ∀ X, Below w1.heap.size w1 X → (Instr.loadAt 23 (.pointer (some ⟨w.heap.size, 0, none⟩))).run Try.prog X = .ok (.agg (m.map byteV).toArray) X := fun X hX => mark_whole ((hX.block _ (blk_lt hb)).trans hb) hm
  have hbc := build_cell (Ce.of m) hm
  dsimp only [Ce.of, markV] at hbc
  have HC := Lib.hid hc
  have HB := Lib.hid hB
  have HM := Lib.hid hm
  clear hc hB hb hm
  refine wp_region_calm_tail 4 (by kernel_rfl) (by kernel_rfl) ?_
  simp only [List.take_succ_cons, List.take_zero, List.drop_succ_cons, List.drop_zero]
  repeat
    first
    | (apply calm_want
       · first | rfl | (go_simp; done)
       · intro X hX
         first
         | exact calm_load rfl rfl (hl X hX) hX
         | exact calm_build rfl (by go_simp) (hbc X) hX
         | (go_simp
            first
              | done
              | rfl
              | (refine ⟨trivial, ?_⟩; (exact calls_calm hX (check_any m HM.out X)); done)
              | ((exact calls_calm hX (check_any m HM.out X)); done))
       intro K hK
       go_simp
       refine hK _ ?_
       clear hK K)
    | (apply calm_skip
       · first | rfl | (go_simp; done)
       intro K hK
       go_simp
       refine hK _ ?_
       clear hK K)
  refine wpQuiet_nil ?_
  intro X hX
  obtain ⟨hs1, hs2⟩ := (CellAt.below HC.out hX (blk_lt HC.out)).store (c := Ce.of m) (by simp [Ce.zero]) HM.out
  have hB := Below.setCells (HB.out.trans (hX.mono HB.out.size)) (w.heap.size + 1) 0 (Ce.of m).vals (by omega)
  go_wp2_with (first | (refine wpList_store_at rfl _ _ _ rfl rfl rfl (hs1) ?_))
  exact bodyPost_ret (v := cellV (Ce.of m)) (hs2.ret HM.out rfl rfl) rfl ⟨rfl, hB⟩
def mixL (a b : List UInt8) (i : Nat) : List UInt8 := xorL (a.take i) (b.take i) ++ a.drop i
theorem mixL_zero (a b : List UInt8) : mixL a b 0 = a := by simp [mixL, xorL]
theorem mixL_length {a b : List UInt8} (h : a.length = b.length) (i : Nat) : (mixL a b i).length = a.length := by simp [mixL, xorL, h]; omega
theorem mixL_all {a b : List UInt8} (h : a.length = b.length) : mixL a b a.length = xorL a b := by
  unfold mixL
  rw [List.take_of_length_le (Nat.le_refl _), List.take_of_length_le (Nat.le_of_eq h.symm), List.drop_of_length_le (Nat.le_refl _), List.append_nil]
theorem mixL_set {a b : List UInt8} (h : a.length = b.length) (i : Nat) (hi : i < a.length) : (mixL a b i).set i (a[i] ^^^ b[i]) = mixL a b (i + 1) := by
  have hl : (xorL (a.take i) (b.take i)).length = i := by simp [xorL, h]; omega
  unfold mixL
  rw [List.drop_eq_getElem_cons hi, List.set_append_right _ _ (by omega), hl, Nat.sub_self, List.set_cons_zero]
  rw [List.take_succ_eq_append_getElem hi, List.take_succ_eq_append_getElem (by omega : i < b.length)]
  unfold xorL
  rw [List.zipWith_append (by simp; omega)]
  simp
theorem mixL_get {a b : List UInt8} (h : a.length = b.length) (i : Nat) (hi : i < a.length) : (mixL a b i)[i]? = some a[i] := by
  have hl : (xorL (a.take i) (b.take i)).length = i := by simp [xorL, h]; omega
  unfold mixL
  rw [List.getElem?_append_right (by omega), hl, Nat.sub_self, List.drop_eq_getElem_cons hi]; rfl
set_option maxHeartbeats 1000000 in
theorem over_any (a b : List UInt8) (ha : a.length = 16) (hb : b.length = 16) (w : World) : Calls Try.prog 64 #[markV a, markV b] w fun e w' => e = .returned (markV (xorL a b)) ∧ Below w.heap.size w w' := by
  unfold markV
  go_enter Try.func64, Try.ntmps64
  go_wp2_with fail
  obtain ⟨w1, hw1⟩ : ∃ w1, w1 = ((w.alloc (.cells (a.map byteV).toArray 23)).alloc (.cells (b.map byteV).toArray 23)).alloc (.cells zeroMark 23) := ⟨_, rfl⟩
  rw [← hw1]
  have h0 : w1.heap[w.heap.size]? = some (.cells ((mixL a b 0).map byteV).toArray 23 (0, 0)) := by
    rw [hw1, mixL_zero]
    exact ((Below.heap_alloc _ _ _ (by simp; omega)).trans (Below.heap_alloc _ _ _ (by simp))).trans (World.alloc_heap_new _ _)
  have h1 : w1.heap[w.heap.size + 1]? = some (.cells (b.map byteV).toArray 23 (0, 0)) := by
    rw [hw1]
    refine (Below.heap_alloc _ _ _ (by simp)).trans ?_
    have := World.alloc_heap_new (w.alloc (.cells (a.map byteV).toArray 23)) (.cells (b.map byteV).toArray 23)
    simpa using this
  have h2 : w1.heap[w.heap.size + 2]? = some (.cells ((List.replicate 16 0).map byteV).toArray 23 (0, 0)) := by
    rw [hw1]
    rw [show w.heap.size + 2 = ((w.alloc (.cells (a.map byteV).toArray 23)).alloc (.cells (b.map byteV).toArray 23)).heap.size by simp]
    exact World.alloc_heap_new _ _
  have hB : Below w.heap.size w w1 := by
    rw [hw1]
    exact (((Below.refl _ _).alloc (Nat.le_refl _) _).alloc (by simp) _).alloc (by simp; omega) _
  clear hw1
  have H0 := Lib.hid h0
  have H1 := Lib.hid h1
  have H2 := Lib.hid h2
  have HA := Lib.hid ha
  have HBB := Lib.hid hb
  clear h0 h1 h2 ha hb
  go_loopw [5, 6] (fun _ c wr => ∃ i : Nat, i ≤ 16 ∧ c = .int .i64 i ∧ Hid (wr.heap[w.heap.size]? = some (.cells ((mixL a b i).map byteV).toArray 23 (0, 0))) ∧ Hid (wr.heap[w.heap.size + 1]? = some (.cells (b.map byteV).toArray 23 (0, 0))) ∧ Hid (wr.heap[w.heap.size + 2]? = some (.cells ((List.replicate 16 0).map byteV).toArray 23 (0, 0))) ∧ Below w.heap.size w wr) (fun _ c _ => 16 - (intOf c).toNat)
  case atStart => exact ⟨0, by omega, rfl, H0, H1, H2, hB⟩
  case round =>
    obtain ⟨i, hi, rfl, H0, H1, H2, hB⟩ := hrel
    by_cases hil : i < 16
    · have e1 : decide ((i : Int) < 16) = true := decide_eq_true (by omega)
      have e16 : (i : Int) < 16 := by omega
      have hab : a.length = b.length := HA.out.trans HBB.out.symm
      have hia : i < a.length := by rw [HA.out]; exact hil
      have hib : i < b.length := by rw [HBB.out]; exact hil
      have g0 : ∀ X, Below wr.heap.size wr X → X.cell? ⟨w.heap.size, i, none⟩ = some (.int .u8 (a[i].toNat : Int)) := fun X hX => by
        rw [cell_at ((hX.block _ (blk_lt H0.out)).trans H0.out), List.getElem?_map, mixL_get hab i hia]; rfl
      have g1 : ∀ X, Below wr.heap.size wr X → X.cell? ⟨w.heap.size + 1, i, none⟩ = some (.int .u8 (b[i].toNat : Int)) := fun X hX => by
        rw [cell_at ((hX.block _ (blk_lt H1.out)).trans H1.out), List.getElem?_map, List.getElem?_eq_getElem hib]; rfl
      have hq := q_xor8 a[i] b[i]
      have hset := mixL_set hab i hia
      generalize a[i] = x at *
      generalize b[i] = y at *
      clear hab hia hib
      go_wp2_with fail
      refine wp_region_calm_tail 8 (by kernel_rfl) (by kernel_rfl) ?_
      simp only [List.take_succ_cons, List.take_zero, List.drop_succ_cons, List.drop_zero]
      repeat
        first
        | (apply calm_want
           · first | rfl | (go_simp; done)
           · intro X hX
             go_simp
             first
               | done
               | rfl
               | (refine ⟨trivial, ?_⟩; (fail); done)
               | ((fail); done)
           intro K hK
           go_simp
           refine hK _ ?_
           clear hK K)
        | (apply calm_skip
           · first | rfl | (go_simp; done)
           intro K hK
           go_simp
           refine hK _ ?_
           clear hK K)
      refine wpQuiet_nil ?_
      intro X hX
      have hf := free_of ((hX.block _ (blk_lt H0.out)).trans H0.out) i
      have hcl := g0 X hX
      have K0 := set_cell i (byteV (x ^^^ y)) ((hX.block _ (blk_lt H0.out)).trans H0.out)
      rw [← List.map_set, hset] at K0
      have K1 := (Below.heap_setCell X ⟨w.heap.size, i, none⟩ (byteV (x ^^^ y)) (w.heap.size + 1) (by simp)).trans ((hX.block _ (blk_lt H1.out)).trans H1.out)
      have K2 := (Below.heap_setCell X ⟨w.heap.size, i, none⟩ (byteV (x ^^^ y)) (w.heap.size + 2) (by simp)).trans ((hX.block _ (blk_lt H2.out)).trans H2.out)
      have HX := (hB.trans (hX.mono hB.size)).setCell (p := ⟨w.heap.size, i, none⟩) (Nat.le_refl _) (byteV (x ^^^ y))
      have KK := Lib.hid K0
      have KK1 := Lib.hid K1
      have KK2 := Lib.hid K2
      clear g0 g1 hset K0 K1 K2
      go_wp2_with fail
      go_roundw
      case rel => exact ⟨i + 1, by omega, by go_num, KK, KK1, KK2, HX⟩
      case measure => simp [intOf]; omega
    · have e1 : decide ((i : Int) < 16) = false := decide_eq_false (by omega)
      obtain rfl : i = 16 := by omega
      have hml := mixL_all (HA.out.trans HBB.out.symm)
      rw [HA.out] at hml
      have H0' := H0.out
      rw [hml] at H0'
      have hxl := (xorL_length (HA.out.trans HBB.out.symm)).trans HA.out
      have hl := mark_whole H0' hxl
      obtain ⟨hs1, hs2⟩ := mark_store H2.out (m := xorL a b) (by simp) hxl
      have hB' := Below.setCells hB (w.heap.size + 2) 0 ((xorL a b).map byteV) (by omega)
      clear H0'
      go_wp2_with (first | (refine wpList_load_at rfl _ _ rfl rfl (hl) ?_) | (refine wpList_store_at rfl _ _ _ rfl rfl rfl (hs1) ?_))
      exact bodyPost_ret (v := markV (xorL a b)) (mark_ret hs2 hxl rfl rfl) rfl ⟨rfl, hB'⟩
structure Ce.ok (c : Ce) : Prop where
  m : c.m.length = 16
  lo : -9223372036854775808 ≤ c.n
  hi : c.n ≤ 9223372036854775807
theorem wrap_rng (n : Int) : -9223372036854775808 ≤ IntKind.i64.wrap n ∧ IntKind.i64.wrap n ≤ 9223372036854775807 := by
  rw [IntKind.wrap_i64]; omega
theorem Ce.add_ok {a b : Ce} (ha : a.ok) (hb : b.ok) : (a.add b).ok := ⟨(xorL_length (ha.m.trans hb.m.symm)).trans ha.m, (wrap_rng _).1, (wrap_rng _).2⟩
theorem Ce.sub_ok {a b : Ce} (ha : a.ok) (hb : b.ok) : (a.sub b).ok := ⟨(xorL_length (ha.m.trans hb.m.symm)).trans ha.m, (wrap_rng _).1, (wrap_rng _).2⟩
theorem Ce.of_ok {m : List UInt8} (h : m.length = 16) : (Ce.of m).ok := ⟨h, (by decide : (-9223372036854775808 : Int) ≤ 1), (by decide : (1 : Int) ≤ 9223372036854775807)⟩
theorem Ce.zero_ok : Ce.zero.ok := ⟨rfl, by decide, by decide⟩
set_option maxHeartbeats 1000000 in
theorem add_any (a b : Ce) (ha : a.ok) (hb : b.ok) (w : World) : Calls Try.prog 18 #[cellV a, cellV b] w fun e w' => e = .returned (cellV (a.add b)) ∧ Below w.heap.size w w' := by
  unfold cellV
  go_enter Try.func18, Try.ntmps18
  go_wp2_with fail
  obtain ⟨w1, hw1⟩ : ∃ w1, w1 = ((w.alloc (.cells a.vals.toArray 26)).alloc (.cells b.vals.toArray 26)).alloc (.cells zeroCells 26) := ⟨_, rfl⟩
  rw [← hw1]
  have h0 : CellAt w.heap.size 26 a w1 := by
    rw [hw1]
    exact ((Below.heap_alloc _ _ _ (by simp; omega)).trans (Below.heap_alloc _ _ _ (by simp))).trans (World.alloc_heap_new _ _)
  have h1 : CellAt (w.heap.size + 1) 26 b w1 := by
    rw [hw1]
    refine (Below.heap_alloc _ _ _ (by simp)).trans ?_
    rw [show w.heap.size + 1 = (w.alloc (.cells a.vals.toArray 26)).heap.size by simp]
    exact World.alloc_heap_new _ _
  have h2 : CellAt (w.heap.size + 2) 26 Ce.zero w1 := by
    rw [hw1, show w.heap.size + 2 = ((w.alloc (.cells a.vals.toArray 26)).alloc (.cells b.vals.toArray 26)).heap.size by simp]
    exact World.alloc_heap_new _ _
  have hB : Below w.heap.size w w1 := by
    rw [hw1]
    exact (((Below.refl _ _).alloc (Nat.le_refl _) _).alloc (by simp) _).alloc (by simp; omega) _
  clear hw1
  have l0 := fun X (hX : Below w1.heap.size w1 X) => (h0.below hX (blk_lt h0)).n
  have l1 := fun X (hX : Below w1.heap.size w1 X) => (h1.below hX (blk_lt h1)).n
  have l2 := fun X (hX : Below w1.heap.size w1 X) => (h0.below hX (blk_lt h0)).h ha.m
  have l3 := fun X (hX : Below w1.heap.size w1 X) => (h1.below hX (blk_lt h1)).h hb.m
  have l4 := fun X (hX : Below w1.heap.size w1 X) => (h0.below hX (blk_lt h0)).mark ha.m
  have l5 := fun X (hX : Below w1.heap.size w1 X) => (h1.below hX (blk_lt h1)).mark hb.m
  have hbc := build_cell (a.add b) (Ce.add_ok ha hb).m
  dsimp only [Ce.add, markV] at hbc
  have H2 := Lib.hid h2
  have HB := Lib.hid hB
  have HA := Lib.hid ha
  have HBB := Lib.hid hb
  clear h0 h1 h2 hB ha hb
  refine wp_region_calm_tail 16 (by kernel_rfl) (by kernel_rfl) ?_
  simp only [List.take_succ_cons, List.take_zero, List.drop_succ_cons, List.drop_zero]
  repeat
    first
    | (apply calm_want
       · first | rfl | (go_simp; done)
       · intro X hX
         first
         | exact calm_load rfl rfl (l4 X hX) hX
         | exact calm_load rfl rfl (l5 X hX) hX
         | exact calm_build rfl (by go_simp) (hbc X) hX
         | (go_simp
            first
              | done
              | rfl
              | (refine ⟨trivial, ?_⟩; (exact calls_calm hX (over_any a.m b.m HA.out.m HBB.out.m X)); done)
              | ((exact calls_calm hX (over_any a.m b.m HA.out.m HBB.out.m X)); done))
       intro K hK
       go_simp
       refine hK _ ?_
       clear hK K)
    | (apply calm_skip
       · first | rfl | (go_simp; done)
       intro K hK
       go_simp
       refine hK _ ?_
       clear hK K)
  refine wpQuiet_nil ?_
  intro X hX
  obtain ⟨hs1, hs2⟩ := (CellAt.below H2.out hX (blk_lt H2.out)).store (c := a.add b) rfl (Ce.add_ok HA.out HBB.out).m
  have hB := Below.setCells (HB.out.trans (hX.mono HB.out.size)) (w.heap.size + 2) 0 (a.add b).vals (by omega)
  clear l0 l1 l2 l3 l4 l5 hbc
  go_wp2_with (first | (refine wpList_store_at rfl _ _ _ rfl rfl rfl (hs1) ?_))
  exact bodyPost_ret (v := cellV (a.add b)) (hs2.ret (Ce.add_ok HA.out HBB.out).m rfl rfl) rfl ⟨rfl, hB⟩
theorem Ce.sub_put (a b : Ce) (X : World) (k : Nat) (T : TypeId) (h : CellAt k T (a.add b) X) : CellAt k T (a.sub b) (X.setCell ⟨k, 0, none⟩ (.int .i64 (wrap64 (a.n - b.n)))) := by
  rw [show wrap64 (a.n - b.n) = IntKind.i64.wrap (a.n - b.n) from (IntWalk.i64_left _).symm]
  exact set_cell 0 _ h
set_option maxHeartbeats 1000000 in
theorem sub_any (a b : Ce) (ha : a.ok) (hb : b.ok) (w : World) : Calls Try.prog 19 #[cellV a, cellV b] w fun e w' => e = .returned (cellV (a.sub b)) ∧ Below w.heap.size w w' := by
  unfold cellV
  go_enter Try.func19, Try.ntmps19
  obtain ⟨w1, hw1⟩ : ∃ w1, w1 = ((w.alloc (.cells a.vals.toArray 26)).alloc (.cells b.vals.toArray 26)).alloc (.cells zeroCells 26) := ⟨_, rfl⟩
  have h0 : CellAt w.heap.size 26 a w1 := by
    rw [hw1]
    exact ((Below.heap_alloc _ _ _ (by simp; omega)).trans (Below.heap_alloc _ _ _ (by simp))).trans (World.alloc_heap_new _ _)
  have h1 : CellAt (w.heap.size + 1) 26 b w1 := by
    rw [hw1]
    refine (Below.heap_alloc _ _ _ (by simp)).trans ?_
    rw [show w.heap.size + 1 = (w.alloc (.cells a.vals.toArray 26)).heap.size by simp]
    exact World.alloc_heap_new _ _
  have h2 : CellAt (w.heap.size + 2) 26 Ce.zero w1 := by
    rw [hw1, show w.heap.size + 2 = ((w.alloc (.cells a.vals.toArray 26)).alloc (.cells b.vals.toArray 26)).heap.size by simp]
    exact World.alloc_heap_new _ _
  have hB : Below w.heap.size w w1 := by
    rw [hw1]
    exact (((Below.refl _ _).alloc (Nat.le_refl _) _).alloc (by simp) _).alloc (by simp; omega) _
  have L0 := h0.whole ha.m
  have L1 := h1.whole hb.m
  rw [hw1] at L0 L1
  have HW := Lib.hid hw1
  clear hw1
  go_wp2_with (first | (refine wpList_load_at rfl _ _ rfl rfl (L0) ?_) | (refine wpList_load_at rfl _ _ rfl rfl (L1) ?_))
  rw [← HW.out]
  clear L0 L1
  refine (add_any a b ha hb w1).mono ?_
  rintro e w2 ⟨rfl, hB2⟩
  have k0 := h0.below hB2 (blk_lt h0)
  have k1 := h1.below hB2 (blk_lt h1)
  have k2 := h2.below hB2 (blk_lt h2)
  have hz2 := hB2.size
  have hlt2 := blk_lt h2
  have hb2 := hB.trans (hB2.mono hB.size)
  clear h0 h1 h2 hB2 hB
  obtain ⟨hs1, hs2⟩ := (zero_at (w := w2) (T := 26)).store (c := a.add b) rfl (Ce.add_ok ha hb).m
  have hA : ∀ k, k < w2.heap.size → ((w2.alloc (.cells zeroCells 26)).setCells w2.heap.size 0 (a.add b).vals).heap[k]? = w2.heap[k]? := fun k hk => (heap_setCells_ne _ _ _ _ _ (by omega)).trans (Below.heap_alloc _ _ _ hk)
  have m0 : CellAt _ _ _ _ := (hA _ (blk_lt k0)).trans k0
  have m1 : CellAt _ _ _ _ := (hA _ (blk_lt k1)).trans k1
  have m2 : CellAt _ _ _ _ := (hA _ (blk_lt k2)).trans k2
  have hb3 := Below.setCells (hb2.alloc hb2.size (.cells zeroCells 26)) w2.heap.size 0 (a.add b).vals (by omega)
  have c0 := m0.n
  have c1 := m1.n
  have c2 := hs2.n
  have f2 := free_of hs2 0
  have n0 := Ce.sub_put a b _ _ _ hs2
  have n2 : CellAt _ _ _ _ := (Below.heap_setCell ((w2.alloc (.cells zeroCells 26)).setCells w2.heap.size 0 (a.add b).vals) ⟨w2.heap.size, 0, none⟩ (.int .i64 (wrap64 (a.n - b.n))) (w.heap.size + 2) (by dsimp only; omega)).trans m2
  have L2 := n0.whole (Ce.sub_ok ha hb).m
  obtain ⟨s1, s2⟩ := n2.store (c := a.sub b) rfl (Ce.sub_ok ha hb).m
  have hb4 := Below.setCells (hb3.setCell (p := ⟨w2.heap.size, 0, none⟩) (by dsimp only; omega) (.int .i64 (wrap64 (a.n - b.n)))) (w.heap.size + 2) 0 (a.sub b).vals (by omega)
  have S2 := Lib.hid s2
  have HB4 := Lib.hid hb4
  clear hA k0 k1 k2 hb2 m0 m1 m2 n2 n0 hb3 hb4 s2 hs2
  go_wp2_with (first | (refine wpList_store_at rfl _ _ _ rfl rfl rfl (hs1) ?_) | (refine wpList_load_at rfl _ _ rfl rfl (L2) ?_) | (refine wpList_store_at rfl _ _ _ rfl rfl rfl (s1) ?_))
  exact bodyPost_ret (v := cellV (a.sub b)) (S2.out.ret (Ce.sub_ok ha hb).m rfl rfl) rfl ⟨rfl, HB4.out⟩
end Go.Proofs.Ytkdbbdlkfpjdfaa
