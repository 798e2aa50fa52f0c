/- Marks and cells: what package cell's functions come to.
   Conditions: those that each theorem names. -/
import Derived.Test.YtehfinjcfjobeaaBs
import Derived.Test.YtehfinjcfjobeaaSp
namespace Go.Proofs.Ytehfinjcfjobeaa
set_option maxRecDepth 100000
set_option linter.unusedVariables false
set_option linter.unusedSimpArgs false
open Go.RowKit Go.Rg
attribute [local go_sem] Rg.q_add Rg.q_add' Rg.q_xor Rg.q_or Rg.q_and
/-! ### The plain things -/
def xorL (a b : List UInt8) : List UInt8 := List.zipWith (fun x y => x ^^^ y) a b
theorem xorL_length {a b : List UInt8} (h : a.length = b.length) : (xorL a b).length = a.length := by simp [xorL, h]
def check (m : List UInt8) : UInt64 := hashS (sA 3) (sB 3) m
structure Ce where
  n : Int
  m : List UInt8
  h : UInt64
def Ce.vals (c : Ce) : List Value := .int .i64 c.n :: (c.m.map byteV ++ [.int .u64 (U c.h)])
def cellV (c : Ce) : Value := .agg c.vals.toArray
def Ce.add (a b : Ce) : Ce := ⟨IntKind.i64.wrap (a.n + b.n), xorL a.m b.m, a.h ^^^ b.h⟩
def Ce.sub (a b : Ce) : Ce := ⟨IntKind.i64.wrap (a.n - b.n), xorL a.m b.m, a.h ^^^ b.h⟩
def Ce.of (m : List UInt8) : Ce := ⟨1, m, check m⟩
attribute [local go_sem] markV cellV
theorem byteV_one (l : List UInt8) : ∀ v ∈ l.map byteV, v.oneCell' = true := bytes_oneCell l
theorem Ce.one (c : Ce) : ∀ v ∈ c.vals, v.oneCell' = true := by
  intro v hv
  simp only [Ce.vals, List.mem_cons, List.mem_append, List.not_mem_nil, or_false] at hv
  rcases hv with rfl | h | rfl
  · rfl
  · exact byteV_one _ v h
  · rfl
theorem Ce.vals_length (c : Ce) (h : c.m.length = 16) : c.vals.length = 18 := by simp [Ce.vals, h]
/-- A whole array of bytes, read and written in a block. -/
theorem mark_bytes {w : World} {b o : Nat} {cs : List Value} {T : TypeId} {m : List UInt8} (h : w.heap[b]? = some (.cells cs.toArray T (0, 0))) (hm : ∀ j, j < m.length → cs[o + j]? = some (byteV (m[j]?.getD 0))) (cap : Nat) :
    BytesAt w (.slice (some ⟨b, o, none⟩) m.length cap) m := by
  refine ⟨_, cap, rfl, fun i hi => ⟨b, o, rfl, blk_lt h, ?_⟩⟩
  rw [cell_at h, hm i hi]; rfl

theorem rows_one (w : World) (u : Value) (l : List UInt8) (T : TypeId) (h : BytesAt w u l) : RowsAt (w.alloc (.cells #[u] T)) (.slice (some ⟨w.heap.size, 0, none⟩) 1 1) [l] := by
  refine ⟨_, _, rfl, fun i hi => ?_⟩
  obtain rfl : i = 0 := by simp at hi; omega
  exact ⟨w.heap.size, 0, u, rfl, by simp, by rw [World.cell?, World.alloc_heap_new]; rfl, h.below ((Below.refl _ _).alloc (Nat.le_refl _) _)⟩
theorem q_xor8 (a b : UInt8) : bits .xor .u8 (a.toNat : Int) (b.toNat : Int) = ((a ^^^ b).toNat : Int) := by
  have ha : a.toNat % 2 ^ 8 = a.toNat := Nat.mod_eq_of_lt a.toNat_lt
  have hb : b.toNat % 2 ^ 8 = b.toNat := Nat.mod_eq_of_lt b.toNat_lt
  have hx : a.toNat ^^^ b.toNat < 2 ^ 8 := Nat.xor_lt_two_pow a.toNat_lt b.toNat_lt
  have e : IntKind.u8.bits = 8 := rfl
  rw [UInt8.toNat_xor]
  simp only [bits, e, BitVec.ofInt_natCast, BitVec.toNat_xor, BitVec.toNat_ofNat, ha, hb]
  rw [IntKind.wrap_u8]
  omega
theorem list16 {m : List UInt8} (h : m.length = 16) : ∃ a0 a1 a2 a3 a4 a5 a6 a7 a8 a9 b0 b1 b2 b3 b4 b5, m = [a0, a1, a2, a3, a4, a5, a6, a7, a8, a9, b0, b1, b2, b3, b4, b5] := by
  match m, h with
  | [a0, a1, a2, a3, a4, a5, a6, a7, a8, a9, b0, b1, b2, b3, b4, b5], _ => exact ⟨_, _, _, _, _, _, _, _, _, _, _, _, _, _, _, _, rfl⟩
def CellAt (b : Nat) (T : TypeId) (c : Ce) (X : World) : Prop := X.heap[b]? = some (.cells c.vals.toArray T (0, 0))
theorem CellAt.below {n b : Nat} {T : TypeId} {c : Ce} {X Y : World} (h : CellAt b T c X) (hB : Below n X Y) (hb : b < n) : CellAt b T c Y := (hB.block b hb).trans h
theorem mark_load {b o : Nat} {T : TypeId} {f : Nat × Nat} {cs : List Value} {m : List UInt8} {X : World} (h : X.heap[b]? = some (.cells cs.toArray T f)) (hm : m.length = 16) (hc : ∀ j v, (m.map byteV)[j]? = some v → cs[o + j]? = some v) :
    (Instr.loadAt 24 (.pointer (some ⟨b, o, none⟩))).run Try.prog X = .ok (.agg (m.map byteV).toArray) X :=
  run_loadAt_mid X b o 24 (m.map byteV) _ (blk_range h o _ hc) Try.underlying24 rfl (by rw [List.length_map, hm]; kernel_rfl)
theorem mark_whole {b : Nat} {T : TypeId} {f : Nat × Nat} {m : List UInt8} {X : World} (h : X.heap[b]? = some (.cells (m.map byteV).toArray T f)) (hm : m.length = 16) :
    (Instr.loadAt 24 (.pointer (some ⟨b, 0, none⟩))).run Try.prog X = .ok (.agg (m.map byteV).toArray) X :=
  mark_load h hm (fun j v hv => by rw [Nat.zero_add]; exact hv)
theorem Ce.get_n (c : Ce) : c.vals[0]? = some (.int .i64 c.n) := rfl
theorem Ce.get_m (c : Ce) (j : Nat) (v : Value) (h : (c.m.map byteV)[j]? = some v) : c.vals[1 + j]? = some v := by
  unfold Ce.vals
  rw [Nat.add_comm 1 j, List.getElem?_cons_succ, List.getElem?_append_left (List.getElem?_eq_some_iff.1 h).1, h]
theorem Ce.get_h (c : Ce) (hm : c.m.length = 16) : c.vals[17]? = some (.int .u64 (U c.h)) := by
  unfold Ce.vals
  rw [List.getElem?_cons_succ, List.getElem?_append_right (by simp [hm]), List.length_map, hm]; rfl
theorem CellAt.mark {b : Nat} {T : TypeId} {c : Ce} {X : World} (h : CellAt b T c X) (hm : c.m.length = 16) :
    (Instr.loadAt 24 (.pointer (some ⟨b, 1, none⟩))).run Try.prog X = .ok (.agg (c.m.map byteV).toArray) X := mark_load h hm c.get_m
theorem CellAt.n {b : Nat} {T : TypeId} {c : Ce} {X : World} (h : CellAt b T c X) : X.cell? ⟨b, 0, none⟩ = some (.int .i64 c.n) := cell_at h 0
theorem CellAt.h {b : Nat} {T : TypeId} {c : Ce} {X : World} (h : CellAt b T c X) (hm : c.m.length = 16) : X.cell? ⟨b, 17, none⟩ = some (.int .u64 (U c.h)) := (cell_at h 17).trans (c.get_h hm)
def Ce.zero : Ce := ⟨0, List.replicate 16 0, 0⟩
abbrev zeroCells : Array Value := #[.int .i64 0, .int .u8 0, .int .u8 0, .int .u8 0, .int .u8 0, .int .u8 0, .int .u8 0, .int .u8 0, .int .u8 0, .int .u8 0, .int .u8 0, .int .u8 0, .int .u8 0, .int .u8 0, .int .u8 0, .int .u8 0, .int .u8 0, .int .u64 0]
abbrev zeroMark : Array Value := #[.int .u8 0, .int .u8 0, .int .u8 0, .int .u8 0, .int .u8 0, .int .u8 0, .int .u8 0, .int .u8 0, .int .u8 0, .int .u8 0, .int .u8 0, .int .u8 0, .int .u8 0, .int .u8 0, .int .u8 0, .int .u8 0]
theorem Ce.zero_vals : zeroCells = Ce.zero.vals.toArray := rfl
theorem zero_mark : zeroMark = ((List.replicate 16 0).map byteV).toArray := rfl
theorem zero_at {w : World} {T : TypeId} : CellAt w.heap.size T Ce.zero (w.alloc (.cells zeroCells T)) := World.alloc_heap_new _ _
theorem mark_store {b : Nat} {T : TypeId} {old m : List UInt8} {X : World} (h : X.heap[b]? = some (.cells (old.map byteV).toArray T (0, 0))) (ho : old.length = 16) (hm : m.length = 16) :
    (Instr.storeAt 24 (.pointer (some ⟨b, 0, none⟩)) (.agg (m.map byteV).toArray)).run Try.prog X = .ok () (X.setCells b 0 (m.map byteV)) ∧ (X.setCells b 0 (m.map byteV)).heap[b]? = some (.cells (m.map byteV).toArray T (0, 0)) := by
  refine ⟨run_storeAt_mid X b 0 24 (m.map byteV).toArray (blk_there h _ _ (by rw [List.size_toArray]; simp; omega)) (by rw [List.size_toArray, List.length_map, hm]; kernel_rfl) (all_oneCell_toArray (byteV_one m)), ?_⟩
  have := heap_setCells b T (0, 0) (m.map byteV) 0 (old.map byteV) X h (by simp; omega)
  rw [splice_all (by simp; omega)] at this
  exact this
theorem mark_ret {fn : Func} {p b : Nat} {T : TypeId} {m : List UInt8} {w : World} {ts : Array Value} (h : w.heap[b]? = some (.cells (m.map byteV).toArray T (0, 0))) (hm : m.length = 16) (hf : fn.results = #[.cell p 24]) (hp : ts.getD p undef = .pointer (some ⟨b, 0, none⟩)) : (results fn ts).run Try.prog w = .ok (markV m) w :=
  results_cell_row hf ts w b T (m.map byteV).toArray (0, 0) _ hp h Try.underlying24 rfl (by rw [List.size_toArray, List.length_map, hm]; kernel_rfl)
def mixL (a b : List UInt8) (i : Nat) : List UInt8 := xorL (a.take i) (b.take i) ++ a.drop i
theorem mixL_zero (a b : List UInt8) : mixL a b 0 = a := by simp [mixL, xorL]
theorem mixL_length {a b : List UInt8} (h : a.length = b.length) (i : Nat) : (mixL a b i).length = a.length := by simp [mixL, xorL, h]; omega
theorem mixL_all {a b : List UInt8} (h : a.length = b.length) : mixL a b a.length = xorL a b := by
  unfold mixL
  rw [List.take_of_length_le (Nat.le_refl _), List.take_of_length_le (Nat.le_of_eq h.symm), List.drop_of_length_le (Nat.le_refl _), List.append_nil]
theorem mixL_set {a b : List UInt8} (h : a.length = b.length) (i : Nat) (hi : i < a.length) : (mixL a b i).set i (a[i] ^^^ b[i]) = mixL a b (i + 1) := by
  have hl : (xorL (a.take i) (b.take i)).length = i := by simp [xorL, h]; omega
  unfold mixL
  rw [List.drop_eq_getElem_cons hi, List.set_append_right _ _ (by omega), hl, Nat.sub_self, List.set_cons_zero]
  rw [List.take_succ_eq_append_getElem hi, List.take_succ_eq_append_getElem (by omega : i < b.length)]
  unfold xorL
  rw [List.zipWith_append (by simp; omega)]
  simp
theorem mixL_get {a b : List UInt8} (h : a.length = b.length) (i : Nat) (hi : i < a.length) : (mixL a b i)[i]? = some a[i] := by
  have hl : (xorL (a.take i) (b.take i)).length = i := by simp [xorL, h]; omega
  unfold mixL
  rw [List.getElem?_append_right (by omega), hl, Nat.sub_self, List.drop_eq_getElem_cons hi]; rfl
structure Ce.ok (c : Ce) : Prop where
  m : c.m.length = 16
  lo : -9223372036854775808 ≤ c.n
  hi : c.n ≤ 9223372036854775807
theorem wrap_rng (n : Int) : -9223372036854775808 ≤ IntKind.i64.wrap n ∧ IntKind.i64.wrap n ≤ 9223372036854775807 := by
  rw [IntKind.wrap_i64]; omega
theorem Ce.add_ok {a b : Ce} (ha : a.ok) (hb : b.ok) : (a.add b).ok := ⟨(xorL_length (ha.m.trans hb.m.symm)).trans ha.m, (wrap_rng _).1, (wrap_rng _).2⟩
theorem Ce.sub_ok {a b : Ce} (ha : a.ok) (hb : b.ok) : (a.sub b).ok := ⟨(xorL_length (ha.m.trans hb.m.symm)).trans ha.m, (wrap_rng _).1, (wrap_rng _).2⟩
theorem Ce.of_ok {m : List UInt8} (h : m.length = 16) : (Ce.of m).ok := ⟨h, (by decide : (-9223372036854775808 : Int) ≤ 1), (by decide : (1 : Int) ≤ 9223372036854775807)⟩
theorem Ce.zero_ok : Ce.zero.ok := ⟨rfl, by decide, by decide⟩
theorem Ce.sub_put (a b : Ce) (X : World) (k : Nat) (T : TypeId) (h : CellAt k T (a.add b) X) : CellAt k T (a.sub b) (X.setCell ⟨k, 0, none⟩ (.int .i64 (wrap64 (a.n - b.n)))) := by
  rw [show wrap64 (a.n - b.n) = IntKind.i64.wrap (a.n - b.n) from (IntWalk.i64_left _).symm]
  exact set_cell 0 _ h
end Go.Proofs.Ytehfinjcfjobeaa
