/- Bytes: slices that can be read, slices that are owned, texts; what a call may touch.
   Conditions: those that each theorem names. -/
import Derived.Test.YtehfinjcfjobeaaRows
import Derived.WalkSpells
import Derived.WalkLawsBesides
import Derived.WalkKit
import Derived.Test.YtehfinjcfjobeaaVals
import Derived.Test.YtehfinjcfjobeaaSeq
import Derived.Test.YtehfinjcfjobeaaU64
import Derived.Lib.Hide
import Derived.Laws.BytesArg
import Derived.Laws.IdiomStrings
import Derived.Maps.AppendAt
import Derived.OwnWalk
namespace Go.Proofs.Ytehfinjcfjobeaa
set_option maxRecDepth 100000
set_option linter.unusedVariables false
set_option linter.unusedSimpArgs false
set_option linter.unusedVariables false
set_option linter.unusedSimpArgs false
open Go.RowKit Go.Rg

abbrev str (l : List UInt8) : Value := .string ⟨l.toArray⟩
abbrev ptr (b : Nat) : Value := .pointer (some ⟨b, 0, none⟩)
def byteV (c : UInt8) : Value := .int .u8 (c.toNat : Int)
theorem block_set {w : World} {b i : Nat} {cs : Array Value} {T : TypeId} {f : Nat × Nat} (v : Value) (h : w.heap[b]? = some (.cells cs T f)) : (w.setCell ⟨b, i, none⟩ v).heap[b]? = some (.cells (cs.setIfInBounds i v) T f) := by
  obtain ⟨hlt, hk⟩ := Array.getElem?_eq_some_iff.1 h
  show (w.heap.modify b _)[b]? = _
  rw [Array.getElem?_eq_getElem (by rw [Array.size_modify]; exact hlt), Array.getElem_modify_self, hk]
  rfl
theorem blk_lt {w : World} {b : Nat} {o : Obj} (h : w.heap[b]? = some o) : b < w.heap.size := (Array.getElem?_eq_some_iff.1 h).1
theorem free_of {w : World} {b : Nat} {cs : Array Value} {T : TypeId} (hb : w.heap[b]? = some (.cells cs T (0, 0))) (i : Nat) : w.frozen? ⟨b, i, none⟩ = false := by
  simp [World.frozen?, hb]
theorem byte_lt (c : UInt8) : (c.toNat : Int) < 256 := by have := c.toNat_lt; omega

/-! ### What a call may touch -/
structure Touch (M : Nat → Prop) (w w' : World) : Prop where
  os : w'.os = w.os
  tape : w'.tape = w.tape
  output : w'.output = w.output
  size : w.heap.size ≤ w'.heap.size
  block : ∀ k, k < w.heap.size → ¬ M k → w'.heap[k]? = w.heap[k]?
theorem Touch.refl (M : Nat → Prop) (w : World) : Touch M w w := ⟨rfl, rfl, rfl, Nat.le_refl _, fun _ _ _ => rfl⟩
theorem Touch.drew (M : Nat → Prop) (w : World) : Touch M w w.drew := ⟨rfl, rfl, rfl, Nat.le_refl _, fun _ _ _ => rfl⟩
theorem Touch.trans {M M' : Nat → Prop} {x y z : World} (h : Touch M x y) (k : Touch M' y z) (hM : ∀ j, j < x.heap.size → M' j → M j) : Touch M x z :=
  ⟨k.os.trans h.os, k.tape.trans h.tape, k.output.trans h.output, Nat.le_trans h.size k.size, fun j hj hn => (k.block j (Nat.lt_of_lt_of_le hj h.size) (fun hm => hn (hM j hj hm))).trans (h.block j hj hn)⟩
theorem Touch.weak {M M' : Nat → Prop} {x y : World} (h : Touch M x y) (hM : ∀ j, j < x.heap.size → M j → M' j) : Touch M' x y :=
  ⟨h.os, h.tape, h.output, h.size, fun j hj hn => h.block j hj (fun hm => hn (hM j hj hm))⟩
theorem Touch.below {M : Nat → Prop} {n : Nat} {x y : World} (h : Touch M x y) (hM : ∀ j, M j → n ≤ j) (hn : n ≤ x.heap.size) : Below n x y :=
  ⟨h.os, h.tape, h.output, h.size, fun j hj => h.block j (by omega) (fun hm => by have := hM j hm; omega)⟩
theorem Touch.of_below {M : Nat → Prop} {x y : World} (h : Below x.heap.size x y) : Touch M x y := ⟨h.os, h.tape, h.output, h.size, fun j hj _ => h.block j hj⟩
theorem Touch.of_grown {M : Nat → Prop} {x y : World} {row : Option Nat} (h : x.grownBy y row) (hM : ∀ j, row = some j → M j) : Touch M x y := ⟨h.os, h.tape, h.output, h.size, fun j hj hn => h.block j hj (fun e => hn (hM j e.symm))⟩
theorem Touch.keep {M : Nat → Prop} {x y : World} (h : Touch M x y) {b : Nat} {o : Obj} (hb : x.heap[b]? = some o) (hn : ¬ M b) : y.heap[b]? = some o := (h.block b (blk_lt hb) hn).trans hb
theorem Touch.set {M : Nat → Prop} {x y : World} (h : Touch M x y) (b i : Nat) (v : Value) (hb : M b ∨ x.heap.size ≤ b) : Touch M x (y.setCell ⟨b, i, none⟩ v) :=
  ⟨h.os, h.tape, h.output, by show _ ≤ (y.heap.modify _ _).size; rw [Array.size_modify]; exact h.size, fun k hk hn => (Below.heap_setCell y _ v k (by rintro rfl; rcases hb with h | h; exact hn h; omega)).trans (h.block k hk hn)⟩
theorem Touch.alloc {M : Nat → Prop} {x y : World} (h : Touch M x y) (o : Obj) : Touch M x (y.alloc o) :=
  ⟨h.os, h.tape, h.output, by have := h.size; simp; omega, fun k hk hn => (Below.heap_alloc y _ _ (by have := h.size; omega)).trans (h.block k hk hn)⟩

/-! ### Slices of bytes that can be read -/
def BytesAt (w : World) (v : Value) (l : List UInt8) : Prop :=
  ∃ p cap, v = .slice p l.length cap ∧ (∀ i, i < l.length → ∃ g o, p = some ⟨g, o, none⟩ ∧ g < w.heap.size ∧ w.cell? ⟨g, o + i, none⟩ = some (.int .u8 ((l[i]?.getD 0).toNat : Int)))
theorem BytesAt.below {w w' : World} {v : Value} {l : List UInt8} (h : BytesAt w v l) (hB : Below w.heap.size w w') : BytesAt w' v l := by
  obtain ⟨p, cap, rfl, hf⟩ := h
  refine ⟨p, cap, rfl, fun i hi => ?_⟩
  obtain ⟨g, o, e, hg, hc⟩ := hf i hi
  exact ⟨g, o, e, Nat.lt_of_lt_of_le hg hB.size, (hB.cell (p := ⟨g, o + i, none⟩) hg).trans hc⟩
/-- .. where the slice's own block is kept. -/
theorem BytesAt.kept {w w' : World} {v : Value} {l : List UInt8} (h : BytesAt w v l) (hB : ∀ k, v.ownBlock = some k → k < w.heap.size → w'.heap[k]? = w.heap[k]?) (hz : w.heap.size ≤ w'.heap.size) : BytesAt w' v l := by
  obtain ⟨p, cap, rfl, hf⟩ := h
  refine ⟨p, cap, rfl, fun i hi => ?_⟩
  obtain ⟨g, o, rfl, hg, hc⟩ := hf i hi
  exact ⟨g, o, rfl, Nat.lt_of_lt_of_le hg hz, (World.cell?_of_block (w := w) (a := ⟨g, o + i, none⟩) (hB g rfl hg)).trans hc⟩
theorem BytesAt.block {w : World} {v : Value} {l : List UInt8} (h : BytesAt w v l) (h0 : 0 < l.length) : ∃ k, v.ownBlock = some k ∧ k < w.heap.size := by
  obtain ⟨p, cap, rfl, hf⟩ := h
  obtain ⟨g, o, rfl, hg, hc⟩ := hf 0 h0
  exact ⟨g, rfl, hg⟩
theorem BytesAt.shape {w : World} {v : Value} {l : List UInt8} (h : BytesAt w v l) : ∃ p cap, v = .slice p l.length cap := by
  obtain ⟨p, cap, rfl, _⟩ := h
  exact ⟨p, cap, rfl⟩
theorem add_plain (g o i : Nat) : (⟨g, o, none⟩ : Addr).add i = ⟨g, o + i, none⟩ := by
  unfold Addr.add
  split
  · rename_i h; subst h; rfl
  · rfl
theorem BytesAt.cells {w : World} {g : Addr} {n cap : Nat} {l : List UInt8} (h : BytesAt w (.slice (some g) n cap) l) : ∀ j u, (l.map byteV)[j]? = some u → w.cell? (g.add j) = some u := by
  obtain ⟨q, cap', e, hf⟩ := h
  cases e
  intro j u hu
  have hj : j < l.length := by have := (List.getElem?_eq_some_iff.1 hu).1; simpa using this
  obtain ⟨b, o, e, _, hc⟩ := hf j hj
  cases e
  rw [add_plain, hc]
  rw [List.getElem?_map, List.getElem?_eq_getElem hj] at hu
  simp at hu
  rw [← hu, List.getElem?_eq_getElem hj]; rfl
theorem BytesAt.sub {w : World} {p : Option Addr} {n cap : Nat} {b : List UInt8} (h : BytesAt w (.slice p n cap) b) (i j c : Nat) (hij : i + j ≤ b.length) :
    BytesAt w (.slice (Option.map (fun x => x.add i) p) j c) ((b.drop i).take j) := by
  obtain ⟨q, cap', e, hf⟩ := h
  cases e
  have hl : ((b.drop i).take j).length = j := by simp; omega
  refine ⟨_, c, by rw [hl], fun k hk => ?_⟩
  rw [hl] at hk
  obtain ⟨g, o, rfl, hg, hc⟩ := hf (i + k) (by omega)
  refine ⟨g, o + i, by rw [Option.map_some, add_plain], hg, ?_⟩
  rw [show o + i + k = o + (i + k) by omega, hc]
  simp [hk]
theorem BytesAt.pre {w : World} {p : Option Addr} {n cap : Nat} {b : List UInt8} (h : BytesAt w (.slice p n cap) b) (j c : Nat) (hj : j ≤ b.length) : BytesAt w (.slice p j c) (b.take j) := by
  obtain ⟨q, cap', e, hf⟩ := h
  cases e
  have hl : (b.take j).length = j := by simp; omega
  refine ⟨_, c, by rw [hl], fun k hk => ?_⟩
  rw [hl] at hk
  obtain ⟨g, o, rfl, hg, hc⟩ := hf k (by omega)
  exact ⟨g, o, rfl, hg, by rw [hc]; simp [hk]⟩
theorem BytesAt.none (w : World) (p : Option Addr) (c n : Nat) (l : List UInt8) (h : l.length = 0) (hn : n = 0) : BytesAt w (.slice p n c) l :=
  ⟨p, c, by rw [hn, h], fun i hi => by omega⟩
theorem bytes_lit (w : World) (l : List UInt8) (f : Nat × Nat) : BytesAt (w.alloc (.cells (l.map byteV).toArray 5 f)) (.slice (some ⟨w.heap.size, 0, .none⟩) l.length l.length) l := by
  refine ⟨_, _, rfl, fun i hi => ⟨w.heap.size, 0, rfl, by simp, ?_⟩⟩
  have := World.alloc_heap_new w (.cells (l.map byteV).toArray 5 f)
  simp only [World.cell?, this]
  simp [hi, byteV]

/-! ### Texts -/
theorem ba_app (l m : List UInt8) : (⟨l.toArray⟩ : ByteArray) ++ ⟨m.toArray⟩ = ⟨(l ++ m).toArray⟩ := by
  apply ByteArray.ext
  simp
theorem conv_bytes {w : World} {v : Value} {l : List UInt8} (h : BytesAt w v l) : (convert 25 9 v).run Try.prog w = .ok (str l) w := by
  obtain ⟨p, cap, rfl, hf⟩ := h
  cases p with
  | none =>
    cases l with
    | nil => exact run_convert_bytes_nil w 25 5 rfl rfl _ _ 9 rfl
    | cons c l => obtain ⟨g, o, e, _⟩ := hf 0 (by simp); cases e
  | some a =>
    refine run_convert_bytes_back w 25 9 5 a cap l rfl rfl rfl (fun j hj => ?_)
    obtain ⟨g, o, e, _, hc⟩ := hf j hj
    cases e
    rw [add_plain]
    simpa [List.getElem?_eq_getElem hj] using hc
theorem conv_one (c : UInt8) (w : World) : (convert 25 9 (.slice (some ⟨w.heap.size, 0, none⟩) 1 1)).run Try.prog (w.alloc (.cells #[.int .u8 (c.toNat : Int)] 5)) = .ok (str [c]) (w.alloc (.cells #[.int .u8 (c.toNat : Int)] 5)) :=
  conv_bytes (bytes_lit w [c] (0, 0))
theorem str_eq (l m : List UInt8) : ((⟨l.toArray⟩ : ByteArray) = ⟨m.toArray⟩) = (l = m) := by
  refine propext ⟨fun h => ?_, fun h => by rw [h]⟩
  have := congrArg (fun b => b.data.toList) h
  simpa using this
theorem len_ok (l m : List UInt8) (h : l.length + m.length ≤ 1000000000) : (9223372036854775807 < l.length + m.length) = False := propext ⟨fun h => by omega, False.elim⟩

/-! ### Slices of bytes that are owned -/
def OwnB (w : World) (v : Value) (l : List UInt8) : Prop := w.ownsRow 0 5 1 v l.length (l.map byteV)
theorem grown_of_below {W X : World} (h : Below W.heap.size W X) (row : Option Nat) : W.grownBy X row :=
  ⟨h.os, h.tape, h.output, h.size, fun k hk _ => h.block k hk⟩
theorem row_block {W : World} {s0 e n k : Nat} {v : Value} {xs : List Value} (h : W.ownsRow s0 e k v n xs) {g : Nat} (hg : v.ownBlock = some g) : ∃ c, W.heap[g]? = some (.cells c e (0, 0)) := by
  rcases h.2 with ⟨rfl, _⟩ | ⟨g', cap, cur, rfl, _, hgg, _⟩
  · cases hg
  · cases hg; exact ⟨_, hgg⟩
theorem row_kept {W X : World} {s0 e n k : Nat} {v : Value} {xs : List Value} (h : W.ownsRow s0 e k v n xs) (hg : ∀ g, v.ownBlock = some g → X.heap[g]? = W.heap[g]?) : X.ownsRow s0 e k v n xs := by
  refine ⟨h.1, ?_⟩
  rcases h.2 with hn | ⟨g, cap, cur, rfl, hb, hgg, rest⟩
  · exact .inl hn
  · exact .inr ⟨g, cap, cur, rfl, hb, (hg g rfl).trans hgg, rest⟩
theorem OwnB.at {w : World} {v : Value} {l : List UInt8} (h : OwnB w v l) : BytesAt w v l := by
  rcases h.2 with ⟨rfl, h0⟩ | ⟨g, cap, cur, rfl, _, hg, _, _, hs, ht⟩
  · exact BytesAt.none w .none 0 0 l h0 rfl
  · refine ⟨some ⟨g, 0, .none⟩, cap, rfl, fun i hi => ⟨g, 0, rfl, blk_lt hg, ?_⟩⟩
    have := h.cells (g := g) rfl i (byteV (l[i]'hi)) (by simp [hi])
    rw [add_plain] at this
    rw [this, List.getElem?_eq_getElem hi]; rfl
theorem OwnB.nil (w : World) : OwnB w (.slice none 0 0) [] := World.ownsRow_nil _ _ _ _
theorem OwnB.kept {w w' : World} {v : Value} {l : List UInt8} (h : OwnB w v l) (hg : ∀ g, v.ownBlock = some g → w'.heap[g]? = w.heap[g]?) : OwnB w' v l := row_kept h hg
theorem OwnB.shape {w : World} {v : Value} {l : List UInt8} (h : OwnB w v l) : ∃ p c, v = .slice p l.length c ∧ l.length ≤ c ∧ (p = .none → l.length = 0 ∧ c = 0) ∧ ∀ a, p = some a → ∃ g, a = ⟨g, 0, .none⟩ := by
  rcases h.2 with ⟨rfl, h0⟩ | ⟨g, cap, cur, rfl, _, hg, hc, _⟩
  · exact ⟨.none, 0, by rw [h0], by omega, fun _ => ⟨h0, rfl⟩, fun a e => by cases e⟩
  · exact ⟨_, cap, rfl, hc, fun e => by (cases e), fun a e => by cases e; exact ⟨g, rfl⟩⟩
theorem OwnB.lt {w : World} {v : Value} {l : List UInt8} (h : OwnB w v l) {k : Nat} (hk : v.ownBlock = some k) : k < w.heap.size := (World.ownsRow.lt h k hk).2

/-- The built-in append in the walk, with the place of what comes back. -/
theorem wpList_append_own_at {P : Program} (w : World) {ops : Array Oper} {rest : List Oper} {o : Oper} {a : Act} {Q : Exit → Act → World → Prop}
    (hg : o.guard = none) (s x : Operand) (t : TypeId) (hop : o.op = Op.call { callee := Callee.builtin Builtin.append, args := #[s, x], argTypes := #[t, t] })
    (base : Nat) (e : TypeId) (i : TypeInfo) (z : Value) (size bytes : Nat) (h1 : P.underlying t = some (.slice e)) (h2 : P.info? e = some i) (h3 : i.zero = some z) (h4 : i.size = size) (h5 : i.bytes = bytes) (h6 : z.cells.size = size) (h7 : 0 < size)
    (v : Value) (k : Nat) (xs : List Value) (hs : a.eval s = v) (hown : w.ownsRow base e size v k xs) (ad : Addr) (m c : Nat) (news : List Value) (hx : a.eval x = .slice (some ad) m c) (hn : news.length = m * size)
    (hc : ∀ j u, news[j]? = some u → w.cell? (ad.add j) = some u) (h1c : ∀ u ∈ news, u.oneCell' = true) (b1 : k + m ≤ maxLen) (b2 : (k + m) * bytes ≤ 140737488355328) (b3 : base ≤ w.heap.size)
    (hK : ∀ v' w', w'.ownsRow base e size v' (k + m) (xs ++ news) → w.grownBy w' v.ownBlock → (v' = .slice none 0 0 ↔ v = .slice none 0 0 ∧ m = 0) → (v'.ownBlock = v.ownBlock ∨ v'.ownBlock = some w.heap.size) → wpList P ops Q rest (a.put o.dst v') w') :
    wpList P ops Q (o :: rest) a w := by
  refine wpList_plain hg fun K hK' => ?_
  obtain ⟨v', w', hrun, r1, r2, r3, r4⟩ := run_append_own_at (P := P) w base t o.type e i z size bytes h1 h2 h3 h4 h5 h6 h7 v k xs hown ad m c news hn hc h1c b1 b2 b3
  unfold Oper.wp
  simp [execOp, hop, resolve, invoke, builtin, hs, hx, hrun, Result.andThen]
  exact hK' _ _ (hK v' w' r1 r2 r3 r4)
theorem run_append_none {P : Program} (w : World) (base : Nat) (t ty e : TypeId) (i : TypeInfo) (size : Nat) (ht : P.underlying t = some (.slice e)) (hi : P.info? e = some i)
    (v : Value) (n c : Nat) (xs : List Value) (hown : w.ownsRow base e size v n xs) :
    (Builtin.append_ #[t, t] ty #[v, .slice none 0 c]).run P w = .ok v w := by
  rcases hown.2 with ⟨rfl, rfl⟩ | ⟨g, cap, cur, rfl, _, _, hnc, _⟩
  · simp [Builtin.append_, run_underlying ht, sizeOf, typeInfo, hi, Builtin.lenOf, Builtin.firstCells]
  · simp [Builtin.append_, run_underlying ht, sizeOf, typeInfo, hi, Builtin.lenOf, Builtin.firstCells, hnc, storeCells]
/-- .. of nothing. -/
theorem wpList_append_own_none {P : Program} (w : World) {ops : Array Oper} {rest : List Oper} {o : Oper} {a : Act} {Q : Exit → Act → World → Prop}
    (hg : o.guard = none) (s x : Operand) (t : TypeId) (hop : o.op = Op.call { callee := Callee.builtin Builtin.append, args := #[s, x], argTypes := #[t, t] })
    (base : Nat) (e : TypeId) (i : TypeInfo) (size : Nat) (h1 : P.underlying t = some (.slice e)) (h2 : P.info? e = some i) (h4 : i.size = size)
    (v : Value) (k c : Nat) (xs : List Value) (hs : a.eval s = v) (hown : w.ownsRow base e size v k xs) (hx : a.eval x = .slice none 0 c)
    (hK : wpList P ops Q rest (a.put o.dst v) w) : wpList P ops Q (o :: rest) a w := by
  refine wpList_plain hg fun K hK' => ?_
  have hrun := run_append_none (P := P) w base t o.type e i size h1 h2 v k c xs hown
  unfold Oper.wp
  simp [execOp, hop, resolve, invoke, builtin, hs, hx, hrun, Result.andThen]
  exact hK' _ _ hK
theorem bytes_oneCell (l : List UInt8) : ∀ u ∈ l.map byteV, u.oneCell' = true := by
  intro u hu
  obtain ⟨_, _, rfl⟩ := List.mem_map.1 hu
  rfl
/-- A slice of one element that was just made. -/
def LitAt (lo : Nat) (u : Value) (T : TypeId) (v : Value) (X : World) : Prop := ∃ g, v = .slice (some ⟨g, 0, none⟩) 1 1 ∧ lo ≤ g ∧ X.heap[g]? = some (.cells #[u] T (0, 0))
theorem infoC : (Try.prog.info? 5).map (fun i => (i.zero, i.size, i.bytes)) = some (some (.int .u8 0), 1, 1) := by kernel_rfl
end Go.Proofs.Ytehfinjcfjobeaa
