/- What stands between the rounds of SipPlays: sums and strings, side by side.
   Conditions: those that each theorem names. -/
import Derived.Test.YtfebfpfmjdeedaaJ
import Derived.Test.YtfebfpfmjdeedaaVals
import Derived.Test.YtfebfpfmjdeedaaSeq
import Derived.Maps.AppendAt
import Derived.OwnWalk
namespace Go.Proofs.Ytfebfpfmjdeedaa
set_option linter.unusedVariables false
set_option linter.unusedSimpArgs false
open Go.RowKit Go.Rg

abbrev ptr (b : Nat) : Value := .pointer (some ⟨b, 0, none⟩)
structure PlaySt (A B : UInt64) (s0 : Nat) (va vb : Value) (bs : List Nat) (ts ss : List (List UInt8)) (W : World) : Prop where
  lt : ts.length = bs.length
  ls : ss.length = bs.length
  pos : 0 < bs.length
  rowA : W.ownsRow s0 40 1 va bs.length (bs.map ptr)
  rowB : W.ownsRow s0 9 1 vb bs.length (ss.map str)
  nd : bs.Nodup
  lo : ∀ (j : Nat) b, bs[j]? = some b → s0 ≤ b
  sum : ∀ (j : Nat) b s, bs[j]? = some b → ts[j]? = some s → W.heap[b]? = some (.cells ((newP A B).write s).vals.toArray 60 (0, 0))

theorem grown_of_below {W X : World} (h : Below W.heap.size W X) (row : Option Nat) : W.grownBy X row :=
  ⟨h.os, h.tape, h.output, h.size, fun k hk _ => h.block k hk⟩
theorem row_block {W : World} {s0 e n : Nat} {v : Value} {xs : List Value} (h : W.ownsRow s0 e 1 v n xs) {g : Nat} (hg : v.ownBlock = some g) : ∃ c, W.heap[g]? = some (.cells c e (0, 0)) := by
  rcases h.2 with ⟨rfl, _⟩ | ⟨g', cap, cur, rfl, _, hgg, _⟩
  · cases hg
  · cases hg; exact ⟨_, hgg⟩
/-- A row is kept where the block that was written holds cells of another type. -/
theorem row_other {W X : World} {s0 e n : Nat} {v : Value} {xs : List Value} (h : W.ownsRow s0 e 1 v n xs) {row : Option Nat} (hg : W.grownBy X row) (hr : ∀ k, row = some k → ∃ c e' f, W.heap[k]? = some (.cells c e' f) ∧ e' ≠ e) :
    X.ownsRow s0 e 1 v n xs := by
  refine h.kept hg ?_
  cases hv : v.ownBlock with
  | none => exact .inl rfl
  | some g =>
    right
    intro e0
    obtain ⟨c, hc⟩ := row_block h hv
    obtain ⟨c', e', f, hc', hne⟩ := hr g e0.symm
    rw [hc] at hc'
    cases hc'
    exact hne rfl

section
variable {A B : UInt64} {s0 : Nat} {va vb : Value} {bs : List Nat} {ts ss : List (List UInt8)} {W : World}

theorem PlaySt.grow (h : PlaySt A B s0 va vb bs ts ss W) {X : World} (hX : Below W.heap.size W X) : PlaySt A B s0 va vb bs ts ss X :=
  ⟨h.lt, h.ls, h.pos, h.rowA.kept (grown_of_below hX none) (by cases hv : va.ownBlock <;> simp), h.rowB.kept (grown_of_below hX none) (by cases hv : vb.ownBlock <;> simp), h.nd, h.lo,
    fun j b s hb hs => (hX.block b (Array.getElem?_eq_some_iff.1 (h.sum j b s hb hs)).1).trans (h.sum j b s hb hs)⟩

theorem PlaySt.wrote (h : PlaySt A B s0 va vb bs ts ss W) {X : World} (j b : Nat) (s l : List UInt8) (hb : bs[j]? = some b) (hs : ts[j]? = some s) (ho : Only b W X)
    (hX : X.heap[b]? = some (.cells ((newP A B).write (s ++ l)).vals.toArray 60 (0, 0))) : PlaySt A B s0 va vb bs (ts.set j (s ++ l)) ss X := by
  have hg : W.grownBy X (some b) := ⟨ho.os, ho.tape, ho.output, Nat.le_of_eq ho.size.symm, fun k _ hk => ho.block k (fun e => hk (by rw [e]))⟩
  have hblk := h.sum j b s hb hs
  refine ⟨by simpa using h.lt, h.ls, h.pos, row_other h.rowA hg ?_, row_other h.rowB hg ?_, h.nd, h.lo, ?_⟩
  · rintro k ⟨⟩; exact ⟨_, _, _, hblk, by decide⟩
  · rintro k ⟨⟩; exact ⟨_, _, _, hblk, by decide⟩
  · intro i c t hc ht
    by_cases hij : i = j
    · subst hij
      rw [hb] at hc; cases hc
      have hlt := (List.getElem?_eq_some_iff.1 hs).1
      rw [List.getElem?_set_self (by simpa using hlt)] at ht
      cases ht
      exact hX
    · rw [List.getElem?_set_ne (fun e => hij e.symm)] at ht
      have hne : c ≠ b := by
        rintro rfl
        obtain ⟨h1, h2⟩ := List.getElem?_eq_some_iff.1 hc
        obtain ⟨h3, h4⟩ := List.getElem?_eq_some_iff.1 hb
        exact hij ((List.getElem_inj h.nd).1 (h2.trans h4.symm))
      exact (ho.block c hne).trans (h.sum i c t hc ht)

theorem PlaySt.stored (h : PlaySt A B s0 va vb bs ts ss W) (j g n cap : Nat) (hv : vb = .slice (some ⟨g, 0, none⟩) n cap) (s : List UInt8) : PlaySt A B s0 va vb bs ts (ss.set j s) (W.setCell ⟨g, j, none⟩ (str s)) := by
  subst hv
  have hn : n = bs.length := by
    rcases h.rowB.2 with ⟨h', _⟩ | ⟨_, _, _, h', _⟩ <;> cases h'; rfl
  subst hn
  obtain ⟨h1, h2⟩ := h.rowB.stored j (str s)
  obtain ⟨c, hc⟩ := row_block h.rowB rfl
  refine ⟨h.lt, by simpa using h.ls, h.pos, row_other h.rowA h2 ?_, by rw [← List.map_set] at h1; exact h1, h.nd, h.lo, ?_⟩
  · rintro k ⟨⟩; exact ⟨_, _, _, hc, by decide⟩
  · intro i b t hb ht
    have := h.sum i b t hb ht
    refine (h2.block b (Array.getElem?_eq_some_iff.1 this).1 ?_).trans this
    rintro ⟨⟩
    rw [hc] at this
    cases this

theorem PlaySt.shapes (h : PlaySt A B s0 va vb bs ts ss W) : ∃ ga ca gb cb, va = .slice (some ⟨ga, 0, none⟩) bs.length ca ∧ vb = .slice (some ⟨gb, 0, none⟩) bs.length cb ∧ ga < W.heap.size ∧ gb < W.heap.size ∧ s0 ≤ ga ∧ s0 ≤ gb := by
  rcases h.rowA.2 with ⟨_, h0⟩ | ⟨ga, ca, _, ea, la, hga, _⟩
  · have := h.pos; omega
  rcases h.rowB.2 with ⟨_, h0⟩ | ⟨gb, cb, _, eb, lb, hgb, _⟩
  · have := h.pos; omega
  exact ⟨ga, ca, gb, cb, ea, eb, (Array.getElem?_eq_some_iff.1 hga).1, (Array.getElem?_eq_some_iff.1 hgb).1, la, lb⟩
theorem PlaySt.ptrAt (h : PlaySt A B s0 va vb bs ts ss W) {g n c : Nat} (hv : va = .slice (some ⟨g, 0, none⟩) n c) {j b : Nat} (hb : bs[j]? = some b) : W.cell? ⟨g, j, none⟩ = some (ptr b) := by
  subst hv
  have hn : n = bs.length := by rcases h.rowA.2 with ⟨h', _⟩ | ⟨_, _, _, h', _⟩ <;> cases h'; rfl
  subst hn
  have hj := (List.getElem?_eq_some_iff.1 hb).1
  rw [h.rowA.cellAt j (by omega), List.getElem?_map, hb]; rfl
theorem PlaySt.strAt (h : PlaySt A B s0 va vb bs ts ss W) {g n c : Nat} (hv : vb = .slice (some ⟨g, 0, none⟩) n c) {j : Nat} {s : List UInt8} (hs : ss[j]? = some s) : W.cell? ⟨g, j, none⟩ = some (str s) := by
  subst hv
  have hn : n = bs.length := by rcases h.rowB.2 with ⟨h', _⟩ | ⟨_, _, _, h', _⟩ <;> cases h'; rfl
  subst hn
  have hj := (List.getElem?_eq_some_iff.1 hs).1
  rw [h.rowB.cellAt j (by have := h.ls; omega), List.getElem?_map, hs]; rfl
theorem PlaySt.strFree (h : PlaySt A B s0 va vb bs ts ss W) {g n c : Nat} (hv : vb = .slice (some ⟨g, 0, none⟩) n c) (j : Nat) : W.frozen? ⟨g, j, none⟩ = false := by
  subst hv
  have hn : n = bs.length := by rcases h.rowB.2 with ⟨h', _⟩ | ⟨_, _, _, h', _⟩ <;> cases h'; rfl
  subst hn
  exact h.rowB.frozenAt j

theorem PlaySt.first (A B : UInt64) (W : World) (b g1 g2 s0 : Nat) (hb : W.heap[b]? = some (.cells (newP A B).vals.toArray 60 (0, 0))) (h1 : W.heap[g1]? = some (.cells #[ptr b] 40 (0, 0))) (h2 : W.heap[g2]? = some (.cells #[str []] 9 (0, 0)))
    (l0 : s0 ≤ b) (l1 : s0 ≤ g1) (l2 : s0 ≤ g2) : PlaySt A B s0 (.slice (some ⟨g1, 0, none⟩) 1 1) (.slice (some ⟨g2, 0, none⟩) 1 1) [b] [[]] [[]] W := by
  refine ⟨rfl, rfl, Nat.one_pos, ⟨rfl, .inr ⟨g1, 1, _, rfl, l1, h1, Nat.le_refl _, by unfold maxLen; decide, rfl, rfl⟩⟩, ⟨rfl, .inr ⟨g2, 1, _, rfl, l2, h2, Nat.le_refl _, by unfold maxLen; decide, rfl, rfl⟩⟩, by simp, ?_, ?_⟩
  · intro j c hc
    obtain ⟨hj, rfl⟩ := List.getElem?_eq_some_iff.1 hc
    simpa using l0
  · intro j c s hc hs
    obtain rfl : j = 0 := by have := (List.getElem?_eq_some_iff.1 hc).1; simpa using this
    cases hc; cases hs
    exact hb
end

theorem PlaySt.longer {A B : UInt64} {s0 : Nat} {va vb va' vb' : Value} {bs : List Nat} {ss : List (List UInt8)} {W X : World} (h : PlaySt A B s0 va vb bs ss ss W) {b' : Nat} {s : List UInt8} (hb' : W.heap.size ≤ b') (h0 : s0 ≤ W.heap.size)
    (hc : X.heap[b']? = some (.cells ((newP A B).write s).vals.toArray 60 (0, 0))) (hra : X.ownsRow s0 40 1 va' (bs.length + 1) (bs.map ptr ++ [ptr b'])) (hrb : X.ownsRow s0 9 1 vb' (bs.length + 1) (ss.map str ++ [str s]))
    (hs : ∀ (j : Nat) b s, bs[j]? = some b → ss[j]? = some s → X.heap[b]? = some (.cells ((newP A B).write s).vals.toArray 60 (0, 0))) : PlaySt A B s0 va' vb' (bs ++ [b']) (ss ++ [s]) (ss ++ [s]) X := by
  have hlt : ∀ b ∈ bs, b < W.heap.size := by
    intro b hb
    obtain ⟨j, hj, rfl⟩ := List.getElem_of_mem hb
    exact (Array.getElem?_eq_some_iff.1 (h.sum j _ (ss[j]'(by have := h.ls; omega)) (List.getElem?_eq_getElem hj) (List.getElem?_eq_getElem (by have := h.ls; omega)))).1
  refine ⟨by simp [h.ls], by simp [h.ls], by simp, by simpa using hra, by simpa using hrb, ?_, ?_, ?_⟩
  · rw [List.nodup_append]
    exact ⟨h.nd, by simp, fun x hx y hy => by have := hlt x hx; simp at hy; omega⟩
  · intro j b hb
    rcases Nat.lt_or_ge j bs.length with hj | hj
    · rw [List.getElem?_append_left hj] at hb; exact h.lo j b hb
    · rw [List.getElem?_append_right hj] at hb
      obtain ⟨_, e⟩ := List.getElem?_eq_some_iff.1 hb
      simp at e; omega
  · intro j b t hb ht
    rcases Nat.lt_or_ge j bs.length with hj | hj
    · rw [List.getElem?_append_left hj] at hb
      rw [List.getElem?_append_left (by have := h.ls; omega)] at ht
      exact hs j b t hb ht
    · rw [List.getElem?_append_right hj] at hb
      rw [List.getElem?_append_right (by have := h.ls; omega)] at ht
      obtain ⟨_, e⟩ := List.getElem?_eq_some_iff.1 hb
      obtain ⟨_, e'⟩ := List.getElem?_eq_some_iff.1 ht
      simp at e e'
      subst e e'
      exact hc

/-- The built-in append in the walk, with the place of what comes back. -/
theorem wpList_append_own_at {P : Program} (w : World) {ops : Array Oper} {rest : List Oper} {o : Oper} {a : Act} {Q : Exit → Act → World → Prop}
    (hg : o.guard = none) (s x : Operand) (t : TypeId) (hop : o.op = Op.call { callee := Callee.builtin Builtin.append, args := #[s, x], argTypes := #[t, t] })
    (base : Nat) (e : TypeId) (i : TypeInfo) (z : Value) (size bytes : Nat) (h1 : P.underlying t = some (.slice e)) (h2 : P.info? e = some i) (h3 : i.zero = some z) (h4 : i.size = size) (h5 : i.bytes = bytes) (h6 : z.cells.size = size) (h7 : 0 < size)
    (v : Value) (k : Nat) (xs : List Value) (hs : a.eval s = v) (hown : w.ownsRow base e size v k xs) (ad : Addr) (m c : Nat) (news : List Value) (hx : a.eval x = .slice (some ad) m c) (hn : news.length = m * size)
    (hc : ∀ j u, news[j]? = some u → w.cell? (ad.add j) = some u) (h1c : ∀ u ∈ news, u.oneCell' = true) (b1 : k + m ≤ maxLen) (b2 : (k + m) * bytes ≤ 140737488355328) (b3 : base ≤ w.heap.size)
    (hK : ∀ v' w', w'.ownsRow base e size v' (k + m) (xs ++ news) → w.grownBy w' v.ownBlock → (v' = .slice none 0 0 ↔ v = .slice none 0 0 ∧ m = 0) → (v'.ownBlock = v.ownBlock ∨ v'.ownBlock = some w.heap.size) → wpList P ops Q rest (a.put o.dst v') w') :
    wpList P ops Q (o :: rest) a w := by
  refine wpList_plain hg fun K hK' => ?_
  obtain ⟨v', w', hrun, r1, r2, r3, r4⟩ := run_append_own_at (P := P) w base t o.type e i z size bytes h1 h2 h3 h4 h5 h6 h7 v k xs hown ad m c news hn hc h1c b1 b2 b3
  unfold Oper.wp
  simp [execOp, hop, resolve, invoke, builtin, hs, hx, hrun, Result.andThen]
  exact hK' _ _ (hK v' w' r1 r2 r3 r4)

/-- The rows of the law's operations that can be read. -/
structure PlayOp where
  kind : Int
  at_ : Int
  b : List UInt8
def OpsAt (w : World) (v : Value) (os : List PlayOp) : Prop :=
  ∃ p cap, v = .slice p os.length cap ∧ ∀ i, i < os.length → ∃ g o u q, p = some ⟨g, o, none⟩ ∧ g < w.heap.size ∧ os[i]? = some q ∧ w.cell? ⟨g, o + i * 3, none⟩ = some (.int .i64 q.kind) ∧ w.cell? ⟨g, o + i * 3 + 1, none⟩ = some (.int .i64 q.at_) ∧
    w.cell? ⟨g, o + i * 3 + 2, none⟩ = some u ∧ BytesAt w u q.b ∧ (-9223372036854775808 ≤ q.kind ∧ q.kind ≤ 9223372036854775807) ∧ (-9223372036854775808 ≤ q.at_ ∧ q.at_ ≤ 9223372036854775807)
/-- A slice of one element that was just made. -/
def LitAt (lo : Nat) (u : Value) (T : TypeId) (v : Value) (X : World) : Prop := ∃ g, v = .slice (some ⟨g, 0, none⟩) 1 1 ∧ lo ≤ g ∧ X.heap[g]? = some (.cells #[u] T (0, 0))
attribute [local go_sem] ba_app
theorem cat_any (a b : List UInt8) (h : a.length + b.length ≤ 1000000) (w : World) : (binOp .add 9 (str a) (str b)).run Try.prog w = .ok (str (a ++ b)) w := by
  go_simp
  omega
end Go.Proofs.Ytfebfpfmjdeedaa
