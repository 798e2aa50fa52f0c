/- Rows of elements of a fixed number of cells: slices that are read (SlV), slices that are owned (OwnV).
   Conditions: those that each theorem names. -/
import Derived.Test.YtehfinjcfjobeaaArr
import Derived.Test.YtehfinjcfjobeaaSeq
namespace Go.Proofs.Ytehfinjcfjobeaa
set_option maxRecDepth 100000
set_option linter.unusedVariables false
set_option linter.unusedSimpArgs false
open Go.RowKit Go.Rg
/-- Elements of one size, each cell a plain one. -/
def Sized (sz : Nat) (css : List (List Value)) : Prop := ∀ c ∈ css, c.length = sz ∧ ∀ u ∈ c, u.oneCell' = true
theorem Sized.tail {sz : Nat} {c : List Value} {t : List (List Value)} (h : Sized sz (c :: t)) : Sized sz t := fun x hx => h x (by simp [hx])
theorem Sized.head {sz : Nat} {c : List Value} {t : List (List Value)} (h : Sized sz (c :: t)) : c.length = sz := (h c (by simp)).1
theorem Sized.flat : ∀ {css : List (List Value)} {sz : Nat}, Sized sz css → css.flatten.length = css.length * sz
  | [], _, _ => by simp
  | c :: t, sz, h => by rw [List.flatten_cons, List.length_append, h.tail.flat, h.head, List.length_cons, Nat.succ_mul]; omega
theorem Sized.get : ∀ {css : List (List Value)} {sz : Nat} (i : Nat) (c : List Value), Sized sz css → css[i]? = some c → ∀ (j : Nat) (v : Value), c[j]? = some v → css.flatten[i * sz + j]? = some v
  | [], _, i, c, _, h, _, _, _ => by simp at h
  | d :: t, sz, 0, c, h16, h, j, v, hv => by
    simp only [List.getElem?_cons_zero, Option.some.injEq] at h
    subst h
    rw [List.flatten_cons, Nat.zero_mul, Nat.zero_add, List.getElem?_append_left (List.getElem?_eq_some_iff.1 hv).1, hv]
  | d :: t, sz, i + 1, c, h16, h, j, v, hv => by
    have hd := h16.head
    rw [List.getElem?_cons_succ] at h
    rw [List.flatten_cons, List.getElem?_append_right (by rw [Nat.succ_mul]; omega), hd, Nat.succ_mul, show i * sz + sz + j - sz = i * sz + j by omega]
    exact Sized.get i c h16.tail h j v hv
theorem splice_left {cs rest vs : List Value} {o : Nat} (h : o + vs.length ≤ cs.length) : splice (cs ++ rest) o vs = splice cs o vs ++ rest := by
  unfold splice
  rw [List.take_append_of_le_length (by omega), List.drop_append_of_le_length h]
  simp
theorem Sized.splice : ∀ {css : List (List Value)} {sz : Nat} (i : Nat) (c : List Value), Sized sz css → c.length = sz → i < css.length → splice css.flatten (i * sz) c = (css.set i c).flatten
  | [], _, i, c, _, _, h => by simp at h
  | d :: t, sz, 0, c, h16, hc, h => by
    have hd := h16.head
    rw [List.set_cons_zero, List.flatten_cons, List.flatten_cons, Nat.zero_mul]
    unfold Proofs.Ytehfinjcfjobeaa.splice
    rw [List.take_zero, List.nil_append, Nat.zero_add, List.drop_append_of_le_length (by omega), List.drop_of_length_le (by omega), List.nil_append]
  | d :: t, sz, i + 1, c, h16, hc, h => by
    have hd := h16.head
    have hf := h16.tail.flat
    have hl : i * sz + sz ≤ t.length * sz := by
      have h1 : i + 1 ≤ t.length := by simp at h; omega
      have := Nat.mul_le_mul_right sz h1
      rwa [Nat.succ_mul] at this
    rw [List.set_cons_succ, List.flatten_cons, List.flatten_cons, ← Sized.splice i c h16.tail hc (by simpa using h)]
    unfold Proofs.Ytehfinjcfjobeaa.splice
    rw [Nat.succ_mul, show i * sz + sz = d.length + i * sz by omega, List.take_length_add_append, List.append_assoc, List.append_assoc, Nat.add_assoc, List.drop_length_add_append, List.append_assoc]
theorem Sized.set {sz : Nat} {css : List (List Value)} (h : Sized sz css) (i : Nat) {c : List Value} (hc : c.length = sz) (h1 : ∀ u ∈ c, u.oneCell' = true) : Sized sz (css.set i c) := by
  intro x hx
  rcases List.mem_or_eq_of_mem_set hx with h' | rfl
  · exact h x h'
  · exact ⟨hc, h1⟩
theorem Sized.append {sz : Nat} {css dss : List (List Value)} (h : Sized sz css) (k : Sized sz dss) : Sized sz (css ++ dss) := fun x hx => (List.mem_append.1 hx).elim (h x) (k x)
theorem Sized.one {sz : Nat} {css : List (List Value)} (h : Sized sz css) : ∀ u ∈ css.flatten, u.oneCell' = true := by
  intro u hu
  obtain ⟨c, hc, hu⟩ := List.mem_flatten.1 hu
  exact (h c hc).2 u hu
theorem Sized.nil (sz : Nat) : Sized sz [] := fun c h => by cases h
theorem Sized.take {sz : Nat} {css : List (List Value)} (h : Sized sz css) (k : Nat) : Sized sz (css.take k) := fun x hx => h x (List.mem_of_mem_take hx)
theorem Sized.drop {sz : Nat} {css : List (List Value)} (h : Sized sz css) (k : Nat) : Sized sz (css.drop k) := fun x hx => h x (List.mem_of_mem_drop hx)
/-! ### Slices that are read -/
def SlV (sz : Nat) (w : World) (v : Value) (css : List (List Value)) : Prop :=
  ∃ p cap, v = .slice p css.length cap ∧ css.length ≤ cap ∧ ∀ i c, css[i]? = some c → ∃ g o, p = some ⟨g, o, none⟩ ∧ g < w.heap.size ∧ w.rangeAt g (o + i * sz) c
theorem range_kept {g o : Nat} {cs : List Value} {X Y : World} (h : X.rangeAt g o cs) (hg : Y.heap[g]? = X.heap[g]?) : Y.rangeAt g o cs := fun j v hv => by
  have := h j v hv
  rw [← this]
  simp only [World.cell?, hg]
theorem SlV.kept {sz : Nat} {w w' : World} {v : Value} {l : List (List Value)} (h : SlV sz w v l) (hB : ∀ k, v.ownBlock = some k → k < w.heap.size → w'.heap[k]? = w.heap[k]?) (hz : w.heap.size ≤ w'.heap.size) : SlV sz w' v l := by
  obtain ⟨p, cap, rfl, hc, hf⟩ := h
  refine ⟨p, cap, rfl, hc, fun i c hi => ?_⟩
  obtain ⟨g, o, rfl, hg, hr⟩ := hf i c hi
  exact ⟨g, o, rfl, Nat.lt_of_lt_of_le hg hz, range_kept hr (hB g rfl hg)⟩
theorem SlV.below {sz : Nat} {w w' : World} {v : Value} {l : List (List Value)} (h : SlV sz w v l) (hB : Below w.heap.size w w') : SlV sz w' v l :=
  h.kept (fun k _ hk => hB.block k hk) hB.size
theorem SlV.lt {sz : Nat} {w : World} {v : Value} {l : List (List Value)} (h : SlV sz w v l) (h0 : 0 < l.length) : ∃ k, v.ownBlock = some k ∧ k < w.heap.size := by
  obtain ⟨p, cap, rfl, hc, hf⟩ := h
  obtain ⟨g, o, rfl, hg, _⟩ := hf 0 l[0] (List.getElem?_eq_getElem h0)
  exact ⟨g, rfl, hg⟩
theorem SlV.none (sz : Nat) (w : World) (p : Option Addr) (c : Nat) : SlV sz w (.slice p 0 c) [] := ⟨p, c, rfl, Nat.zero_le _, fun i c hi => by simp at hi⟩
theorem SlV.take {sz : Nat} {w : World} {p : Option Addr} {n cap : Nat} {cs : List (List Value)} (h : SlV sz w (.slice p n cap) cs) (k : Nat) (hk : k ≤ cs.length) : SlV sz w (.slice p k cap) (cs.take k) := by
  obtain ⟨q, cap', e, hc, hf⟩ := h
  cases e
  have hl : (cs.take k).length = k := by simp; omega
  refine ⟨p, cap, by rw [hl], by omega, fun i c hi => ?_⟩
  have hik : i < k := by have := (List.getElem?_eq_some_iff.1 hi).1; omega
  exact hf i c (by rw [List.getElem?_take, if_pos hik] at hi; exact hi)
theorem SlV.drop {sz : Nat} {w : World} {p : Option Addr} {n cap : Nat} {cs : List (List Value)} (h : SlV sz w (.slice p n cap) cs) (k : Nat) (hk : k ≤ cs.length) : SlV sz w (.slice (if cap = k then p else p.map (fun x => x.add (k * sz))) (cs.length - k) (cap - k)) (cs.drop k) := by
  obtain ⟨q, cap', e, hc, hf⟩ := h
  cases e
  have hl : (cs.drop k).length = cs.length - k := by simp
  refine ⟨_, cap - k, by rw [hl], by omega, fun i c hi => ?_⟩
  have hik : i < cs.length - k := by have := (List.getElem?_eq_some_iff.1 hi).1; omega
  rw [List.getElem?_drop] at hi
  obtain ⟨g, o, rfl, hg, hr⟩ := hf (k + i) c hi
  rw [if_neg (by omega), Option.map_some, add_plain]
  exact ⟨g, o + k * sz, rfl, hg, by rw [show o + k * sz + i * sz = o + (k + i) * sz by rw [Nat.add_mul]; omega]; exact hr⟩
/-- All its cells in a row. -/
theorem SlV.cells {sz : Nat} {w : World} {g : Addr} {n cap : Nat} {l : List (List Value)} (h : SlV sz w (.slice (some g) n cap) l) (hs : Sized sz l) : ∀ j u, l.flatten[j]? = some u → w.cell? (g.add j) = some u := by
  obtain ⟨p, cap', e, hc, hf⟩ := h
  cases e
  intro j u hu
  have hj : j < l.length * sz := by rw [← hs.flat]; exact (List.getElem?_eq_some_iff.1 hu).1
  have hz : 0 < sz := Nat.pos_of_ne_zero (fun e => by subst e; simp at hj)
  have hi : j / sz < l.length := Nat.div_lt_of_lt_mul (by rw [Nat.mul_comm]; exact hj)
  have hm : j % sz < sz := Nat.mod_lt _ hz
  have hl := (hs _ (List.getElem_mem hi)).1
  obtain ⟨g', o, e, _, hr⟩ := hf (j / sz) _ (List.getElem?_eq_getElem hi)
  cases e
  have h1 := hr (j % sz) _ (List.getElem?_eq_getElem (by omega))
  have h2 := hs.get (j / sz) _ (List.getElem?_eq_getElem hi) (j % sz) _ (List.getElem?_eq_getElem (by omega))
  have ej : j / sz * sz + j % sz = j := Nat.div_add_mod' j sz
  rw [ej, hu] at h2
  rw [add_plain, show o + j = o + j / sz * sz + j % sz by omega, h1, h2]
/-! ### Slices that are owned -/
def OwnV (E : TypeId) (sz : Nat) (w : World) (v : Value) (css : List (List Value)) : Prop := Sized sz css ∧ w.ownsRow 0 E sz v css.length css.flatten
theorem OwnV.nil (E : TypeId) (sz : Nat) (w : World) : OwnV E sz w (.slice none 0 0) [] := ⟨Sized.nil _, World.ownsRow_nil _ _ _ _⟩
theorem OwnV.kept {E : TypeId} {sz : Nat} {w w' : World} {v : Value} {l : List (List Value)} (h : OwnV E sz w v l) (hg : ∀ g, v.ownBlock = some g → w'.heap[g]? = w.heap[g]?) : OwnV E sz w' v l := ⟨h.1, row_kept h.2 hg⟩
theorem OwnV.lt {E : TypeId} {sz : Nat} {w : World} {v : Value} {l : List (List Value)} (h : OwnV E sz w v l) {k : Nat} (hk : v.ownBlock = some k) : k < w.heap.size := (World.ownsRow.lt h.2 k hk).2
theorem OwnV.below {E : TypeId} {sz : Nat} {w w' : World} {v : Value} {l : List (List Value)} (h : OwnV E sz w v l) (hB : Below w.heap.size w w') : OwnV E sz w' v l := h.kept (fun g hg => hB.block g (h.lt hg))
theorem OwnV.shape {E : TypeId} {sz : Nat} {w : World} {v : Value} {l : List (List Value)} (h : OwnV E sz w v l) : ∃ p c, v = .slice p l.length c ∧ l.length ≤ c ∧ (p = .none → l = [] ∧ c = 0) ∧ ∀ a, p = some a → ∃ g, a = ⟨g, 0, .none⟩ := by
  rcases h.2.2 with ⟨rfl, h0⟩ | ⟨g, cap, cur, rfl, _, hg, hc, _⟩
  · exact ⟨.none, 0, by rw [h0], by omega, fun _ => ⟨List.eq_nil_of_length_eq_zero h0, rfl⟩, fun a e => by cases e⟩
  · exact ⟨_, cap, rfl, hc, fun e => by (cases e), fun a e => by cases e; exact ⟨g, rfl⟩⟩
theorem OwnV.at {E : TypeId} {sz : Nat} {w : World} {v : Value} {l : List (List Value)} (h : OwnV E sz w v l) : SlV sz w v l := by
  rcases h.2.2 with ⟨rfl, h0⟩ | ⟨g, cap, cur, rfl, _, hg, hc, _, hs, ht⟩
  · obtain rfl := List.eq_nil_of_length_eq_zero h0
    exact SlV.none _ _ _ _
  · refine ⟨_, cap, rfl, hc, fun i c hi => ⟨g, 0, rfl, blk_lt hg, fun j v hv => ?_⟩⟩
    have := h.2.cells (g := g) rfl (i * sz + j) v (h.1.get i c hi j v hv)
    rw [add_plain] at this
    rw [show 0 + i * sz + j = 0 + (i * sz + j) by omega]
    exact this
/-- An element of it, written whole. -/
theorem OwnV.store {E : TypeId} {sz : Nat} {w : World} {v : Value} {l : List (List Value)} (h : OwnV E sz w v l) {g o n cap : Nat} (hv : v = .slice (some ⟨g, o, none⟩) n cap) {i : Nat} (hi : i < l.length) {c : List Value} (hc : c.length = sz) (h1 : ∀ u ∈ c, u.oneCell' = true) :
    o = 0 ∧ g < w.heap.size ∧ w.there g (i * sz) sz ∧ OwnV E sz (w.setCells g (i * sz) c) v (l.set i c) := by
  rcases h.2.2 with ⟨rfl, h0⟩ | ⟨g', cap', cur, rfl, hb, hg, hcap, hm, hs, ht⟩
  · cases hv
  · cases hv
    have hfl := h.1.flat
    have hle : i * sz + sz ≤ l.length * sz := by
      have := Nat.mul_le_mul_right sz (show i + 1 ≤ l.length from hi)
      rwa [Nat.succ_mul] at this
    have hcl : l.length * sz ≤ cap * sz := Nat.mul_le_mul_right sz hcap
    obtain ⟨cl⟩ := cur
    have hsz : cl.length = cap * sz := by simpa using hs
    refine ⟨rfl, blk_lt hg, blk_there hg _ _ (by omega), h.1.set i hc h1, by rw [(h.1.set i hc h1).flat, List.length_set], .inr ⟨g, cap, (Proofs.Ytehfinjcfjobeaa.splice cl (i * sz) c).toArray, by rw [List.length_set], hb, heap_setCells g E (0, 0) c (i * sz) cl w hg (by omega), by rw [List.length_set]; exact hcap, hm, ?_, ?_⟩⟩
    · rw [List.size_toArray, splice_length (by omega), hsz]
    · have hcl' : cl = l.flatten ++ cl.drop (l.length * sz) := by
        have := List.take_append_drop (l.length * sz) cl
        rw [show cl.take (l.length * sz) = l.flatten from ht] at this
        exact this.symm
      rw [List.length_set, ← h.1.splice i c hc hi]
      show (Proofs.Ytehfinjcfjobeaa.splice cl (i * sz) c).take (l.length * sz) = _
      rw [hcl', splice_left (by omega), List.take_append_of_le_length (by rw [splice_length (by omega)]; omega), List.take_of_length_le (by rw [splice_length (by omega)]; omega)]
theorem OwnV.mk {E : TypeId} {sz base n : Nat} {w : World} {v : Value} {css dss : List (List Value)} (h : w.ownsRow base E sz v n (css.flatten ++ dss.flatten)) (hc : Sized sz css) (hd : Sized sz dss) (hn : n = css.length + dss.length) : OwnV E sz w v (css ++ dss) := by
  refine ⟨hc.append hd, ?_⟩
  rw [List.flatten_append, List.length_append, ← hn]
  exact row_base h (Nat.zero_le _)
/-- A row that was just made. -/
theorem OwnV.made (E : TypeId) (sz : Nat) (w : World) (css : List (List Value)) (h : Sized sz css) (hm : css.length ≤ maxLen) : OwnV E sz (w.alloc (.cells css.flatten.toArray E)) (.slice (some ⟨w.heap.size, 0, none⟩) css.length css.length) css := by
  refine ⟨h, h.flat, .inr ⟨w.heap.size, css.length, css.flatten.toArray, rfl, Nat.zero_le _, World.alloc_heap_new _ _, Nat.le_refl _, hm, by rw [List.size_toArray, h.flat], ?_⟩⟩
  show css.flatten.take _ = _
  rw [List.take_of_length_le (by rw [h.flat]; exact Nat.le_refl _)]
end Go.Proofs.Ytehfinjcfjobeaa
