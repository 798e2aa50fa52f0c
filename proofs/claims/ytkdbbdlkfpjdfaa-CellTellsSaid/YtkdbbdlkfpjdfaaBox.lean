/- A drawn region that makes boxes and fills them: what each box holds behind it.
   Conditions: each box is filled once, behind its making. -/
import Derived.Test.YtkdbbdlkfpjdfaaAll
import Derived.Test.YtkdbbdlkfpjdfaaArr
namespace Go.Proofs.Ytkdbbdlkfpjdfaa
set_option maxRecDepth 100000
set_option linter.unusedVariables false
set_option linter.unusedSimpArgs false
open Go.RowKit Go.Rg
structure Ent where
  a : Nat
  s : Nat
  T : TypeId
  old : List Value
  new : List Value
def BJ (lo : Nat) (L : List Ent) (done : Nat → Prop) (vs : Nat → Value) (X : World) : Prop :=
  ∀ e ∈ L, (done e.s → done e.a) ∧ (done e.a → ∃ b, vs e.a = ptr b ∧ lo ≤ b ∧ (done e.s → X.heap[b]? = some (.cells e.new.toArray e.T (0, 0))) ∧ (¬ done e.s → X.heap[b]? = some (.cells e.old.toArray e.T (0, 0))) ∧
    ∀ e' ∈ L, done e'.a → vs e'.a = ptr b → e'.a = e.a)
def BG (lo : Nat) (L : List Ent) (i : Nat) (vs : Nat → Value) (v : Value) (X Y : World) : Prop :=
  Below lo X Y ∧ (∀ e ∈ L, e.a = i → v = ptr X.heap.size ∧ Y.heap[X.heap.size]? = some (.cells e.old.toArray e.T (0, 0))) ∧
  (∀ e ∈ L, e.s = i → ∃ b, vs e.a = ptr b ∧ Y.heap[b]? = some (.cells e.new.toArray e.T (0, 0)) ∧ ∀ k, k ≠ b → Y.heap[k]? = X.heap[k]?) ∧ ((∀ e ∈ L, e.s ≠ i) → Below X.heap.size X Y)
theorem BJ.start (lo : Nat) (L : List Ent) (vs : Nat → Value) (X : World) : BJ lo L (fun _ => False) vs X := fun e _ => ⟨fun h => h.elim, fun h => h.elim⟩
theorem BJ.lt {lo : Nat} {L : List Ent} {done : Nat → Prop} {vs : Nat → Value} {X : World} (h : BJ lo L done vs X) {e : Ent} (he : e ∈ L) (hd : done e.a) {b : Nat} (hb : vs e.a = ptr b) : b < X.heap.size := by
  obtain ⟨b', h1, _, h2, h3, _⟩ := (h e he).2 hd
  rw [hb] at h1
  cases h1
  by_cases hs : done e.s
  · exact blk_lt (h2 hs)
  · exact blk_lt (h3 hs)
theorem BJ.step {lo : Nat} {L : List Ent} {pre : List (List Nat)} (h1 : ∀ e ∈ L, ∀ e' ∈ L, e.a ≠ e'.s ∧ (e.a = e'.a → e.s = e'.s)) (h2 : ∀ e ∈ L, e.a ∈ pre.getD e.s []) {i : Nat} {done : Nat → Prop} {vs : Nat → Value} {v : Value} {X Y : World}
    (hd : ¬ done i) (hp : ∀ j ∈ pre.getD i [], done j) (hJ : BJ lo L done vs X) (hlo : lo ≤ X.heap.size) (hG : BG lo L i vs v X Y) : BJ lo L (fun j => done j ∨ j = i) (upd vs i v) Y := by
  obtain ⟨g0, g1, g2, g3⟩ := hG
  intro e he
  refine ⟨?_, ?_⟩
  · rintro (h | h)
    · exact .inl ((hJ e he).1 h)
    · subst h; exact .inl (hp _ (h2 e he))
  · intro hde
    by_cases hi : e.a = i
    · obtain ⟨hv, hY⟩ := g1 e he hi
      refine ⟨X.heap.size, by rw [hi, upd_self]; exact hv, hlo, ?_, fun _ => hY, ?_⟩
      · rintro (h | h)
        · exact absurd (hi ▸ (hJ e he).1 h) hd
        · exact absurd (hi.trans h.symm) (h1 e he e he).1
      · intro e' he' hd' hv'
        by_cases hi' : e'.a = i
        · rw [hi', hi]
        · rw [upd_ne _ _ _ hi'] at hv'
          rcases hd' with hd' | hd'
          · exact absurd (hJ.lt he' hd' hv') (Nat.lt_irrefl _)
          · exact absurd hd' hi'
    · have hde' : done e.a := hde.resolve_right hi
      obtain ⟨b, hb, hbl, hn, ho, hu⟩ := (hJ e he).2 hde'
      have hbX := hJ.lt he hde' hb
      have huniq : ∀ e' ∈ L, (done e'.a ∨ e'.a = i) → upd vs i v e'.a = ptr b → e'.a = e.a := by
        intro e' he' hd' hv'
        by_cases hi' : e'.a = i
        · rw [hi', upd_self] at hv'
          obtain ⟨hv, _⟩ := g1 e' he' hi'
          rw [hv] at hv'
          have : X.heap.size = b := by cases hv'; rfl
          omega
        · rw [upd_ne _ _ _ hi'] at hv'
          exact hu e' he' (hd'.resolve_right hi') hv'
      refine ⟨b, by rw [upd_ne _ _ _ hi]; exact hb, hbl, ?_, ?_, huniq⟩
      · intro hs
        by_cases hsi : e.s = i
        · obtain ⟨b2, e2, hY, _⟩ := g2 e he hsi
          rw [hb] at e2; cases e2
          exact hY
        · have hs' := hs.resolve_right hsi
          by_cases hst : ∀ e2 ∈ L, e2.s ≠ i
          · exact ((g3 hst).block b hbX).trans (hn hs')
          · obtain ⟨e2, he2⟩ := Classical.not_forall.1 hst
            obtain ⟨he2, hs2⟩ := Classical.not_imp.1 he2
            have hs2 := Classical.not_not.1 hs2
            obtain ⟨b2, q2, _, hk⟩ := g2 e2 he2 hs2
            have hd2 : done e2.a := hp _ (hs2 ▸ h2 e2 he2)
            refine (hk b ?_).trans (hn hs')
            rintro rfl
            have := hu e2 he2 hd2 q2
            exact hsi ((h1 e2 he2 e he).2 this ▸ hs2)
      · intro hs
        have hs' : ¬ done e.s := fun h => hs (.inl h)
        have hsi : e.s ≠ i := fun h => hs (.inr h)
        by_cases hst : ∀ e2 ∈ L, e2.s ≠ i
        · exact ((g3 hst).block b hbX).trans (ho hs')
        · obtain ⟨e2, he2⟩ := Classical.not_forall.1 hst
          obtain ⟨he2, hs2⟩ := Classical.not_imp.1 he2
          have hs2 := Classical.not_not.1 hs2
          obtain ⟨b2, q2, _, hk⟩ := g2 e2 he2 hs2
          have hd2 : done e2.a := hp _ (hs2 ▸ h2 e2 he2)
          refine (hk b ?_).trans (ho hs')
          rintro rfl
          have := hu e2 he2 hd2 q2
          exact hsi ((h1 e2 he2 e he).2 this ▸ hs2)
theorem BG.none {lo : Nat} {L : List Ent} {i : Nat} {vs : Nat → Value} {v : Value} {X Y : World} (Lp : List (Nat × Nat)) (hL : L.map (fun e => (e.a, e.s)) = Lp) (h : (Lp.all fun p => p.1 != i && p.2 != i) = true) (hX : lo ≤ X.heap.size) (hB : Below X.heap.size X Y) : BG lo L i vs v X Y := by
  have hne : ∀ e ∈ L, e.a ≠ i ∧ e.s ≠ i := by
    intro e he
    have hm : (e.a, e.s) ∈ Lp := hL ▸ List.mem_map.2 ⟨e, he, rfl⟩
    have := List.all_eq_true.1 h _ hm
    simpa using this
  exact ⟨hB.mono hX, fun e he h => absurd h (hne e he).1, fun e he h => absurd h (hne e he).2, fun _ => hB⟩
theorem BG.alloc {lo : Nat} {L : List Ent} {i : Nat} {vs : Nat → Value} {X : World} (Lp : List (Nat × Nat)) (hL : L.map (fun e => (e.a, e.s)) = Lp) (h : (Lp.all fun p => p.2 != i) = true) (T : TypeId) (old : List Value) (hT : ∀ e ∈ L, e.a = i → e.T = T ∧ e.old = old) (hX : lo ≤ X.heap.size) :
    BG lo L i vs (ptr X.heap.size) X (X.alloc (.cells old.toArray T)) := by
  have hne : ∀ e ∈ L, e.s ≠ i := by
    intro e he
    have hm : (e.a, e.s) ∈ Lp := hL ▸ List.mem_map.2 ⟨e, he, rfl⟩
    have := List.all_eq_true.1 h _ hm
    simpa using this
  have hB : Below X.heap.size X (X.alloc (.cells old.toArray T)) := (Below.refl _ _).alloc (Nat.le_refl _) _
  refine ⟨hB.mono hX, fun e he hi => ⟨rfl, ?_⟩, fun e he h => absurd h (hne e he), fun _ => hB⟩
  obtain ⟨h1, h2⟩ := hT e he hi
  rw [h1, h2]
  exact World.alloc_heap_new _ _
theorem BG.store {lo : Nat} {L : List Ent} {i b : Nat} {vs : Nat → Value} {v : Value} {X : World} {T : TypeId} {old new : List Value} (Lp : List (Nat × Nat)) (hL : L.map (fun e => (e.a, e.s)) = Lp) (a : Nat) (h : (Lp.all fun p => p.1 != i && (p.2 != i || p.1 == a)) = true) (hT : ∀ e ∈ L, e.s = i → e.T = T ∧ e.new = new)
    (hv : vs a = ptr b) (hb : lo ≤ b) (hX : X.heap[b]? = some (.cells old.toArray T (0, 0))) (hl : new.length = old.length) (hi : (∃ e ∈ L, e.s = i)) : BG lo L i vs v X (X.setCells b 0 new) := by
  have hne : ∀ e ∈ L, e.a ≠ i ∧ (e.s = i → e.a = a) := by
    intro e he
    have hm : (e.a, e.s) ∈ Lp := hL ▸ List.mem_map.2 ⟨e, he, rfl⟩
    have := List.all_eq_true.1 h _ hm
    simp only [Bool.and_eq_true, bne_iff_ne, Bool.or_eq_true, beq_iff_eq] at this
    exact ⟨this.1, fun hs => this.2.resolve_left (fun hn => hn hs)⟩
  have hblk := heap_setCells b T (0, 0) new 0 old X hX (by omega)
  rw [splice_all hl] at hblk
  refine ⟨Below.setCells (Below.refl _ _) b 0 new hb, fun e he h => absurd h (hne e he).1, fun e he hs => ⟨b, by rw [(hne e he).2 hs]; exact hv, ?_, fun k hk => heap_setCells_ne b new 0 X k hk⟩, fun hno => ?_⟩
  · obtain ⟨h1, h2⟩ := hT e he hs
    rw [h1, h2]; exact hblk
  · obtain ⟨e, he, hs⟩ := hi
    exact absurd hs (hno e he)
end Go.Proofs.Ytkdbbdlkfpjdfaa
