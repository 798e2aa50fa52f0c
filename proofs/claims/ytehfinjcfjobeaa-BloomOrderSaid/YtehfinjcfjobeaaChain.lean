/- A region that draws its order, with calls that move one object from state to state, one behind the other.
   Conditions: the states are told apart by the world; the calls stand in one chain; all the rest keeps the states. -/
import Derived.Test.YtehfinjcfjobeaaBytes
namespace Go.Rg
set_option maxRecDepth 100000
set_option linter.unusedVariables false
set_option linter.unusedSimpArgs false
open Go Go.RowKit Go.Proofs.Ytehfinjcfjobeaa
set_option linter.unusedVariables false

section
variable {P : Program}
abbrev Tch (M : Nat → Prop) (X Y : World) : Prop := Go.Proofs.Ytehfinjcfjobeaa.Touch M X Y
/-- The static check: the calls of the chain are ordered by 'pre', and told apart. -/
def chOk (pre : List (List Nat)) (ch : Nat → Option Nat) (m n : Nat) : Bool :=
  (List.range n).all fun k => match ch k with
    | none => true
    | some c => decide (c < m) && (c == 0 || (pre.getD k []).any fun j => ch j == some (c - 1)) &&
      ((List.range n).all fun j => match ch j with
        | none => true
        | some c' => j == k || (c' != c && (!decide (c' < c) || (pre.getD k []).contains j)))
theorem chOk_spec {pre : List (List Nat)} {ch : Nat → Option Nat} {m n : Nat} (h : chOk pre ch m n = true) {k c : Nat} (hk : k < n) (hc : ch k = some c) :
    c < m ∧ (c = 0 ∨ ∃ j ∈ pre.getD k [], ch j = some (c - 1)) ∧ ∀ j c', j < n → ch j = some c' → j ≠ k → c' ≠ c ∧ (c' < c → j ∈ pre.getD k []) := by
  unfold chOk at h
  have := List.all_eq_true.1 h k (List.mem_range.2 hk)
  rw [hc] at this
  simp only [Bool.and_eq_true, decide_eq_true_eq, Bool.or_eq_true, beq_iff_eq, List.any_eq_true, List.all_eq_true] at this
  obtain ⟨⟨h1, h2⟩, h3⟩ := this
  refine ⟨h1, h2, fun j c' hj hc' hjk => ?_⟩
  have := h3 j (List.mem_range.2 hj)
  rw [hc'] at this
  simp at this
  rcases this with e | ⟨e1, e2⟩
  · exact absurd e hjk
  · refine ⟨e1, fun hlt => ?_⟩
    rcases e2 with e | e
    · omega
    · simpa using e

def chSteps (P : Program) (ops : Array Oper) (pre : List (List Nat)) (ch : Nat → Option Nat) (St : Nat → World → Prop) (D : World → Prop) (M : Nat → Prop) (a : Act) : Nat → List Pr → List Oper → (List Pr → Prop) → Prop
  | _, L, [], fin => fin L
  | k, L, o :: l, fin => ∃ V : Pr, (∀ v X Y, D X → Tch M X Y → V v X → V v Y) ∧
      (∀ (vs : Nat → Value) (X : World), D X → (∀ c, ch k = some c → St c X) → (∀ j ∈ pre.getD k [], (L.getD j anyPr) (vs j) X) →
        wpList P ops (Post (putL ops vs (pre.getD k []) a) o.dst (fun v Y => (Tch M X Y ∧ (match ch k with | none => Below X.heap.size X Y | some c => St (c + 1) Y)) ∧ V v Y)) [o] (putL ops vs (pre.getD k []) a) X) ∧
      chSteps P ops pre ch St D M a (k + 1) (L ++ [V]) l fin

/-- From the chain's steps to the steps. -/
theorem steps_of_ch {ops : Array Oper} {pre : List (List Nat)} {ch : Nat → Option Nat} {St : Nat → World → Prop} {D : World → Prop} {M : Nat → Prop} {a : Act} {m n : Nat} {fin fin' : List Pr → Prop}
    (hSt : ∀ i j X, i ≤ m → j ≤ m → St i X → St j X → i = j) (hB : ∀ i X Y, St i X → Below X.heap.size X Y → St i Y) (hc : chOk pre ch m n = true) (hpn : ∀ i, i < n → ∀ j ∈ pre.getD i [], j < i)
    (hfin : ∀ L L' : List Pr, L.length = n → L.length = L'.length → (∀ j, j < L.length → L'.getD j anyPr = fun v X => (L.getD j anyPr) v X ∧ ∀ c, ch j = some c → ∃ i, c + 1 ≤ i ∧ i ≤ m ∧ St i X) → fin L → fin' L') :
    ∀ (l : List Oper) (k : Nat) (L L' : List Pr), k + l.length = n → L.length = k → L.length = L'.length → (∀ j, j < L.length → L'.getD j anyPr = fun v X => (L.getD j anyPr) v X ∧ ∀ c, ch j = some c → ∃ i, c + 1 ≤ i ∧ i ≤ m ∧ St i X) →
      chSteps P ops pre ch St D M a k L l fin →
      wpSteps P ops pre n (fun X => D X ∧ ∃ i, i ≤ m ∧ St i X) (fun j X => ∀ c, ch j = some c → ∃ i, i ≤ c ∧ St i X)
        (fun j X Y => Tch M X Y ∧ (match ch j with | none => Below X.heap.size X Y | some c => St c X ∧ St (c + 1) Y)) a k L' l fin'
  | [], k, L, L', hn, hk, hl, hLL, h => hfin L L' (by simp at hn; omega) hl hLL h
  | o :: l, k, L, L', hn, hk, hl, hLL, h => by
    obtain ⟨V, h1, h2, h3⟩ := h
    have hkn : k < n := by simp only [List.length_cons] at hn; omega
    refine ⟨fun v X => V v X ∧ ∀ c, ch k = some c → ∃ i, c + 1 ≤ i ∧ i ≤ m ∧ St i X, ?_, ?_, ?_⟩
    · rintro j v X Y hj hjk hjp ⟨hD, i0, hi0, hs0⟩ hBj ⟨hT, hG⟩ ⟨hV, hf⟩
      refine ⟨h1 v X Y hD hT hV, fun c hcc => ?_⟩
      obtain ⟨i, hi1, hi2, hi3⟩ := hf c hcc
      cases hj' : ch j with
      | none => rw [hj'] at hG; exact ⟨i, hi1, hi2, hB i X Y hi3 hG⟩
      | some d =>
        rw [hj'] at hG
        have hdm := (chOk_spec hc hj hj').1
        have hid := hSt i d X hi2 (by omega) hi3 hG.1
        subst hid
        exact ⟨i + 1, by omega, by omega, hG.2⟩
    · rintro vs X ⟨hD, i0, hi0, hs0⟩ hBk hA
      have hA1 : ∀ j ∈ pre.getD k [], (L.getD j anyPr) (vs j) X := fun j hj => by
        have hjk := hpn k hkn j hj
        have := hA j hj
        rw [hLL j (by omega)] at this
        exact this.1
      have hSc : ∀ c, ch k = some c → St c X := by
        intro c hcc
        obtain ⟨i, hi1, hi2⟩ := hBk c hcc
        have hspec := chOk_spec hc hkn hcc
        rcases hspec.2.1 with rfl | ⟨j, hj, hjc⟩
        · obtain rfl : i = 0 := by omega
          exact hi2
        · have hjk := hpn k hkn j hj
          have := hA j hj
          rw [hLL j (by omega)] at this
          obtain ⟨i', hi'1, hi'2, hi'3⟩ := this.2 _ hjc
          have e := hSt i i' X (by omega) hi'2 hi2 hi'3
          by_cases h0 : c = 0
          · subst h0
            obtain rfl : i = 0 := by omega
            exact hi2
          · obtain rfl : i = c := by omega
            exact hi2
      refine wpList_mono_post ?_ (h2 vs X hD hSc hA1)
      rintro v Y ⟨⟨hT, hG⟩, hV⟩
      cases hk' : ch k with
      | none => rw [hk'] at hG; exact ⟨⟨hT, by rw [hk']; exact hG⟩, hV, fun c hcc => by cases hcc⟩
      | some c =>
        rw [hk'] at hG
        exact ⟨⟨hT, by rw [hk']; exact ⟨hSc c hk', hG⟩⟩, hV, fun c' hcc => by cases hcc; exact ⟨c + 1, Nat.le_refl _, (chOk_spec hc hkn hk').1, hG⟩⟩
    · refine steps_of_ch hSt hB hc hpn hfin l (k + 1) (L ++ [V]) _ (by simp only [List.length_cons] at hn; omega) (by simp [hk]) (by simp [hl]) ?_ h3
      intro j hj
      rw [List.length_append, List.length_singleton] at hj
      by_cases hjL : j < L.length
      · have e1 : (L' ++ [fun v X => V v X ∧ ∀ c, ch k = some c → ∃ i, c + 1 ≤ i ∧ i ≤ m ∧ St i X]).getD j anyPr = L'.getD j anyPr := by
          rw [List.getD_eq_getElem?_getD, List.getD_eq_getElem?_getD, List.getElem?_append_left (by omega)]
        have e2 : (L ++ [V]).getD j anyPr = L.getD j anyPr := by
          rw [List.getD_eq_getElem?_getD, List.getD_eq_getElem?_getD, List.getElem?_append_left hjL]
        rw [e1, e2]
        exact hLL j hjL
      · obtain rfl : j = L.length := by omega
        have e1 : (L' ++ [fun v X => V v X ∧ ∀ c, ch k = some c → ∃ i, c + 1 ≤ i ∧ i ≤ m ∧ St i X]).getD L.length anyPr = fun v X => V v X ∧ ∀ c, ch k = some c → ∃ i, c + 1 ≤ i ∧ i ≤ m ∧ St i X := by
          rw [List.getD_eq_getElem?_getD, hl]; simp
        have e2 : (L ++ [V]).getD L.length anyPr = V := by
          rw [List.getD_eq_getElem?_getD]; simp
        rw [e1, e2, hk]

/-- **THE LAW.** -/
theorem wp_region_chain {id : Nat} {Q : Exit → Act → World → Prop} {a : Act} {w : World} {l : List Oper} (pre : List (List Nat)) (ch : Nat → Option Nat) (m : Nat) (St : Nat → World → Prop) (D : World → Prop) (M : Nat → Prop)
    (hm : P.follows .mixedOrders = true) (hc : okPre l.toArray pre = true) (hp : preOk pre l.length = true) (hch : chOk pre ch m l.length = true) (hne : 0 < l.length)
    (hSt : ∀ i j X, i ≤ m → j ≤ m → St i X → St j X → i = j) (hB : ∀ i X Y, St i X → Below X.heap.size X Y → St i Y) (hD0 : D w.drew) (hDT : ∀ X Y, D X → Tch M X Y → D Y) (h0 : St 0 w.drew)
    (h : chSteps P l.toArray pre ch St D M a 0 [] l (fun L => ∀ (vs : Nat → Value) (X : World), D X → (∀ i < l.length, (L.getD i anyPr) (vs i) X) → (∀ k, k < l.length → ch k = some (m - 1) → 0 < m → St m X) → Q .normal (putL l.toArray vs (List.range l.length) a) X)) :
    (Code.region id l.toArray true).wp P Q a w := by
  have hpn : ∀ i, i < l.length → ∀ j ∈ pre.getD i [], j < i := fun i hi j hj => by
    unfold preOk at hp
    have := List.all_eq_true.1 (List.all_eq_true.1 hp i (List.mem_range.2 hi)) j hj
    simpa using this
  refine wp_region_steps pre (fun X => D X ∧ ∃ i, i ≤ m ∧ St i X) (fun j X => ∀ c, ch j = some c → ∃ i, i ≤ c ∧ St i X)
    (fun j X Y => Tch M X Y ∧ (match ch j with | none => Below X.heap.size X Y | some c => St c X ∧ St (c + 1) Y)) hm hc hp hne ⟨hD0, 0, Nat.zero_le _, h0⟩ (fun j c _ => ⟨0, Nat.zero_le _, h0⟩) ?_ ?_ ?_
  · rintro j X Y hj ⟨hD, i, hi, hs⟩ hBj ⟨hT, hG⟩
    refine ⟨hDT X Y hD hT, ?_⟩
    cases hj' : ch j with
    | none => rw [hj'] at hG; exact ⟨i, hi, hB i X Y hs hG⟩
    | some c => rw [hj'] at hG; exact ⟨c + 1, (chOk_spec hch hj hj').1, hG.2⟩
  · rintro i j X Y hi hj hji hpre ⟨hD, i0, hi0, hs⟩ hBj ⟨hT, hG⟩ hBi c hcc
    obtain ⟨d, hd1, hd2⟩ := hBi c hcc
    cases hj' : ch j with
    | none => rw [hj'] at hG; exact ⟨d, hd1, hB d X Y hd2 hG⟩
    | some c' =>
      rw [hj'] at hG
      have hcm := (chOk_spec hch hi hcc).1
      have hc'm := (chOk_spec hch hj hj').1
      have e := hSt d c' X (by omega) (by omega) hd2 hG.1
      have hne := ((chOk_spec hch hi hcc).2.2 j c' hj hj' hji).1
      refine ⟨c' + 1, ?_, hG.2⟩
      omega
  · refine steps_of_ch (m := m) (n := l.length) hSt hB hch hpn ?_ l 0 [] [] (by simp) rfl rfl (fun j hj => by simp at hj) h
    intro L L' hLn hl hLL hf vs X hC hA
    refine hf vs X hC.1 (fun i hi => ?_) (fun k hk hkc hm0 => ?_)
    · have := hA i hi
      rw [hLL i (by omega)] at this
      exact this.1
    · have := hA k hk
      rw [hLL k (by omega)] at this
      obtain ⟨i, h1, h2, h3⟩ := this.2 _ hkc
      obtain rfl : i = m := by omega
      exact h3
theorem ch_fx {ops : Array Oper} {pre : List (List Nat)} {ch : Nat → Option Nat} {St : Nat → World → Prop} {D : World → Prop} {M : Nat → Prop} {a : Act} {fin : List Pr → Prop} {k : Nat} {L : List Pr} {o : Oper} {l : List Oper} (hk : ch k = none) (c : Value)
    (h : ∀ (vs : Nat → Value) (X : World), D X → (∀ j ∈ pre.getD k [], (L.getD j anyPr) (vs j) X) →
        wpList P ops (Post (putL ops vs (pre.getD k []) a) o.dst (fun v Y => Below X.heap.size X Y ∧ v = c)) [o] (putL ops vs (pre.getD k []) a) X)
    (r : chSteps P ops pre ch St D M a (k + 1) (L ++ [fun v _ => v = c]) l fin) : chSteps P ops pre ch St D M a k L (o :: l) fin := by
  refine ⟨fun v _ => v = c, fun _ _ _ _ _ h => h, fun vs X hD _ hA => ?_, r⟩
  refine wpList_mono_post ?_ (h vs X hD hA)
  rintro v Y ⟨hB, e⟩
  rw [hk]
  exact ⟨⟨Go.Proofs.Ytehfinjcfjobeaa.Touch.of_below hB, hB⟩, e⟩
theorem ch_call {ops : Array Oper} {pre : List (List Nat)} {ch : Nat → Option Nat} {St : Nat → World → Prop} {D : World → Prop} {M : Nat → Prop} {a : Act} {fin : List Pr → Prop} {k c : Nat} {L : List Pr} {o : Oper} {l : List Oper} (hk : ch k = some c) (V : Pr) (hV : ∀ v X Y, D X → Tch M X Y → V v X → V v Y)
    (h : ∀ (vs : Nat → Value) (X : World), D X → St c X → (∀ j ∈ pre.getD k [], (L.getD j anyPr) (vs j) X) →
        wpList P ops (Post (putL ops vs (pre.getD k []) a) o.dst (fun v Y => (Tch M X Y ∧ St (c + 1) Y) ∧ V v Y)) [o] (putL ops vs (pre.getD k []) a) X)
    (r : chSteps P ops pre ch St D M a (k + 1) (L ++ [V]) l fin) : chSteps P ops pre ch St D M a k L (o :: l) fin := by
  refine ⟨V, hV, fun vs X hD hS hA => ?_, r⟩
  refine wpList_mono_post ?_ (h vs X hD (hS c hk) hA)
  rintro v Y ⟨hB, e⟩
  rw [hk]
  exact ⟨hB, e⟩
theorem ch_pr {ops : Array Oper} {pre : List (List Nat)} {ch : Nat → Option Nat} {St : Nat → World → Prop} {D : World → Prop} {M : Nat → Prop} {a : Act} {fin : List Pr → Prop} {k : Nat} {L : List Pr} {o : Oper} {l : List Oper} (hk : ch k = none) (V : Pr) (hV : ∀ v X Y, D X → Tch M X Y → V v X → V v Y)
    (h : ∀ (vs : Nat → Value) (X : World), D X → (∀ j ∈ pre.getD k [], (L.getD j anyPr) (vs j) X) →
        wpList P ops (Post (putL ops vs (pre.getD k []) a) o.dst (fun v Y => Below X.heap.size X Y ∧ V v Y)) [o] (putL ops vs (pre.getD k []) a) X)
    (r : chSteps P ops pre ch St D M a (k + 1) (L ++ [V]) l fin) : chSteps P ops pre ch St D M a k L (o :: l) fin := by
  refine ⟨V, hV, fun vs X hD _ hA => ?_, r⟩
  refine wpList_mono_post ?_ (h vs X hD hA)
  rintro v Y ⟨hB, e⟩
  rw [hk]
  exact ⟨⟨Go.Proofs.Ytehfinjcfjobeaa.Touch.of_below hB, hB⟩, e⟩
theorem ch_nil {ops : Array Oper} {pre : List (List Nat)} {ch : Nat → Option Nat} {St : Nat → World → Prop} {D : World → Prop} {M : Nat → Prop} {a : Act} {fin : List Pr → Prop} {k : Nat} {L : List Pr} (h : fin L) : chSteps P ops pre ch St D M a k L [] fin := h
end
end Go.Rg
