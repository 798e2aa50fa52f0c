/- Regions that draw their order, step by step, with a tail that stands behind all the rest.
   Conditions: those that each theorem names. -/
import Derived.Test.YtehfinjcfjobeaaChain
namespace Go.Rg
set_option maxRecDepth 100000
set_option linter.unusedVariables false
set_option linter.unusedSimpArgs false
open Go Go.RowKit Go.Proofs.Ytehfinjcfjobeaa
set_option linter.unusedVariables false

section
variable {P : Program}
/-- The rest is a chain behind all the others. -/
def tailOk (ops : Array Oper) (n : Nat) : Bool :=
  decide (n < ops.size) && Region.sinkB .any ops n && Region.chainB .any ops n && Region.seqB .any ops (ops.size - n) n ((Array.range ops.size).map fun j => decide (j < n))
theorem listed_eq {n m : Nat} {listed : Array Bool} (hs : listed.size = m) (hl : ∀ j, listed.getD j false = true ↔ j < n) : listed = (Array.range m).map fun j => decide (j < n) := by
  apply Array.ext
  · simp [hs]
  · intro j h1 h2
    have := hl j
    rw [show listed.getD j false = listed[j] by simp [Array.getD, h1]] at this
    simp only [Array.getElem_map, Array.getElem_range]
    by_cases hj : j < n
    · rw [this.2 hj, decide_eq_true hj]
    · rw [decide_eq_false hj]
      cases h : listed[j] with
      | false => rfl
      | true => exact absurd (this.1 h) hj
/-- **THE LAW, STEP BY STEP, WITH A TAIL.** -/
theorem wp_region_steps_tail {id : Nat} {Q : Exit → Act → World → Prop} {a : Act} {w : World} {l : List Oper} (n : Nat) (pre : List (List Nat)) (C : World → Prop) (B : Nat → World → Prop) (G : Nat → World → World → Prop)
    (hm : P.follows .mixedOrders = true) (hc : okPre l.toArray pre = true) (hp : preOk pre n = true) (hne : 0 < n) (ht : tailOk l.toArray n = true) (h0 : C w.drew) (hB0 : ∀ i, B i w.drew)
    (hCG : ∀ j X Y, j < n → C X → B j X → G j X Y → C Y)
    (hBG : ∀ i j X Y, i < n → j < n → j ≠ i → i ∉ pre.getD j [] → C X → B j X → G j X Y → B i X → B i Y)
    (h : wpSteps P l.toArray pre n C B G a 0 [] (l.take n) (fun L => ∀ (vs : Nat → Value) (X : World), C X → (∀ i < n, (L.getD i anyPr) (vs i) X) → wpList P l.toArray Q (l.drop n) (putL l.toArray vs (List.range n) a) X)) :
    (Code.region id l.toArray true).wp P Q a w := by
  unfold tailOk at ht
  simp only [Bool.and_eq_true, decide_eq_true_eq] at ht
  obtain ⟨⟨⟨hn, hsk⟩, hch⟩, hsq⟩ := ht
  have hnl : n < l.length := by simpa using hn
  have htl : (l.take n).length = n := by simp; omega
  have hp' : ∀ i, 0 ≤ i → i < 0 + (l.take n).length → ∀ j ∈ pre.getD i [], j < i := fun i _ hi j hj => by
    unfold preOk at hp
    have := List.all_eq_true.1 (List.all_eq_true.1 hp i (List.mem_range.2 (by omega))) j hj
    simpa using this
  obtain ⟨M, hM, hf, hr⟩ := wpSteps_spec (l.take n) 0 [] rfl (fun j hj => by
    have hj' : j < n := by omega
    simp [hj']) hp' h
  rw [List.nil_append] at hf hr
  refine region_wp n (by simpa using Nat.le_of_lt hnl) pre (fun i vs X => C X ∧ (M.getD i anyPr) (vs i) X) (fun i X => C X ∧ B i X) (fun j X Y => G j X Y) hm hc ?_ ?_ (fun i _ => ⟨h0, hB0 i⟩) ?_ ?_ ?_ ?_
  · exact fun listed inv i hi hun t ht => tail_waits hsk hch hn inv _ i rfl hi hun t ht
  · intro i vs us X hi hd ha
    rw [← hd i (.inl rfl)]
    exact ha
  · intro i k vs X Y hi hk hki hkp hB hR hA
    obtain ⟨o, ho⟩ : ∃ o, l.toArray[i]? = some o := ⟨_, Array.getElem?_eq_getElem (by simp; omega)⟩
    exact ⟨hCG _ _ _ hk hB.1 hB.2 hR, (hr i o (Nat.zero_le _) (by omega) ho).1 k _ _ _ hk hki hkp hB.1 hB.2 hR hA.2⟩
  · intro i k X Y hi hk hki hip hB hR hBi
    exact ⟨hCG _ _ _ hk hB.1 hB.2 hR, hBG i k X Y hi hk hki hip hB.1 hB.2 hR hBi.2⟩
  · intro i vs X o hi ho hB hA
    have h1 := (hr i o (Nat.zero_le _) (by omega) ho).2 vs X hB.1 hB.2 (fun j hj => (hA j hj).2)
    refine wpList_mono_post ?_ h1
    rintro v Y ⟨hG, hV⟩
    rw [upd_self]
    exact ⟨hG, hCG _ _ _ hi hB.1 hB.2 hG, hV⟩
  · intro vs X listed hs hl hA
    have hfin := hf vs X (hA 0 hne).1 (fun i hi => (hA i hi).2)
    have hdl : (l.drop n).length = l.toArray.size - n := by simp
    have := wpAny_of_seq (P := P) (md := .any) (Q' := Q) (l.drop n) n listed _ X (fun j => by simp) (by rw [hdl, listed_eq hs hl]; exact hsq) hfin
    rwa [hdl] at this
/-- **THE LAW, WITH A TAIL.** -/
theorem wp_region_chain_tail {id : Nat} {Q : Exit → Act → World → Prop} {a : Act} {w : World} {l : List Oper} (n : Nat) (pre : List (List Nat)) (ch : Nat → Option Nat) (m : Nat) (St : Nat → World → Prop) (D : World → Prop) (M : Nat → Prop)
    (hm : P.follows .mixedOrders = true) (hc : okPre l.toArray pre = true) (hp : preOk pre n = true) (hch : chOk pre ch m n = true) (hne : 0 < n) (ht : tailOk l.toArray n = true)
    (hSt : ∀ i j X, i ≤ m → j ≤ m → St i X → St j X → i = j) (hB : ∀ i X Y, St i X → Below X.heap.size X Y → St i Y) (hD0 : D w.drew) (hDT : ∀ X Y, D X → Tch M X Y → D Y) (h0 : St 0 w.drew)
    (h : chSteps P l.toArray pre ch St D M a 0 [] (l.take n) (fun L => ∀ (vs : Nat → Value) (X : World), D X → (∀ i < n, (L.getD i anyPr) (vs i) X) → (∀ k, k < n → ch k = some (m - 1) → 0 < m → St m X) → wpList P l.toArray Q (l.drop n) (putL l.toArray vs (List.range n) a) X)) :
    (Code.region id l.toArray true).wp P Q a w := by
  have hpn : ∀ i, i < n → ∀ j ∈ pre.getD i [], j < i := fun i hi j hj => by
    unfold preOk at hp
    have := List.all_eq_true.1 (List.all_eq_true.1 hp i (List.mem_range.2 hi)) j hj
    simpa using this
  have htn : (l.take n).length = n := by
    unfold tailOk at ht
    simp only [Bool.and_eq_true, decide_eq_true_eq] at ht
    have : n < l.length := by simpa using ht.1.1.1
    simp; omega
  refine wp_region_steps_tail n pre (fun X => D X ∧ ∃ i, i ≤ m ∧ St i X) (fun j X => ∀ c, ch j = some c → ∃ i, i ≤ c ∧ St i X)
    (fun j X Y => Tch M X Y ∧ (match ch j with | none => Below X.heap.size X Y | some c => St c X ∧ St (c + 1) Y)) hm hc hp hne ht ⟨hD0, 0, Nat.zero_le _, h0⟩ (fun j c _ => ⟨0, Nat.zero_le _, h0⟩) ?_ ?_ ?_
  · rintro j X Y hj ⟨hD, i, hi, hs⟩ hBj ⟨hT, hG⟩
    refine ⟨hDT X Y hD hT, ?_⟩
    cases hj' : ch j with
    | none => rw [hj'] at hG; exact ⟨i, hi, hB i X Y hs hG⟩
    | some c => rw [hj'] at hG; exact ⟨c + 1, (chOk_spec hch hj hj').1, hG.2⟩
  · rintro i j X Y hi hj hji hpre ⟨hD, i0, hi0, hs⟩ hBj ⟨hT, hG⟩ hBi c hcc
    obtain ⟨d, hd1, hd2⟩ := hBi c hcc
    cases hj' : ch j with
    | none => rw [hj'] at hG; exact ⟨d, hd1, hB d X Y hd2 hG⟩
    | some c' =>
      rw [hj'] at hG
      have hcm := (chOk_spec hch hi hcc).1
      have hc'm := (chOk_spec hch hj hj').1
      have e := hSt d c' X (by omega) (by omega) hd2 hG.1
      have hne := ((chOk_spec hch hi hcc).2.2 j c' hj hj' hji).1
      refine ⟨c' + 1, ?_, hG.2⟩
      omega
  · refine steps_of_ch (m := m) (n := n) hSt hB hch hpn ?_ (l.take n) 0 [] [] (by omega) rfl rfl (fun j hj => by simp at hj) h
    intro L L' hLn hl hLL hf vs X hC hA
    refine hf vs X hC.1 (fun i hi => ?_) (fun k hk hkc hm0 => ?_)
    · have := hA i hi
      rw [hLL i (by omega)] at this
      exact this.1
    · have := hA k hk
      rw [hLL k (by omega)] at this
      obtain ⟨i, h1, h2, h3⟩ := this.2 _ hkc
      obtain rfl : i = m := by omega
      exact h3
end
end Go.Rg
