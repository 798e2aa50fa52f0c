/- A law for a region that draws its order: what one operation alone uses need hold no longer than till it comes.
   Conditions: as in the law of steps; an operation's own user (U) is the only one that takes its value. -/
import Derived.Test.YtehfinjcfjobeaaVals
namespace Go.Rg
set_option maxRecDepth 100000
set_option linter.unusedVariables false
set_option linter.unusedSimpArgs false
open Go Go.RowKit
set_option linter.unusedVariables false
section
variable {P : Program}
def useOk (pre : List (List Nat)) (U : Nat → Nat) (n : Nat) : Bool := (List.range n).all fun j => (pre.getD j []).all fun i => U i == i || U i == j
theorem useOk_spec {pre : List (List Nat)} {U : Nat → Nat} {n : Nat} (h : useOk pre U n = true) : ∀ i j, i < n → j < n → i ∈ pre.getD j [] → U i = i ∨ U i = j := by
  intro i j _ hj hi
  unfold useOk at h
  have := List.all_eq_true.1 (List.all_eq_true.1 h j (List.mem_range.2 hj)) i hi
  simpa using this
/-- **THE LAW.** -/
theorem region_use {id : Nat} {ops : Array Oper} {a : Act} {w : World} {Q : Exit → Act → World → Prop} (n : Nat) (hn : n ≤ ops.size) (pre : List (List Nat)) (A : Nat → (Nat → Value) → World → Prop) (B : Nat → World → Prop) (R : Nat → World → World → Prop) (U : Nat → Nat)
    (hU : ∀ i j, i < n → j < n → i ∈ pre.getD j [] → U i = i ∨ U i = j)
    (hm : P.follows .mixedOrders = true) (hc : okPre ops pre = true)
    (hrd : ∀ listed, HeadInv .any ops n listed → ∀ i, i < n → listed.getD i true = false → ∀ t, n ≤ t → t ∉ Region.ready .any ops listed)
    (hdep : ∀ i vs us X, i < n → (∀ j, j = i ∨ j ∈ pre.getD i [] → vs j = us j) → A i vs X → A i us X)
    (hB0 : ∀ i, i < n → B i w.drew)
    (hstA : ∀ i k vs X Y, i < n → k < n → k ≠ i → k ∉ pre.getD i [] → (U i ≠ i → U i ≠ k ∧ U i ∉ pre.getD k []) → B k X → R k X Y → A i vs X → A i vs Y)
    (hstB : ∀ i k X Y, i < n → k < n → k ≠ i → i ∉ pre.getD k [] → B k X → R k X Y → B i X → B i Y)
    (hop : ∀ (i : Nat) (vs : Nat → Value) (X : World) (o : Oper), i < n → ops[i]? = some o → B i X → (∀ j ∈ pre.getD i [], A j vs X) →
      wpList P ops (Post (putL ops vs (pre.getD i []) a) o.dst (fun v Y => R i X Y ∧ A i (upd vs i v) Y)) [o] (putL ops vs (pre.getD i []) a) X)
    (hend : ∀ (vs : Nat → Value) (X : World) (listed : Array Bool), listed.size = ops.size → (∀ j, listed.getD j false = true ↔ j < n) → (∀ i < n, U i = i → A i vs X) → wpAny P .any ops Q (ops.size - n) listed (putL ops vs (List.range n) a) X) :
    (Code.region id ops true).wp P Q a w := by
  refine wp_region_any hm ?_
  change wpAny P .any ops Q ops.size (Array.replicate ops.size false) a w.drew
  have main : ∀ (fuel : Nat) (listed : Array Bool) (vs : Nat → Value) (X : World) (b : Act) (ord : List Nat), HeadInv .any ops n listed →
      ord.Nodup → (∀ j, j ∈ ord ↔ listed.getD j false = true) → (∀ j ∈ ord, j < n) → fuel + ord.length = n →
      (∀ j ∈ ord, ∀ k ∈ pre.getD j [], k ∈ ord) → (∀ j ∈ ord, (U j ≠ j ∧ U j ∈ ord) ∨ A j vs X) → (∀ j, j < n → j ∉ ord → B j X) → b = putL ops vs ord a → wpAny P .any ops Q (fuel + (ops.size - n)) listed b X := by
    intro fuel
    induction fuel with
    | zero =>
      intro listed vs X b ord inv hnd hl hlt hlen hcl hA hB hb
      have hperm : ord.Perm (List.range n) := by
        refine (List.perm_ext_iff_of_nodup hnd List.nodup_range).2 (fun j => ⟨fun hj => List.mem_range.2 (hlt j hj), fun hj => Classical.byContradiction fun hno => ?_⟩)
        have := List.Nodup.length_le_of_subset (l₁ := j :: ord) (l₂ := List.range n) (List.nodup_cons.2 ⟨hno, hnd⟩) (fun k hk => by
          rcases List.mem_cons.1 hk with rfl | hk
          · exact hj
          · exact List.mem_range.2 (hlt k hk))
        simp at this
        omega
      rw [hb, putL_perm hc vs hperm, Nat.zero_add]
      exact hend vs X listed inv.size (fun j => by rw [← hl, hperm.mem_iff, List.mem_range]) (fun j hj hu => (hA j (hperm.mem_iff.2 (List.mem_range.2 hj))).resolve_left (fun h => h.1 hu))
    | succ fuel ih =>
      intro listed vs X b ord inv hnd hl hlt hlen hcl hA hB hb
      have hs := inv.size
      have hgd : ∀ j, j < ops.size → listed.getD j true = listed.getD j false := fun j hj => by
        have hm : j < listed.size := by omega
        simp [Array.getD, hm]
      have hex : ∃ j, j < n ∧ j ∉ ord := by
        refine Classical.byContradiction fun hno => ?_
        have : List.range n ⊆ ord := fun j hj => Classical.byContradiction fun hj' => hno ⟨j, List.mem_range.1 hj, hj'⟩
        have := List.Nodup.length_le_of_subset List.nodup_range this
        simp at this
        omega
      have hun : ∀ j, j < n → j ∉ ord → listed.getD j true = false := fun j hj hj' => by
        rw [hgd j (by omega)]
        cases h : listed.getD j false with
        | false => rfl
        | true => exact absurd ((hl j).2 h) hj'
      have hrdy : ∀ t ∈ Region.ready .any ops listed, t < n := by
        intro t ht
        obtain ⟨j, hj, hj'⟩ := hex
        rcases Nat.lt_or_ge t n with h | h
        · exact h
        · exact absurd ht (hrd listed inv j hj (hun j hj hj') t h)
      rw [show fuel + 1 + (ops.size - n) = (fuel + (ops.size - n)) + 1 by omega]
      refine ⟨fun hnil => ?_, fun i hi => ?_⟩
      · exfalso
        have hmin : ∀ m, (∃ j, j < m ∧ j < n ∧ j ∉ ord) → ∃ j, j < n ∧ j ∉ ord ∧ ∀ k < j, k ∈ ord := by
          intro m
          induction m with
          | zero => rintro ⟨j, h, _⟩; omega
          | succ m ihm =>
            rintro ⟨j, h1, h2, h3⟩
            by_cases hs' : ∃ k, k < m ∧ k < n ∧ k ∉ ord
            · exact ihm hs'
            · refine ⟨j, h2, h3, fun k hk => Classical.byContradiction fun hk' => hs' ⟨k, by omega, by omega, hk'⟩⟩
        obtain ⟨j0, h0, h0'⟩ := hex
        obtain ⟨j, hj, hj', hall⟩ := hmin (j0 + 1) ⟨j0, by omega, h0, h0'⟩
        obtain ⟨o, ho⟩ : ∃ o, ops[j]? = some o := ⟨_, Array.getElem?_eq_getElem (by omega)⟩
        have hmem : j ∈ Region.ready .any ops listed := by
          unfold Region.ready
          rw [List.mem_filter]
          refine ⟨List.mem_range.2 (by omega), ?_⟩
          have hn := hun j hj hj'
          rw [hn, ho]
          simp only [Bool.not_false, Bool.true_and, Option.map_some, Option.getD_some, Array.all_eq_true']
          intro e he
          cases hbe : Region.binds .any e with
          | false => rfl
          | true =>
            have := (pre_facts hc ho).2.2.2.1 e he hbe
            simp only [Bool.not_true, Bool.false_or]
            exact (hl _).1 (hall _ this)
        rw [hnil] at hmem
        cases hmem
      · have hin := hrdy i hi
        have hir := hi
        unfold Region.ready at hi
        rw [List.mem_filter] at hi
        obtain ⟨_, hi⟩ := hi
        obtain ⟨o, ho⟩ : ∃ o, ops[i]? = some o := ⟨_, Array.getElem?_eq_getElem (by omega)⟩
        rw [ho] at hi
        simp only [Option.map_some, Option.getD_some, Bool.and_eq_true, Bool.not_eq_true', Array.all_eq_true'] at hi
        obtain ⟨hnl, hedge⟩ := hi
        have hni : i ∉ ord := fun h => by
          have := (hl i).1 h
          rw [hgd i (by omega)] at hnl
          rw [hnl] at this
          cases this
        obtain ⟨p1, p2, p3, p4, p5, p6⟩ := pre_facts hc ho
        have hpre : ∀ j ∈ pre.getD i [], j ∈ ord := fun j hj => by
          obtain ⟨_, e, he, hbe, hx⟩ := p1 j hj
          have hon : e.on ∈ ord := (hl _).2 (by have := hedge e he; rw [hbe] at this; simpa using this)
          rcases hx with rfl | hx
          · exact hon
          · exact hcl _ hon _ hx
        let rest := ord.filter fun j => !(pre.getD i []).contains j
        have hperm : ord.Perm (pre.getD i [] ++ rest) := by
          have h1 : (ord.filter fun j => (pre.getD i []).contains j).Perm (pre.getD i []) := by
            refine (List.perm_ext_iff_of_nodup (hnd.filter _) p3).2 (fun j => ?_)
            rw [List.mem_filter]
            constructor
            · intro h; simpa using h.2
            · intro h; exact ⟨hpre j h, by simpa using h⟩
          refine (List.filter_append_perm (fun j => (pre.getD i []).contains j) ord).symm.trans ?_
          exact h1.append_right _
        have hb' : b = putL ops vs rest (putL ops vs (pre.getD i []) a) := by rw [hb, putL_perm hc vs hperm, putL_append]
        have hsame := same_putL (ops := ops) o p5 vs rest (fun j hj d hd hl' => by
          have hj2 := List.mem_filter.1 hj
          have hji : j ≠ i := fun e => hni (e ▸ hj2.1)
          rcases p2 j d hji hd hl' with this | this
          · have h3 := hj2.2
            rw [List.contains_iff_mem.2 this] at h3
            cases h3
          · exact hni (hcl j hj2.1 i this)) (putL ops vs (pre.getD i []) a)
        rw [← hb'] at hsame
        refine one_move_wp ho (a := putL ops vs (pre.getD i []) a) (K := fun v Y => R i X Y ∧ A i (upd vs i v) Y) (by rw [hb', putL_size, putL_size, putL_size]) hsame.1 hsame.2 (hop i vs X o hin ho (hB i hin hni) (fun j hj => (hA j (hpre j hj)).resolve_left (fun h => by
          rcases hU j i (hlt j (hpre j hj)) hin hj with e | e
          · exact h.1 e
          · exact hni (e ▸ h.2)))) ?_
        rintro v Y ⟨hXY, hAi⟩
        have hus : ∀ j, j ≠ i → upd vs i v j = vs j := fun j hj => upd_ne _ _ _ hj
        have hnpre : ∀ j ∈ ord, i ∉ pre.getD j [] := fun j hj h => hni (hcl j hj i h)
        refine ih (listed.setIfInBounds i true) (upd vs i v) Y (b.put o.dst v) (ord ++ [i]) (inv.set hir hin) ?_ ?_ ?_ (by simp; omega) ?_ ?_ ?_ ?_
        · rw [List.nodup_append]
          exact ⟨hnd, by simp, fun x hx y hy => by simp at hy; subst hy; exact fun e => hni (e ▸ hx)⟩
        · intro j
          by_cases hji : j = i
          · subst hji; simp [Array.getD, hs, show j < ops.size by omega]
          · have : (listed.setIfInBounds i true).getD j false = listed.getD j false := by
              have hij : i ≠ j := fun e => hji e.symm
              by_cases hm : j < listed.size
              · simp [Array.getD, hm, hij]
              · simp [Array.getD, hm]
            rw [this]
            simp [hji, hl j]
        · intro j hj
          rcases List.mem_append.1 hj with h | h
          · exact hlt j h
          · simp at h; subst h; exact hin
        · intro j hj k hk
          rcases List.mem_append.1 hj with h | h
          · exact List.mem_append_left _ (hcl j h k hk)
          · simp at h; subst h; exact List.mem_append_left _ (hpre k hk)
        · intro j hj
          rcases List.mem_append.1 hj with h | h
          · have hji : j ≠ i := fun e => hni (e ▸ h)
            by_cases hu : U j = i
            · exact .inl ⟨fun e => hji (e.symm.trans hu), hu ▸ by simp⟩
            by_cases hu2 : U j ≠ j ∧ U j ∈ pre.getD i []
            · exact .inl ⟨hu2.1, List.mem_append_left _ (hpre _ hu2.2)⟩
            rcases hA j h with hA | hA
            · exact .inl ⟨hA.1, List.mem_append_left _ hA.2⟩
            refine .inr (hdep j vs _ Y (hlt j h) (fun k hk => (hus k ?_).symm) (hstA j i vs X Y (hlt j h) hin (fun e => hji e.symm) (hnpre j h) (fun hne => ⟨hu, fun hm => hu2 ⟨hne, hm⟩⟩) (hB i hin hni) hXY hA))
            rcases hk with rfl | hk
            · exact hji
            · exact fun e => hnpre j h (e ▸ hk)
          · simp at h; subst h; exact .inr hAi
        · intro j hj hjo
          have hj1 : j ∉ ord := fun h => hjo (List.mem_append_left _ h)
          have hj2 : j ≠ i := fun e => hjo (by simp [e])
          exact hstB j i X Y hj hin (fun e => hj2 e.symm) (fun h => hj1 (hpre j h)) (hB i hin hni) hXY (hB j hj hj1)
        · rw [putL_append, putL_congr ops (us := vs) (L := ord) (fun j hj => hus j (fun e => hni (e ▸ hj))), ← hb]
          simp only [putL, List.foldl_cons, List.foldl_nil, upd_self]
          unfold dstOf
          rw [ho]
          rfl
  have inv0 : HeadInv .any ops n (Array.replicate ops.size false) :=
    ⟨by simp, fun j oj _ hl => (by rw [getD_replicate_false] at hl; cases hl), fun t _ ht => getD_in (by simpa using ht) (getD_replicate_false _ _)⟩
  have := main n (Array.replicate ops.size false) (fun _ => undef) w.drew a [] inv0 List.nodup_nil (fun j => by
    rw [getD_replicate_false]; simp) (fun j hj => by cases hj) (by simp) (fun j hj => by cases hj) (fun j hj => by cases hj) (fun j hj _ => hB0 j hj) rfl
  rwa [show n + (ops.size - n) = ops.size by omega] at this

def wpUse (P : Program) (ops : Array Oper) (pre : List (List Nat)) (n : Nat) (C : World → Prop) (B : Nat → World → Prop) (G : Nat → World → World → Prop) (U : Nat → Nat) (a : Act) : Nat → List Pr → List Oper → (List Pr → Prop) → Prop
  | _, L, [], fin => fin L
  | k, L, o :: l, fin => ∃ V : Pr, (∀ j v X Y, j < n → j ≠ k → j ∉ pre.getD k [] → (U k ≠ k → U k ≠ j ∧ U k ∉ pre.getD j []) → C X → B j X → G j X Y → V v X → V v Y) ∧
      (∀ (vs : Nat → Value) (X : World), C X → B k X → (∀ j ∈ pre.getD k [], (L.getD j anyPr) (vs j) X) →
        wpList P ops (Post (putL ops vs (pre.getD k []) a) o.dst (fun v Y => G k X Y ∧ V v Y)) [o] (putL ops vs (pre.getD k []) a) X) ∧
      wpUse P ops pre n C B G U a (k + 1) (L ++ [V]) l fin

theorem wpUse_spec {ops : Array Oper} {pre : List (List Nat)} {n : Nat} {C : World → Prop} {B : Nat → World → Prop} {G : Nat → World → World → Prop} {U : Nat → Nat} {a : Act} {fin : List Pr → Prop} :
    ∀ (l : List Oper) (k : Nat) (L : List Pr), L.length = k → (∀ j, j < l.length → l[j]? = ops[k + j]?) → (∀ i, k ≤ i → i < k + l.length → ∀ j ∈ pre.getD i [], j < i) → wpUse P ops pre n C B G U a k L l fin →
    ∃ M : List Pr, M.length = l.length ∧ fin (L ++ M) ∧ ∀ (i : Nat) o, k ≤ i → i < k + l.length → ops[i]? = some o →
      (∀ j v X Y, j < n → j ≠ i → j ∉ pre.getD i [] → (U i ≠ i → U i ≠ j ∧ U i ∉ pre.getD j []) → C X → B j X → G j X Y → ((L ++ M).getD i anyPr) v X → ((L ++ M).getD i anyPr) v Y) ∧
      (∀ (vs : Nat → Value) (X : World), C X → B i X → (∀ j ∈ pre.getD i [], ((L ++ M).getD j anyPr) (vs j) X) →
        wpList P ops (Post (putL ops vs (pre.getD i []) a) o.dst (fun v Y => G i X Y ∧ ((L ++ M).getD i anyPr) v Y)) [o] (putL ops vs (pre.getD i []) a) X)
  | [], k, L, hL, _, _, h => ⟨[], rfl, by rw [List.append_nil]; exact h, fun i o h1 h2 _ => by simp at h2; omega⟩
  | o :: l, k, L, hL, hl, hp, h => by
    obtain ⟨V, h1, h2, h3⟩ := h
    have h0 : ops[k]? = some o := by simpa using (hl 0 (by simp)).symm
    obtain ⟨M, hM, hf, hr⟩ := wpUse_spec l (k + 1) (L ++ [V]) (by simp [hL]) (fun j hj => by have := hl (j + 1) (by simp; omega); simpa [Nat.add_assoc, Nat.add_comm 1 j] using this) (fun i hi hi2 => hp i (by omega) (by simp; omega)) h3
    refine ⟨V :: M, by simp [hM], by simpa using hf, fun i oi hi hi2 hoi => ?_⟩
    have e : L ++ V :: M = L ++ [V] ++ M := by simp
    rw [e]
    by_cases hik : i = k
    · subst hik
      have : oi = o := by rw [h0] at hoi; exact (Option.some.inj hoi).symm
      subst this
      have eV : (L ++ [V] ++ M).getD i anyPr = V := by
        rw [List.getD_eq_getElem?_getD, List.getElem?_append_left (by simp [hL]), List.getElem?_append_right (by omega)]
        simp [hL]
      rw [eV]
      refine ⟨h1, fun vs X hC hB hA => h2 vs X hC hB (fun j hj => ?_)⟩
      have hlt := hp i (by omega) (by simp) j hj
      have := hA j hj
      rwa [List.getD_eq_getElem?_getD, List.append_assoc, List.getElem?_append_left (by omega), ← List.getD_eq_getElem?_getD] at this
    · exact hr i oi (by omega) (by simp at hi2; omega) hoi

/-- **THE LAW, STEP BY STEP, IN GENERAL.** -/
theorem wp_region_use {id : Nat} {Q : Exit → Act → World → Prop} {a : Act} {w : World} {l : List Oper} (pre : List (List Nat)) (C : World → Prop) (B : Nat → World → Prop) (G : Nat → World → World → Prop) (U : Nat → Nat)
    (hm : P.follows .mixedOrders = true) (hc : okPre l.toArray pre = true) (hp : preOk pre l.length = true) (hU : useOk pre U l.length = true) (hne : 0 < l.length) (hlast : U (l.length - 1) = l.length - 1) (h0 : C w.drew) (hB0 : ∀ i, B i w.drew)
    (hCG : ∀ j X Y, j < l.length → C X → B j X → G j X Y → C Y)
    (hBG : ∀ i j X Y, i < l.length → j < l.length → j ≠ i → i ∉ pre.getD j [] → C X → B j X → G j X Y → B i X → B i Y)
    (h : wpUse P l.toArray pre l.length C B G U a 0 [] l (fun L => ∀ (vs : Nat → Value) (X : World), C X → (∀ i < l.length, U i = i → (L.getD i anyPr) (vs i) X) → Q .normal (putL l.toArray vs (List.range l.length) a) X)) :
    (Code.region id l.toArray true).wp P Q a w := by
  have hp' : ∀ i, 0 ≤ i → i < 0 + l.length → ∀ j ∈ pre.getD i [], j < i := fun i _ hi j hj => by
    unfold preOk at hp
    have := List.all_eq_true.1 (List.all_eq_true.1 hp i (List.mem_range.2 (by omega))) j hj
    simpa using this
  obtain ⟨M, hM, hf, hr⟩ := wpUse_spec l 0 [] rfl (fun j _ => by simp) hp' h
  rw [List.nil_append] at hf hr
  refine region_use l.length (by simp) pre (fun i vs X => C X ∧ (M.getD i anyPr) (vs i) X) (fun i X => C X ∧ B i X) (fun j X Y => G j X Y ∧ C Y) U (useOk_spec hU) hm hc ?_ ?_ (fun i _ => ⟨h0, hB0 i⟩) ?_ ?_ ?_ ?_
  · have := ready_all (ops := l.toArray)
    simpa using this
  · intro i vs us X hi hd ha
    rw [← hd i (.inl rfl)]
    exact ha
  · intro i k vs X Y hi hk hki hkp hku hB hR hA
    obtain ⟨o, ho⟩ : ∃ o, l.toArray[i]? = some o := ⟨_, Array.getElem?_eq_getElem (by simpa using hi)⟩
    exact ⟨hR.2, (hr i o (Nat.zero_le _) (by omega) ho).1 k _ _ _ hk hki hkp hku hB.1 hB.2 hR.1 hA.2⟩
  · intro i k X Y hi hk hki hip hB hR hBi
    exact ⟨hR.2, hBG i k X Y hi hk hki hip hB.1 hB.2 hR.1 hBi.2⟩
  · intro i vs X o hi ho hB hA
    have h1 := (hr i o (Nat.zero_le _) (by omega) ho).2 vs X hB.1 hB.2 (fun j hj => (hA j hj).2)
    refine wpList_mono_post ?_ h1
    rintro v Y ⟨hG, hV⟩
    rw [upd_self]
    exact ⟨⟨hG, hCG _ _ _ hi hB.1 hB.2 hG⟩, hCG _ _ _ hi hB.1 hB.2 hG, hV⟩
  · intro vs X listed hs hl hA
    have hfin := hf vs X (hA (l.length - 1) (by omega) hlast).1 (fun i hi hu => (hA i hi hu).2)
    have hz : l.toArray.size - l.length = 0 := by simp
    rw [hz]
    refine ⟨?_, hfin⟩
    unfold Region.ready
    rw [List.filter_eq_nil_iff]
    intro j hj
    have h1 := (hl j).2 (by simpa using List.mem_range.1 hj)
    have h2 : listed.getD j true = true := by
      have hm : j < listed.size := by rw [hs]; exact List.mem_range.1 hj
      simp only [Array.getD, hm, dif_pos] at h1 ⊢
      exact h1
    simp [h2]
theorem use_fx {ops : Array Oper} {pre : List (List Nat)} {n : Nat} {C : World → Prop} {B : Nat → World → Prop} {G : Nat → World → World → Prop} {U : Nat → Nat} {a : Act} {fin : List Pr → Prop} {k : Nat} {L : List Pr} {o : Oper} {l : List Oper} (c : Value)
    (h : ∀ (vs : Nat → Value) (X : World), C X → B k X → (∀ j ∈ pre.getD k [], (L.getD j anyPr) (vs j) X) →
        wpList P ops (Post (putL ops vs (pre.getD k []) a) o.dst (fun v Y => G k X Y ∧ v = c)) [o] (putL ops vs (pre.getD k []) a) X)
    (r : wpUse P ops pre n C B G U a (k + 1) (L ++ [fun v _ => v = c]) l fin) : wpUse P ops pre n C B G U a k L (o :: l) fin :=
  ⟨fun v _ => v = c, fun _ _ _ _ _ _ _ _ _ _ _ h => h, h, r⟩
theorem use_pr {ops : Array Oper} {pre : List (List Nat)} {n : Nat} {C : World → Prop} {B : Nat → World → Prop} {G : Nat → World → World → Prop} {U : Nat → Nat} {a : Act} {fin : List Pr → Prop} {k : Nat} {L : List Pr} {o : Oper} {l : List Oper} (V : Pr)
    (hV : ∀ j v X Y, j < n → j ≠ k → j ∉ pre.getD k [] → (U k ≠ k → U k ≠ j ∧ U k ∉ pre.getD j []) → C X → B j X → G j X Y → V v X → V v Y)
    (h : ∀ (vs : Nat → Value) (X : World), C X → B k X → (∀ j ∈ pre.getD k [], (L.getD j anyPr) (vs j) X) →
        wpList P ops (Post (putL ops vs (pre.getD k []) a) o.dst (fun v Y => G k X Y ∧ V v Y)) [o] (putL ops vs (pre.getD k []) a) X)
    (r : wpUse P ops pre n C B G U a (k + 1) (L ++ [V]) l fin) : wpUse P ops pre n C B G U a k L (o :: l) fin :=
  ⟨V, hV, h, r⟩
theorem use_nil {ops : Array Oper} {pre : List (List Nat)} {n : Nat} {C : World → Prop} {B : Nat → World → Prop} {G : Nat → World → World → Prop} {U : Nat → Nat} {a : Act} {fin : List Pr → Prop} {k : Nat} {L : List Pr} (h : fin L) : wpUse P ops pre n C B G U a k L [] fin := h
end

theorem wpList_wanted {P : Program} {ops : Array Oper} {rest : List Oper} {o : Oper} {a : Act} {w : World} {Q : Exit → Act → World → Prop} (h : Region.wanted o (yielded ops a.tmps) = true) (k : o.wp P a w (fun a' w' => wpList P ops Q rest a' w') Q) : wpList P ops Q (o :: rest) a w := by
  simp only [wpList]
  rw [if_pos h]
  exact .inl k
theorem wpList_load_w {P : Program} {ops : Array Oper} {rest : List Oper} {o : Oper} {a : Act} {w : World} {Q : Exit → Act → World → Prop} {v p : Value} {ty : TypeId} {x : Operand} (ho : o.op = .load ty x) (hx : a.eval x = p) (h : (Instr.loadAt ty p).run P w = .ok v w) (hw : Region.wanted o (yielded ops a.tmps) = true)
    (k : wpList P ops Q rest (a.put o.dst v) w) : wpList P ops Q (o :: rest) a w := by
  refine wpList_wanted hw ?_
  unfold Oper.wp execOp
  simp only [ho, hx, Sem.run_bind, h, Result.andThen_ok, Sem.run_pure]
  exact k
theorem wpList_build_w {P : Program} {ops : Array Oper} {rest : List Oper} {o : Oper} {a : Act} {w : World} {Q : Exit → Act → World → Prop} {v : Value} {ty : TypeId} {ps : Array (Nat × Operand)} {qs : Array (Nat × Value)} (ho : o.op = .build ty ps) (hx : ps.map (fun (i, x) => (i, a.eval x)) = qs) (h : (Instr.build ty qs).run P w = .ok v w) (hw : Region.wanted o (yielded ops a.tmps) = true)
    (k : wpList P ops Q rest (a.put o.dst v) w) : wpList P ops Q (o :: rest) a w := by
  subst hx
  refine wpList_wanted hw ?_
  unfold Oper.wp execOp
  simp only [ho, Sem.run_bind, h, Result.andThen_ok, Sem.run_pure]
  exact k
theorem wpList_bin_w {P : Program} {ops : Array Oper} {rest : List Oper} {o : Oper} {a : Act} {w : World} {Q : Exit → Act → World → Prop} {v vx vy : Value} {op : BinOp} {t ty : TypeId} {x y : Operand} (ho : o.op = .binOp op t x y ty) (hx : a.eval x = vx) (hy : a.eval y = vy) (h : (do eqGuard op t x y vx vy; binOp op t vx vy : Sem Value).run P w = .ok v w) (hw : Region.wanted o (yielded ops a.tmps) = true)
    (k : wpList P ops Q rest (a.put o.dst v) w) : wpList P ops Q (o :: rest) a w := by
  subst hx hy
  refine wpList_wanted hw ?_
  unfold Oper.wp execOp
  simp only [ho]
  rw [Sem.run_bind, h]
  exact k
end Go.Rg
