/- A law for a region that draws its order: one assertion for each operation, kept by all the others, serves every order.
   Conditions: each operation's temporaries come of the operations named ahead of it; the assertions are kept by the relation R. -/
import Derived.OrdersIn
import Derived.TacticsIn
import Derived.RangeFuncCalls
import Derived.OwnWalkIn
namespace Go.Rg
set_option maxRecDepth 100000
set_option linter.unusedVariables false
set_option linter.unusedSimpArgs false
open Go

section
variable {F : Fence} {n : Nat} {P : Program}

def dstOf (ops : Array Oper) (j : Nat) : Option Tmp := (ops[j]?).bind (·.dst)
def putL (ops : Array Oper) (vs : Nat → Value) (L : List Nat) (a : Act) : Act := L.foldl (fun a j => a.put (dstOf ops j) (vs j)) a

/-- The static check: 'pre' names, for each operation, some that are surely ahead of it, among them all whose values it looks at. -/
def okPre (ops : Array Oper) (pre : List (List Nat)) : Bool :=
  (List.range ops.size).all fun i =>
    match ops[i]? with
    | none => false
    | some o =>
      ((pre.getD i []).all fun j => decide (j < ops.size) && (o.after.any fun e => Region.binds .any e && (e.on == j || (pre.getD e.on []).contains j))) &&
      ((List.range ops.size).all fun j => j == i || (match dstOf ops j with
        | none => true
        | some d => !((o.looksAt ops).contains d) || ((pre.getD i []).contains j || (pre.getD j []).contains i))) &&
      ((List.range ops.size).all fun j => j == i || (match dstOf ops j with
        | none => true
        | some d => dstOf ops i != some d)) &&
      (pre.getD i []).Nodup && (o.after.all fun e => !Region.binds .any e || decide (e.on < i)) &&
      (match o.op with | .select .. => false | .defer _ => false | _ => true)

/-- One operation: it yields a value, and goes on. -/
def One (F : Fence) (n : Nat) (P : Program) (ops : Array Oper) (o : Oper) (a : Act) (w : World) (K : Value → World → Prop) : Prop :=
  if Region.wanted o (yielded ops a.tmps) then o.uponIn F n P a (fun a' w' => ∃ v, a' = a.put o.dst v ∧ K v w') (fun _ _ _ => False) ((execOp a.eval o).run P w)
  else K undef w

theorem dst_comm {ops : Array Oper} {pre : List (List Nat)} (hc : okPre ops pre = true) (j k : Nat) (hjk : j ≠ k) : ∀ d, dstOf ops j = some d → dstOf ops k ≠ some d := by
  intro d hj hk
  unfold okPre at hc
  rw [List.all_eq_true] at hc
  have hlt : ∀ {m d}, dstOf ops m = some d → m < ops.size := by
    intro m d h
    by_cases hm : m < ops.size
    · exact hm
    · unfold dstOf at h; rw [Array.getElem?_eq_none (by omega)] at h; cases h
  have h := hc k (List.mem_range.2 (hlt hk))
  obtain ⟨o, ho⟩ : ∃ o, ops[k]? = some o := ⟨_, Array.getElem?_eq_getElem (hlt hk)⟩
  rw [ho] at h
  simp only [Bool.and_eq_true, List.all_eq_true] at h
  have h3 := h.1.1.1.2 j (List.mem_range.2 (hlt hj))
  rw [hj, hk] at h3
  simp at h3
  exact hjk h3

theorem putL_comm {ops : Array Oper} {pre : List (List Nat)} (hc : okPre ops pre = true) (vs : Nat → Value) (a : Act) (j k : Nat) :
    (a.put (dstOf ops j) (vs j)).put (dstOf ops k) (vs k) = (a.put (dstOf ops k) (vs k)).put (dstOf ops j) (vs j) := by
  by_cases h : j = k
  · subst h; rfl
  · exact Act.put_comm a _ _ (fun d hd => dst_comm hc j k h d hd)

theorem putL_perm {ops : Array Oper} {pre : List (List Nat)} (hc : okPre ops pre = true) (vs : Nat → Value) {L M : List Nat} (h : L.Perm M) (a : Act) : putL ops vs L a = putL ops vs M a := by
  induction h generalizing a with
  | nil => rfl
  | cons x _ ih => exact ih _
  | swap x y l => simp only [putL, List.foldl_cons]; rw [putL_comm hc]
  | trans _ _ ih1 ih2 => exact (ih1 a).trans (ih2 a)

theorem putL_append (ops : Array Oper) (vs : Nat → Value) (L M : List Nat) (a : Act) : putL ops vs (L ++ M) a = putL ops vs M (putL ops vs L a) := by
  simp [putL, List.foldl_append]

theorem putL_congr (ops : Array Oper) {vs us : Nat → Value} {L : List Nat} (h : ∀ j ∈ L, vs j = us j) (a : Act) : putL ops vs L a = putL ops us L a := by
  induction L generalizing a with
  | nil => rfl
  | cons x l ih =>
    simp only [putL, List.foldl_cons] at ih ⊢
    rw [h x (by simp)]
    exact ih (fun j hj => h j (by simp [hj])) _

/-- What an operation does is not turned by values that it does not look at. -/
theorem same_putL {ops : Array Oper} (o : Oper) (hs : ∀ cs b, o.op ≠ .select cs b) (vs : Nat → Value) (M : List Nat)
    (hM : ∀ j ∈ M, ∀ d, dstOf ops j = some d → d ∉ o.looksAt ops) (a : Act) :
    execOp (putL ops vs M a).eval o = execOp a.eval o ∧ Region.wanted o (yielded ops (putL ops vs M a).tmps) = Region.wanted o (yielded ops a.tmps) := by
  induction M generalizing a with
  | nil => exact ⟨rfl, rfl⟩
  | cons x l ih =>
    have h := ih (fun j hj => hM j (by simp [hj])) (a.put (dstOf ops x) (vs x))
    simp only [putL, List.foldl_cons] at h ⊢
    exact ⟨h.1.trans (execOp_put (ops := ops) o hs a _ _ (hM x (by simp))), h.2.trans (wanted_put (ops := ops) o a _ _ (hM x (by simp)))⟩

theorem put_size (a : Act) (dst : Option Tmp) (v : Value) : (a.put dst v).tmps.size = a.tmps.size := by
  cases dst <;> simp [Act.put]
theorem putL_size (ops : Array Oper) (vs : Nat → Value) (L : List Nat) (a : Act) : (putL ops vs L a).tmps.size = a.tmps.size := by
  induction L generalizing a with
  | nil => rfl
  | cons x l ih => simp only [putL, List.foldl_cons] at ih ⊢; rw [ih, put_size]
theorem put_move {a b : Act} {dst : Option Tmp} {v u : Value} (hs : a.tmps.size = b.tmps.size) (h : a.put dst v = a.put dst u) : b.put dst v = b.put dst u := by
  cases dst with
  | none => rfl
  | some d =>
    by_cases hd : d < a.tmps.size
    · have h1 : (a.put (some d) v).tmps[d]? = (a.put (some d) u).tmps[d]? := by rw [h]
      simp [Act.put, hd] at h1
      rw [h1]
    · simp only [Act.put]
      have hd' : b.tmps.size ≤ d := hs ▸ Nat.le_of_not_lt hd
      rw [Array.setIfInBounds_eq_of_size_le hd', Array.setIfInBounds_eq_of_size_le hd']

/-- What is asked of one operation. -/
def Post (a : Act) (dst : Option Tmp) (K : Value → World → Prop) : Exit → Act → World → Prop
  | .normal, a', w' => ∃ v, a' = a.put dst v ∧ K v w'
  | _, _, _ => False

theorem notLets (a : Act) (dst : Option Tmp) (K : Value → World → Prop) : ¬ LetsOut (Post a dst K) := by
  rintro ⟨a', w', h⟩
  exact h

/-- One operation, moved to another frame in which it sees the same. -/
theorem one_move {ops : Array Oper} {i : Nat} {o : Oper} (ho : ops[i]? = some o) (hF : ∀ f, F.fn f) (hd : ∀ c, o.op ≠ .defer c) {a b : Act} {w : World} {K : Value → World → Prop} {Q : Exit → Act → World → Prop} {K' : Act → World → Prop}
    (hsz : a.tmps.size = b.tmps.size) (he : execOp b.eval o = execOp a.eval o) (hw : Region.wanted o (yielded ops b.tmps) = Region.wanted o (yielded ops a.tmps))
    (h : wpListIn F n P ops (Post a o.dst K) [o] a w) (hk : ∀ v w', K v w' → K' (b.put o.dst v) w') : wpOpIn F n P ops Q i K' b w := by
  have lift : ∀ v w', (∃ u, a.put o.dst v = a.put o.dst u ∧ K u w') → K' (b.put o.dst v) w' := by
    rintro v w' ⟨u, e, hu⟩
    rw [put_move hsz e]
    exact hk u w' hu
  unfold wpOpIn
  simp only [ho]
  simp only [wpListIn] at h
  rw [hw]
  by_cases hwt : Region.wanted o (yielded ops a.tmps) = true
  · rw [if_pos hwt] at h ⊢
    have h := h.2
    refine ⟨fun f _ => hF f, ?_⟩
    rw [Oper.semAt_plain F _ _ hd] at h ⊢
    rw [he]
    generalize (execOp a.eval o).run P w = r at h
    cases r with
    | ok x w' =>
      cases x with
      | value v => exact lift v w' h
      | skip => exact lift undef w' h
      | enter f args =>
        refine ⟨h.1, h.2.mono ?_⟩
        intro e w'' he'
        cases e with
        | returned v => exact lift v w'' he'
        | panicked c => exact he'.elim
        | outgrown => exact (notLets _ _ _ he').elim
      | row row args => exact ⟨h.1, RowsIn.mono h.2 (fun v w'' he' => lift v w'' he')⟩
      | round l f tmps assign body =>
        refine ⟨h.1, h.2.mono ?_⟩
        intro e w'' he'
        cases e with
        | returned v => exact lift v w'' he'
        | panicked c => exact he'.elim
        | outgrown => exact (notLets _ _ _ he').elim
      | defer d =>
        exfalso
        obtain ⟨v, e, _⟩ := h
        have := congrArg Act.defers e
        cases hdst : o.dst <;> simp [Act.put, hdst] at this
      | _ => exact h.elim
    | halt x w' => cases x <;> exact h.elim
  · rw [if_neg hwt] at h ⊢
    exact ⟨fun f _ => hF f, lift undef w h.2⟩

theorem pre_facts {ops : Array Oper} {pre : List (List Nat)} (hc : okPre ops pre = true) {i : Nat} {o : Oper} (ho : ops[i]? = some o) :
    (∀ j ∈ pre.getD i [], j < ops.size ∧ ∃ e ∈ o.after, Region.binds .any e = true ∧ (e.on = j ∨ j ∈ pre.getD e.on [])) ∧
    (∀ j d, j ≠ i → dstOf ops j = some d → d ∈ o.looksAt ops → j ∈ pre.getD i [] ∨ i ∈ pre.getD j []) ∧ (pre.getD i []).Nodup ∧ (∀ e ∈ o.after, Region.binds .any e = true → e.on < i) ∧ (∀ cs b, o.op ≠ .select cs b) ∧ (∀ c, o.op ≠ .defer c) := by
  unfold okPre at hc
  rw [List.all_eq_true] at hc
  have hi : i < ops.size := (Array.getElem?_eq_some_iff.1 ho).1
  have h := hc i (List.mem_range.2 hi)
  rw [ho] at h
  simp only [Bool.and_eq_true, List.all_eq_true] at h
  obtain ⟨⟨⟨⟨⟨h1, h2⟩, h3⟩, h4⟩, h6⟩, h5⟩ := h
  refine ⟨fun j hj => ?_, fun j d hji hd hl => ?_, by simpa using h4, fun e he hb => ?_, ?_, ?_⟩
  · have := h1 j hj
    obtain ⟨hlt, this⟩ := this
    rw [Array.any_eq_true'] at this
    obtain ⟨e, he, hx⟩ := this
    rw [Bool.and_eq_true, Bool.or_eq_true] at hx
    exact ⟨by simpa using hlt, e, he, hx.1, by simpa using hx.2⟩
  · have hj : j < ops.size := by
      by_cases hm : j < ops.size
      · exact hm
      · unfold dstOf at hd; rw [Array.getElem?_eq_none (by omega)] at hd; cases hd
    have := h2 j (List.mem_range.2 hj)
    rw [hd] at this
    simp at this
    rcases this with h | h | h | h
    · exact absurd h hji
    · exact absurd hl h
    · exact .inl (by simpa using h)
    · exact .inr (by simpa using h)
  · rw [Array.all_eq_true'] at h6
    have := h6 e he
    rw [hb] at this
    simpa using this
  · intro cs b e; rw [e] at h5; simp at h5
  · intro c e; rw [e] at h5; simp at h5

def upd (vs : Nat → Value) (i : Nat) (v : Value) : Nat → Value := fun j => if j = i then v else vs j
theorem upd_self (vs : Nat → Value) (i : Nat) (v : Value) : upd vs i v i = v := if_pos rfl
theorem upd_ne (vs : Nat → Value) (i : Nat) (v : Value) {j : Nat} (h : j ≠ i) : upd vs i v j = vs j := if_neg h

/-- **THE LAW.** A i: what holds from operation i on; B i: what holds till it comes; R k: what operation k does to the world. -/
theorem region_rg {id : Nat} {ops : Array Oper} {a : Act} {w : World} {Q : Exit → Act → World → Prop} (pre : List (List Nat)) (A : Nat → (Nat → Value) → World → Prop) (B : Nat → World → Prop) (R : Nat → World → World → Prop)
    (hm : P.follows .mixedOrders = true) (hF : ∀ f, F.fn f) (hc : okPre ops pre = true)
    (hdep : ∀ i vs us X, i < ops.size → (∀ j, j = i ∨ j ∈ pre.getD i [] → vs j = us j) → A i vs X → A i us X)
    (hB0 : ∀ i, i < ops.size → B i w.drew)
    (hstA : ∀ i k vs X Y, i < ops.size → k < ops.size → k ≠ i → k ∉ pre.getD i [] → B k X → R k X Y → A i vs X → A i vs Y)
    (hstB : ∀ i k X Y, i < ops.size → k < ops.size → k ≠ i → i ∉ pre.getD k [] → B k X → R k X Y → B i X → B i Y)
    (hop : ∀ (i : Nat) (vs : Nat → Value) (X : World) (o : Oper), ops[i]? = some o → B i X → (∀ j ∈ pre.getD i [], A j vs X) →
      wpListIn F n P ops (Post (putL ops vs (pre.getD i []) a) o.dst (fun v Y => R i X Y ∧ A i (upd vs i v) Y)) [o] (putL ops vs (pre.getD i []) a) X)
    (hend : ∀ (vs : Nat → Value) (X : World), (∀ i < ops.size, A i vs X) → Q .normal (putL ops vs (List.range ops.size) a) X) :
    (Code.region id ops true).wpIn F n P Q a w := by
  refine wpIn_region_any hm ?_
  change wpAnyIn F n P .any ops Q ops.size (Array.replicate ops.size false) a w.drew
  have main : ∀ (fuel : Nat) (listed : Array Bool) (vs : Nat → Value) (X : World) (b : Act) (ord : List Nat), listed.size = ops.size →
      ord.Nodup → (∀ j, j ∈ ord ↔ listed.getD j false = true) → fuel + ord.length = ops.size →
      (∀ j ∈ ord, ∀ k ∈ pre.getD j [], k ∈ ord) → (∀ j ∈ ord, A j vs X) → (∀ j, j < ops.size → j ∉ ord → B j X) → b = putL ops vs ord a → wpAnyIn F n P .any ops Q fuel listed b X := by
    intro fuel
    induction fuel with
    | zero =>
      intro listed vs X b ord hs hnd hl hlen hcl hA hB hb
      have hlt : ∀ j ∈ ord, j < ops.size := fun j hj => by
        have := (hl j).1 hj
        rw [← hs]
        by_cases hm : j < listed.size
        · exact hm
        · simp [Array.getD, hm] at this
      have hperm : ord.Perm (List.range ops.size) := by
        refine (List.perm_ext_iff_of_nodup hnd List.nodup_range).2 (fun j => ⟨fun hj => List.mem_range.2 (hlt j hj), fun hj => Classical.byContradiction fun hno => ?_⟩)
        have := List.Nodup.length_le_of_subset (l₁ := j :: ord) (l₂ := List.range ops.size) (List.nodup_cons.2 ⟨hno, hnd⟩) (fun k hk => by
          rcases List.mem_cons.1 hk with rfl | hk
          · exact hj
          · exact List.mem_range.2 (hlt k hk))
        simp at this
        omega
      have hall : ∀ j, j < ops.size → listed.getD j false = true := fun j hj => (hl j).1 (hperm.mem_iff.2 (List.mem_range.2 hj))
      refine ⟨?_, ?_⟩
      · unfold Region.ready
        rw [List.filter_eq_nil_iff]
        intro j hj
        have h1 := hall j (List.mem_range.1 hj)
        have h2 : listed.getD j true = true := by
          have hm : j < listed.size := by rw [hs]; exact List.mem_range.1 hj
          simp only [Array.getD, hm, dif_pos] at h1 ⊢
          exact h1
        simp [h2]
      · rw [hb, putL_perm hc vs hperm]
        exact hend vs X (fun j hj => hA j (hperm.mem_iff.2 (List.mem_range.2 hj)))
    | succ fuel ih =>
      intro listed vs X b ord hs hnd hl hlen hcl hA hB hb
      have hlt : ∀ j ∈ ord, j < ops.size := fun j hj => by
        have := (hl j).1 hj
        rw [← hs]
        by_cases hm : j < listed.size
        · exact hm
        · simp [Array.getD, hm] at this
      have hgd : ∀ j, j < ops.size → listed.getD j true = listed.getD j false := fun j hj => by
        have hm : j < listed.size := by omega
        simp [Array.getD, hm]
      refine ⟨fun hnil => ?_, fun i hi => ?_⟩
      · exfalso
        -- the least that is not listed is ready
        have hex : ∃ j, j < ops.size ∧ j ∉ ord := by
          refine Classical.byContradiction fun hno => ?_
          have : List.range ops.size ⊆ ord := fun j hj => Classical.byContradiction fun hj' => hno ⟨j, List.mem_range.1 hj, hj'⟩
          have := List.Nodup.length_le_of_subset List.nodup_range this
          simp at this
          omega
        have hmin : ∀ m, (∃ j, j < m ∧ j < ops.size ∧ j ∉ ord) → ∃ j, j < ops.size ∧ j ∉ ord ∧ ∀ k < j, k ∈ ord := by
          intro m
          induction m with
          | zero => rintro ⟨j, h, _⟩; omega
          | succ m ihm =>
            rintro ⟨j, h1, h2, h3⟩
            by_cases hs' : ∃ k, k < m ∧ k < ops.size ∧ k ∉ ord
            · exact ihm hs'
            · refine ⟨j, h2, h3, fun k hk => Classical.byContradiction fun hk' => hs' ⟨k, by omega, by omega, hk'⟩⟩
        obtain ⟨j0, h0, h0'⟩ := hex
        obtain ⟨j, hj, hj', hall⟩ := hmin (j0 + 1) ⟨j0, by omega, h0, h0'⟩
        obtain ⟨o, ho⟩ : ∃ o, ops[j]? = some o := ⟨_, Array.getElem?_eq_getElem hj⟩
        have hmem : j ∈ Region.ready .any ops listed := by
          unfold Region.ready
          rw [List.mem_filter]
          refine ⟨List.mem_range.2 hj, ?_⟩
          have hn : listed.getD j true = false := by
            rw [hgd j hj]
            cases h : listed.getD j false with
            | false => rfl
            | true => exact absurd ((hl j).2 h) hj'
          rw [hn, ho]
          simp only [Bool.not_false, Bool.true_and, Option.map_some, Option.getD_some, Array.all_eq_true']
          intro e he
          cases hbe : Region.binds .any e with
          | false => rfl
          | true =>
            have := (pre_facts hc ho).2.2.2.1 e he hbe
            simp only [Bool.not_true, Bool.false_or]
            exact (hl _).1 (hall _ this)
        rw [hnil] at hmem
        cases hmem
      · unfold Region.ready at hi
        rw [List.mem_filter] at hi
        obtain ⟨hir, hi⟩ := hi
        have hilt := List.mem_range.1 hir
        obtain ⟨o, ho⟩ : ∃ o, ops[i]? = some o := ⟨_, Array.getElem?_eq_getElem hilt⟩
        rw [ho] at hi
        simp only [Option.map_some, Option.getD_some, Bool.and_eq_true, Bool.not_eq_true', Array.all_eq_true'] at hi
        obtain ⟨hnl, hedge⟩ := hi
        have hni : i ∉ ord := fun h => by
          have := (hl i).1 h
          rw [hgd i hilt] at hnl
          rw [hnl] at this
          cases this
        obtain ⟨p1, p2, p3, p4, p5, p6⟩ := pre_facts hc ho
        have hpre : ∀ j ∈ pre.getD i [], j ∈ ord := fun j hj => by
          obtain ⟨_, e, he, hbe, hx⟩ := p1 j hj
          have hon : e.on ∈ ord := (hl _).2 (by have := hedge e he; rw [hbe] at this; simpa using this)
          rcases hx with rfl | hx
          · exact hon
          · exact hcl _ hon _ hx
        let rest := ord.filter fun j => !(pre.getD i []).contains j
        have hperm : ord.Perm (pre.getD i [] ++ rest) := by
          have h1 : (ord.filter fun j => (pre.getD i []).contains j).Perm (pre.getD i []) := by
            refine (List.perm_ext_iff_of_nodup (hnd.filter _) p3).2 (fun j => ?_)
            rw [List.mem_filter]
            constructor
            · intro h; simpa using h.2
            · intro h; exact ⟨hpre j h, by simpa using h⟩
          refine (List.filter_append_perm (fun j => (pre.getD i []).contains j) ord).symm.trans ?_
          exact h1.append_right _
        have hb' : b = putL ops vs rest (putL ops vs (pre.getD i []) a) := by rw [hb, putL_perm hc vs hperm, putL_append]
        have hsame := same_putL (ops := ops) o p5 vs rest (fun j hj d hd hl' => by
          have hj2 := List.mem_filter.1 hj
          have hji : j ≠ i := fun e => hni (e ▸ hj2.1)
          rcases p2 j d hji hd hl' with this | this
          · have h3 := hj2.2
            rw [List.contains_iff_mem.2 this] at h3
            cases h3
          · exact hni (hcl j hj2.1 i this)) (putL ops vs (pre.getD i []) a)
        rw [← hb'] at hsame
        refine one_move ho hF p6 (a := putL ops vs (pre.getD i []) a) (K := fun v Y => R i X Y ∧ A i (upd vs i v) Y) (by rw [hb', putL_size, putL_size, putL_size]) hsame.1 hsame.2 (hop i vs X o ho (hB i hilt hni) (fun j hj => hA j (hpre j hj))) ?_
        rintro v Y ⟨hXY, hAi⟩
        have hus : ∀ j, j ≠ i → upd vs i v j = vs j := fun j hj => upd_ne _ _ _ hj
        have hnpre : ∀ j ∈ ord, i ∉ pre.getD j [] := fun j hj h => hni (hcl j hj i h)
        refine ih (listed.setIfInBounds i true) (upd vs i v) Y (b.put o.dst v) (ord ++ [i]) (by simpa using hs) ?_ ?_ (by simp; omega) ?_ ?_ ?_ ?_
        · rw [List.nodup_append]
          exact ⟨hnd, by simp, fun x hx y hy => by simp at hy; subst hy; exact fun e => hni (e ▸ hx)⟩
        · intro j
          by_cases hji : j = i
          · subst hji; simp [Array.getD, hs, hilt]
          · have : (listed.setIfInBounds i true).getD j false = listed.getD j false := by
              have hij : i ≠ j := fun e => hji e.symm
              by_cases hm : j < listed.size
              · simp [Array.getD, hm, hij]
              · simp [Array.getD, hm]
            rw [this]
            simp [hji, hl j]
        · intro j hj k hk
          rcases List.mem_append.1 hj with h | h
          · exact List.mem_append_left _ (hcl j h k hk)
          · simp at h; subst h; exact List.mem_append_left _ (hpre k hk)
        · intro j hj
          rcases List.mem_append.1 hj with h | h
          · have hji : j ≠ i := fun e => hni (e ▸ h)
            refine hdep j vs _ Y (hlt j h) (fun k hk => (hus k ?_).symm) (hstA j i vs X Y (hlt j h) hilt (fun e => hji e.symm) (hnpre j h) (hB i hilt hni) hXY (hA j h))
            rcases hk with rfl | hk
            · exact hji
            · exact fun e => hnpre j h (e ▸ hk)
          · simp at h; subst h; exact hAi
        · intro j hj hjo
          have hj1 : j ∉ ord := fun h => hjo (List.mem_append_left _ h)
          have hj2 : j ≠ i := fun e => hjo (by simp [e])
          exact hstB j i X Y hj hilt (fun e => hj2 e.symm) (fun h => hj1 (hpre j h)) (hB i hilt hni) hXY (hB j hj hj1)
        · rw [putL_append, putL_congr ops (us := vs) (L := ord) (fun j hj => hus j (fun e => hni (e ▸ hj))), ← hb]
          simp only [putL, List.foldl_cons, List.foldl_nil, upd_self]
          unfold dstOf
          rw [ho]
          rfl
  exact main ops.size (Array.replicate ops.size false) (fun _ => undef) w.drew a [] (by simp) List.nodup_nil (fun j => by
    by_cases hj : j < ops.size <;> simp [Array.getD, hj]) (by simp) (fun j hj => by cases hj) (fun j hj => by cases hj) (fun j hj _ => hB0 j hj) rfl

end
end Go.Rg
