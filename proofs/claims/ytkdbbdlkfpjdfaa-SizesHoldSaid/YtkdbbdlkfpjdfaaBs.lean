/- Seat independent laws: regions that draw, rows, bytes.
   Conditions: those that each theorem names. -/
import Derived.OrdersIn
import Derived.TacticsIn
import Derived.RangeFuncCalls
import Derived.OwnWalkIn
import Derived.RangeFuncNested
import Derived.RangeFuncBound
import Derived.RangeFuncLeaves
import Derived.RangeFuncBox
import Derived.Shelf.Abstract
import Derived.Shelf.RegionOpen
import Derived.WalkKit
import Derived.TacticsInMore
import Derived.LoopNIn
import Derived.LoopIn
import Derived.WalkMore
import Derived.Laws.BitsLemmas
import Derived.StillTailTactics
import Derived.Deep.QuietTactic
import Derived.Below
import Derived.Tactics2
import Derived.StillTail
import Derived.Test.YtkdbbdlkfpjdfaaRows
import Derived.WalkSpells
import Derived.WalkLawsBesides
import Derived.Lib.Hide
import Derived.Laws.BytesArg
import Derived.Laws.IdiomStrings
import Derived.Maps.AppendAt
import Derived.OwnWalk
import Derived.Deep.MidRow
import Derived.Laws.StructEq
import Derived.RangeFuncWrites
import Derived.Lib.SmallJoins
import Derived.Deep.Slices
import Derived.ChangeSlices
import Derived.Laws.MakeOwn
import Derived.Laws.OwnMore
import Derived.Laws.NewBlocks
/- A law for a region that draws its order: one assertion for each operation, kept by all the others, serves every order.
   Conditions: each operation's temporaries come of the operations named ahead of it; the assertions are kept by the relation R. -/
namespace Go.Rg
set_option maxRecDepth 100000
set_option linter.unusedVariables false
set_option linter.unusedSimpArgs false
open Go

section
variable {F : Fence} {n : Nat} {P : Program}

def dstOf (ops : Array Oper) (j : Nat) : Option Tmp := (ops[j]?).bind (·.dst)
def putL (ops : Array Oper) (vs : Nat → Value) (L : List Nat) (a : Act) : Act := L.foldl (fun a j => a.put (dstOf ops j) (vs j)) a

/-- The static check: 'pre' names, for each operation, some that are surely ahead of it, among them all whose values it looks at. -/
def okPre (ops : Array Oper) (pre : List (List Nat)) : Bool :=
  (List.range ops.size).all fun i =>
    match ops[i]? with
    | none => false
    | some o =>
      ((pre.getD i []).all fun j => decide (j < ops.size) && (o.after.any fun e => Region.binds .any e && (e.on == j || (pre.getD e.on []).contains j))) &&
      ((List.range ops.size).all fun j => j == i || (match dstOf ops j with
        | none => true
        | some d => !((o.looksAt ops).contains d) || ((pre.getD i []).contains j || (pre.getD j []).contains i))) &&
      ((List.range ops.size).all fun j => j == i || (match dstOf ops j with
        | none => true
        | some d => dstOf ops i != some d)) &&
      (pre.getD i []).Nodup && (o.after.all fun e => !Region.binds .any e || decide (e.on < i)) &&
      (match o.op with | .select .. => false | .defer _ => false | _ => true)

/-- One operation: it yields a value, and goes on. -/
def One (F : Fence) (n : Nat) (P : Program) (ops : Array Oper) (o : Oper) (a : Act) (w : World) (K : Value → World → Prop) : Prop :=
  if Region.wanted o (yielded ops a.tmps) then o.uponIn F n P a (fun a' w' => ∃ v, a' = a.put o.dst v ∧ K v w') (fun _ _ _ => False) ((execOp a.eval o).run P w)
  else K undef w

theorem dst_comm {ops : Array Oper} {pre : List (List Nat)} (hc : okPre ops pre = true) (j k : Nat) (hjk : j ≠ k) : ∀ d, dstOf ops j = some d → dstOf ops k ≠ some d := by
  intro d hj hk
  unfold okPre at hc
  rw [List.all_eq_true] at hc
  have hlt : ∀ {m d}, dstOf ops m = some d → m < ops.size := by
    intro m d h
    by_cases hm : m < ops.size
    · exact hm
    · unfold dstOf at h; rw [Array.getElem?_eq_none (by omega)] at h; cases h
  have h := hc k (List.mem_range.2 (hlt hk))
  obtain ⟨o, ho⟩ : ∃ o, ops[k]? = some o := ⟨_, Array.getElem?_eq_getElem (hlt hk)⟩
  rw [ho] at h
  simp only [Bool.and_eq_true, List.all_eq_true] at h
  have h3 := h.1.1.1.2 j (List.mem_range.2 (hlt hj))
  rw [hj, hk] at h3
  simp at h3
  exact hjk h3

theorem putL_comm {ops : Array Oper} {pre : List (List Nat)} (hc : okPre ops pre = true) (vs : Nat → Value) (a : Act) (j k : Nat) :
    (a.put (dstOf ops j) (vs j)).put (dstOf ops k) (vs k) = (a.put (dstOf ops k) (vs k)).put (dstOf ops j) (vs j) := by
  by_cases h : j = k
  · subst h; rfl
  · exact Act.put_comm a _ _ (fun d hd => dst_comm hc j k h d hd)

theorem putL_perm {ops : Array Oper} {pre : List (List Nat)} (hc : okPre ops pre = true) (vs : Nat → Value) {L M : List Nat} (h : L.Perm M) (a : Act) : putL ops vs L a = putL ops vs M a := by
  induction h generalizing a with
  | nil => rfl
  | cons x _ ih => exact ih _
  | swap x y l => simp only [putL, List.foldl_cons]; rw [putL_comm hc]
  | trans _ _ ih1 ih2 => exact (ih1 a).trans (ih2 a)

theorem putL_append (ops : Array Oper) (vs : Nat → Value) (L M : List Nat) (a : Act) : putL ops vs (L ++ M) a = putL ops vs M (putL ops vs L a) := by
  simp [putL, List.foldl_append]

theorem putL_congr (ops : Array Oper) {vs us : Nat → Value} {L : List Nat} (h : ∀ j ∈ L, vs j = us j) (a : Act) : putL ops vs L a = putL ops us L a := by
  induction L generalizing a with
  | nil => rfl
  | cons x l ih =>
    simp only [putL, List.foldl_cons] at ih ⊢
    rw [h x (by simp)]
    exact ih (fun j hj => h j (by simp [hj])) _

/-- What an operation does is not turned by values that it does not look at. -/
theorem same_putL {ops : Array Oper} (o : Oper) (hs : ∀ cs b, o.op ≠ .select cs b) (vs : Nat → Value) (M : List Nat)
    (hM : ∀ j ∈ M, ∀ d, dstOf ops j = some d → d ∉ o.looksAt ops) (a : Act) :
    execOp (putL ops vs M a).eval o = execOp a.eval o ∧ Region.wanted o (yielded ops (putL ops vs M a).tmps) = Region.wanted o (yielded ops a.tmps) := by
  induction M generalizing a with
  | nil => exact ⟨rfl, rfl⟩
  | cons x l ih =>
    have h := ih (fun j hj => hM j (by simp [hj])) (a.put (dstOf ops x) (vs x))
    simp only [putL, List.foldl_cons] at h ⊢
    exact ⟨h.1.trans (execOp_put (ops := ops) o hs a _ _ (hM x (by simp))), h.2.trans (wanted_put (ops := ops) o a _ _ (hM x (by simp)))⟩

theorem put_size (a : Act) (dst : Option Tmp) (v : Value) : (a.put dst v).tmps.size = a.tmps.size := by
  cases dst <;> simp [Act.put]
theorem putL_size (ops : Array Oper) (vs : Nat → Value) (L : List Nat) (a : Act) : (putL ops vs L a).tmps.size = a.tmps.size := by
  induction L generalizing a with
  | nil => rfl
  | cons x l ih => simp only [putL, List.foldl_cons] at ih ⊢; rw [ih, put_size]
theorem put_move {a b : Act} {dst : Option Tmp} {v u : Value} (hs : a.tmps.size = b.tmps.size) (h : a.put dst v = a.put dst u) : b.put dst v = b.put dst u := by
  cases dst with
  | none => rfl
  | some d =>
    by_cases hd : d < a.tmps.size
    · have h1 : (a.put (some d) v).tmps[d]? = (a.put (some d) u).tmps[d]? := by rw [h]
      simp [Act.put, hd] at h1
      rw [h1]
    · simp only [Act.put]
      have hd' : b.tmps.size ≤ d := hs ▸ Nat.le_of_not_lt hd
      rw [Array.setIfInBounds_eq_of_size_le hd', Array.setIfInBounds_eq_of_size_le hd']

/-- What is asked of one operation. -/
def Post (a : Act) (dst : Option Tmp) (K : Value → World → Prop) : Exit → Act → World → Prop
  | .normal, a', w' => ∃ v, a' = a.put dst v ∧ K v w'
  | _, _, _ => False

theorem notLets (a : Act) (dst : Option Tmp) (K : Value → World → Prop) : ¬ LetsOut (Post a dst K) := by
  rintro ⟨a', w', h⟩
  exact h

/-- One operation, moved to another frame in which it sees the same. -/
theorem one_move {ops : Array Oper} {i : Nat} {o : Oper} (ho : ops[i]? = some o) (hF : ∀ f, F.fn f) (hd : ∀ c, o.op ≠ .defer c) {a b : Act} {w : World} {K : Value → World → Prop} {Q : Exit → Act → World → Prop} {K' : Act → World → Prop}
    (hsz : a.tmps.size = b.tmps.size) (he : execOp b.eval o = execOp a.eval o) (hw : Region.wanted o (yielded ops b.tmps) = Region.wanted o (yielded ops a.tmps))
    (h : wpListIn F n P ops (Post a o.dst K) [o] a w) (hk : ∀ v w', K v w' → K' (b.put o.dst v) w') : wpOpIn F n P ops Q i K' b w := by
  have lift : ∀ v w', (∃ u, a.put o.dst v = a.put o.dst u ∧ K u w') → K' (b.put o.dst v) w' := by
    rintro v w' ⟨u, e, hu⟩
    rw [put_move hsz e]
    exact hk u w' hu
  unfold wpOpIn
  simp only [ho]
  simp only [wpListIn] at h
  rw [hw]
  by_cases hwt : Region.wanted o (yielded ops a.tmps) = true
  · rw [if_pos hwt] at h ⊢
    have h := h.2
    refine ⟨fun f _ => hF f, ?_⟩
    rw [Oper.semAt_plain F _ _ hd] at h ⊢
    rw [he]
    generalize (execOp a.eval o).run P w = r at h
    cases r with
    | ok x w' =>
      cases x with
      | value v => exact lift v w' h
      | skip => exact lift undef w' h
      | enter f args =>
        refine ⟨h.1, h.2.mono ?_⟩
        intro e w'' he'
        cases e with
        | returned v => exact lift v w'' he'
        | panicked c => exact he'.elim
        | outgrown => exact (notLets _ _ _ he').elim
      | row row args => exact ⟨h.1, RowsIn.mono h.2 (fun v w'' he' => lift v w'' he')⟩
      | round l f tmps assign body =>
        refine ⟨h.1, h.2.mono ?_⟩
        intro e w'' he'
        cases e with
        | returned v => exact lift v w'' he'
        | panicked c => exact he'.elim
        | outgrown => exact (notLets _ _ _ he').elim
      | defer d =>
        exfalso
        obtain ⟨v, e, _⟩ := h
        have := congrArg Act.defers e
        cases hdst : o.dst <;> simp [Act.put, hdst] at this
      | _ => exact h.elim
    | halt x w' => cases x <;> exact h.elim
  · rw [if_neg hwt] at h ⊢
    exact ⟨fun f _ => hF f, lift undef w h.2⟩

theorem pre_facts {ops : Array Oper} {pre : List (List Nat)} (hc : okPre ops pre = true) {i : Nat} {o : Oper} (ho : ops[i]? = some o) :
    (∀ j ∈ pre.getD i [], j < ops.size ∧ ∃ e ∈ o.after, Region.binds .any e = true ∧ (e.on = j ∨ j ∈ pre.getD e.on [])) ∧
    (∀ j d, j ≠ i → dstOf ops j = some d → d ∈ o.looksAt ops → j ∈ pre.getD i [] ∨ i ∈ pre.getD j []) ∧ (pre.getD i []).Nodup ∧ (∀ e ∈ o.after, Region.binds .any e = true → e.on < i) ∧ (∀ cs b, o.op ≠ .select cs b) ∧ (∀ c, o.op ≠ .defer c) := by
  unfold okPre at hc
  rw [List.all_eq_true] at hc
  have hi : i < ops.size := (Array.getElem?_eq_some_iff.1 ho).1
  have h := hc i (List.mem_range.2 hi)
  rw [ho] at h
  simp only [Bool.and_eq_true, List.all_eq_true] at h
  obtain ⟨⟨⟨⟨⟨h1, h2⟩, h3⟩, h4⟩, h6⟩, h5⟩ := h
  refine ⟨fun j hj => ?_, fun j d hji hd hl => ?_, by simpa using h4, fun e he hb => ?_, ?_, ?_⟩
  · have := h1 j hj
    obtain ⟨hlt, this⟩ := this
    rw [Array.any_eq_true'] at this
    obtain ⟨e, he, hx⟩ := this
    rw [Bool.and_eq_true, Bool.or_eq_true] at hx
    exact ⟨by simpa using hlt, e, he, hx.1, by simpa using hx.2⟩
  · have hj : j < ops.size := by
      by_cases hm : j < ops.size
      · exact hm
      · unfold dstOf at hd; rw [Array.getElem?_eq_none (by omega)] at hd; cases hd
    have := h2 j (List.mem_range.2 hj)
    rw [hd] at this
    simp at this
    rcases this with h | h | h | h
    · exact absurd h hji
    · exact absurd hl h
    · exact .inl (by simpa using h)
    · exact .inr (by simpa using h)
  · rw [Array.all_eq_true'] at h6
    have := h6 e he
    rw [hb] at this
    simpa using this
  · intro cs b e; rw [e] at h5; simp at h5
  · intro c e; rw [e] at h5; simp at h5

def upd (vs : Nat → Value) (i : Nat) (v : Value) : Nat → Value := fun j => if j = i then v else vs j
theorem upd_self (vs : Nat → Value) (i : Nat) (v : Value) : upd vs i v i = v := if_pos rfl
theorem upd_ne (vs : Nat → Value) (i : Nat) (v : Value) {j : Nat} (h : j ≠ i) : upd vs i v j = vs j := if_neg h

/-- **THE LAW.** A i: what holds from operation i on; B i: what holds till it comes; R k: what operation k does to the world. -/
theorem region_rg {id : Nat} {ops : Array Oper} {a : Act} {w : World} {Q : Exit → Act → World → Prop} (pre : List (List Nat)) (A : Nat → (Nat → Value) → World → Prop) (B : Nat → World → Prop) (R : Nat → World → World → Prop)
    (hm : P.follows .mixedOrders = true) (hF : ∀ f, F.fn f) (hc : okPre ops pre = true)
    (hdep : ∀ i vs us X, i < ops.size → (∀ j, j = i ∨ j ∈ pre.getD i [] → vs j = us j) → A i vs X → A i us X)
    (hB0 : ∀ i, i < ops.size → B i w.drew)
    (hstA : ∀ i k vs X Y, i < ops.size → k < ops.size → k ≠ i → k ∉ pre.getD i [] → B k X → R k X Y → A i vs X → A i vs Y)
    (hstB : ∀ i k X Y, i < ops.size → k < ops.size → k ≠ i → i ∉ pre.getD k [] → B k X → R k X Y → B i X → B i Y)
    (hop : ∀ (i : Nat) (vs : Nat → Value) (X : World) (o : Oper), ops[i]? = some o → B i X → (∀ j ∈ pre.getD i [], A j vs X) →
      wpListIn F n P ops (Post (putL ops vs (pre.getD i []) a) o.dst (fun v Y => R i X Y ∧ A i (upd vs i v) Y)) [o] (putL ops vs (pre.getD i []) a) X)
    (hend : ∀ (vs : Nat → Value) (X : World), (∀ i < ops.size, A i vs X) → Q .normal (putL ops vs (List.range ops.size) a) X) :
    (Code.region id ops true).wpIn F n P Q a w := by
  refine wpIn_region_any hm ?_
  change wpAnyIn F n P .any ops Q ops.size (Array.replicate ops.size false) a w.drew
  have main : ∀ (fuel : Nat) (listed : Array Bool) (vs : Nat → Value) (X : World) (b : Act) (ord : List Nat), listed.size = ops.size →
      ord.Nodup → (∀ j, j ∈ ord ↔ listed.getD j false = true) → fuel + ord.length = ops.size →
      (∀ j ∈ ord, ∀ k ∈ pre.getD j [], k ∈ ord) → (∀ j ∈ ord, A j vs X) → (∀ j, j < ops.size → j ∉ ord → B j X) → b = putL ops vs ord a → wpAnyIn F n P .any ops Q fuel listed b X := by
    intro fuel
    induction fuel with
    | zero =>
      intro listed vs X b ord hs hnd hl hlen hcl hA hB hb
      have hlt : ∀ j ∈ ord, j < ops.size := fun j hj => by
        have := (hl j).1 hj
        rw [← hs]
        by_cases hm : j < listed.size
        · exact hm
        · simp [Array.getD, hm] at this
      have hperm : ord.Perm (List.range ops.size) := by
        refine (List.perm_ext_iff_of_nodup hnd List.nodup_range).2 (fun j => ⟨fun hj => List.mem_range.2 (hlt j hj), fun hj => Classical.byContradiction fun hno => ?_⟩)
        have := List.Nodup.length_le_of_subset (l₁ := j :: ord) (l₂ := List.range ops.size) (List.nodup_cons.2 ⟨hno, hnd⟩) (fun k hk => by
          rcases List.mem_cons.1 hk with rfl | hk
          · exact hj
          · exact List.mem_range.2 (hlt k hk))
        simp at this
        omega
      have hall : ∀ j, j < ops.size → listed.getD j false = true := fun j hj => (hl j).1 (hperm.mem_iff.2 (List.mem_range.2 hj))
      refine ⟨?_, ?_⟩
      · unfold Region.ready
        rw [List.filter_eq_nil_iff]
        intro j hj
        have h1 := hall j (List.mem_range.1 hj)
        have h2 : listed.getD j true = true := by
          have hm : j < listed.size := by rw [hs]; exact List.mem_range.1 hj
          simp only [Array.getD, hm, dif_pos] at h1 ⊢
          exact h1
        simp [h2]
      · rw [hb, putL_perm hc vs hperm]
        exact hend vs X (fun j hj => hA j (hperm.mem_iff.2 (List.mem_range.2 hj)))
    | succ fuel ih =>
      intro listed vs X b ord hs hnd hl hlen hcl hA hB hb
      have hlt : ∀ j ∈ ord, j < ops.size := fun j hj => by
        have := (hl j).1 hj
        rw [← hs]
        by_cases hm : j < listed.size
        · exact hm
        · simp [Array.getD, hm] at this
      have hgd : ∀ j, j < ops.size → listed.getD j true = listed.getD j false := fun j hj => by
        have hm : j < listed.size := by omega
        simp [Array.getD, hm]
      refine ⟨fun hnil => ?_, fun i hi => ?_⟩
      · exfalso
        -- the least that is not listed is ready
        have hex : ∃ j, j < ops.size ∧ j ∉ ord := by
          refine Classical.byContradiction fun hno => ?_
          have : List.range ops.size ⊆ ord := fun j hj => Classical.byContradiction fun hj' => hno ⟨j, List.mem_range.1 hj, hj'⟩
          have := List.Nodup.length_le_of_subset List.nodup_range this
          simp at this
          omega
        have hmin : ∀ m, (∃ j, j < m ∧ j < ops.size ∧ j ∉ ord) → ∃ j, j < ops.size ∧ j ∉ ord ∧ ∀ k < j, k ∈ ord := by
          intro m
          induction m with
          | zero => rintro ⟨j, h, _⟩; omega
          | succ m ihm =>
            rintro ⟨j, h1, h2, h3⟩
            by_cases hs' : ∃ k, k < m ∧ k < ops.size ∧ k ∉ ord
            · exact ihm hs'
            · refine ⟨j, h2, h3, fun k hk => Classical.byContradiction fun hk' => hs' ⟨k, by omega, by omega, hk'⟩⟩
        obtain ⟨j0, h0, h0'⟩ := hex
        obtain ⟨j, hj, hj', hall⟩ := hmin (j0 + 1) ⟨j0, by omega, h0, h0'⟩
        obtain ⟨o, ho⟩ : ∃ o, ops[j]? = some o := ⟨_, Array.getElem?_eq_getElem hj⟩
        have hmem : j ∈ Region.ready .any ops listed := by
          unfold Region.ready
          rw [List.mem_filter]
          refine ⟨List.mem_range.2 hj, ?_⟩
          have hn : listed.getD j true = false := by
            rw [hgd j hj]
            cases h : listed.getD j false with
            | false => rfl
            | true => exact absurd ((hl j).2 h) hj'
          rw [hn, ho]
          simp only [Bool.not_false, Bool.true_and, Option.map_some, Option.getD_some, Array.all_eq_true']
          intro e he
          cases hbe : Region.binds .any e with
          | false => rfl
          | true =>
            have := (pre_facts hc ho).2.2.2.1 e he hbe
            simp only [Bool.not_true, Bool.false_or]
            exact (hl _).1 (hall _ this)
        rw [hnil] at hmem
        cases hmem
      · unfold Region.ready at hi
        rw [List.mem_filter] at hi
        obtain ⟨hir, hi⟩ := hi
        have hilt := List.mem_range.1 hir
        obtain ⟨o, ho⟩ : ∃ o, ops[i]? = some o := ⟨_, Array.getElem?_eq_getElem hilt⟩
        rw [ho] at hi
        simp only [Option.map_some, Option.getD_some, Bool.and_eq_true, Bool.not_eq_true', Array.all_eq_true'] at hi
        obtain ⟨hnl, hedge⟩ := hi
        have hni : i ∉ ord := fun h => by
          have := (hl i).1 h
          rw [hgd i hilt] at hnl
          rw [hnl] at this
          cases this
        obtain ⟨p1, p2, p3, p4, p5, p6⟩ := pre_facts hc ho
        have hpre : ∀ j ∈ pre.getD i [], j ∈ ord := fun j hj => by
          obtain ⟨_, e, he, hbe, hx⟩ := p1 j hj
          have hon : e.on ∈ ord := (hl _).2 (by have := hedge e he; rw [hbe] at this; simpa using this)
          rcases hx with rfl | hx
          · exact hon
          · exact hcl _ hon _ hx
        let rest := ord.filter fun j => !(pre.getD i []).contains j
        have hperm : ord.Perm (pre.getD i [] ++ rest) := by
          have h1 : (ord.filter fun j => (pre.getD i []).contains j).Perm (pre.getD i []) := by
            refine (List.perm_ext_iff_of_nodup (hnd.filter _) p3).2 (fun j => ?_)
            rw [List.mem_filter]
            constructor
            · intro h; simpa using h.2
            · intro h; exact ⟨hpre j h, by simpa using h⟩
          refine (List.filter_append_perm (fun j => (pre.getD i []).contains j) ord).symm.trans ?_
          exact h1.append_right _
        have hb' : b = putL ops vs rest (putL ops vs (pre.getD i []) a) := by rw [hb, putL_perm hc vs hperm, putL_append]
        have hsame := same_putL (ops := ops) o p5 vs rest (fun j hj d hd hl' => by
          have hj2 := List.mem_filter.1 hj
          have hji : j ≠ i := fun e => hni (e ▸ hj2.1)
          rcases p2 j d hji hd hl' with this | this
          · have h3 := hj2.2
            rw [List.contains_iff_mem.2 this] at h3
            cases h3
          · exact hni (hcl j hj2.1 i this)) (putL ops vs (pre.getD i []) a)
        rw [← hb'] at hsame
        refine one_move ho hF p6 (a := putL ops vs (pre.getD i []) a) (K := fun v Y => R i X Y ∧ A i (upd vs i v) Y) (by rw [hb', putL_size, putL_size, putL_size]) hsame.1 hsame.2 (hop i vs X o ho (hB i hilt hni) (fun j hj => hA j (hpre j hj))) ?_
        rintro v Y ⟨hXY, hAi⟩
        have hus : ∀ j, j ≠ i → upd vs i v j = vs j := fun j hj => upd_ne _ _ _ hj
        have hnpre : ∀ j ∈ ord, i ∉ pre.getD j [] := fun j hj h => hni (hcl j hj i h)
        refine ih (listed.setIfInBounds i true) (upd vs i v) Y (b.put o.dst v) (ord ++ [i]) (by simpa using hs) ?_ ?_ (by simp; omega) ?_ ?_ ?_ ?_
        · rw [List.nodup_append]
          exact ⟨hnd, by simp, fun x hx y hy => by simp at hy; subst hy; exact fun e => hni (e ▸ hx)⟩
        · intro j
          by_cases hji : j = i
          · subst hji; simp [Array.getD, hs, hilt]
          · have : (listed.setIfInBounds i true).getD j false = listed.getD j false := by
              have hij : i ≠ j := fun e => hji e.symm
              by_cases hm : j < listed.size
              · simp [Array.getD, hm, hij]
              · simp [Array.getD, hm]
            rw [this]
            simp [hji, hl j]
        · intro j hj k hk
          rcases List.mem_append.1 hj with h | h
          · exact List.mem_append_left _ (hcl j h k hk)
          · simp at h; subst h; exact List.mem_append_left _ (hpre k hk)
        · intro j hj
          rcases List.mem_append.1 hj with h | h
          · have hji : j ≠ i := fun e => hni (e ▸ h)
            refine hdep j vs _ Y (hlt j h) (fun k hk => (hus k ?_).symm) (hstA j i vs X Y (hlt j h) hilt (fun e => hji e.symm) (hnpre j h) (hB i hilt hni) hXY (hA j h))
            rcases hk with rfl | hk
            · exact hji
            · exact fun e => hnpre j h (e ▸ hk)
          · simp at h; subst h; exact hAi
        · intro j hj hjo
          have hj1 : j ∉ ord := fun h => hjo (List.mem_append_left _ h)
          have hj2 : j ≠ i := fun e => hjo (by simp [e])
          exact hstB j i X Y hj hilt (fun e => hj2 e.symm) (fun h => hj1 (hpre j h)) (hB i hilt hni) hXY (hB j hj hj1)
        · rw [putL_append, putL_congr ops (us := vs) (L := ord) (fun j hj => hus j (fun e => hni (e ▸ hj))), ← hb]
          simp only [putL, List.foldl_cons, List.foldl_nil, upd_self]
          unfold dstOf
          rw [ho]
          rfl
  exact main ops.size (Array.replicate ops.size false) (fun _ => undef) w.drew a [] (by simp) List.nodup_nil (fun j => by
    by_cases hj : j < ops.size <;> simp [Array.getD, hj]) (by simp) (fun j hj => by cases hj) (fun j hj => by cases hj) (fun j hj _ => hB0 j hj) rfl

end
end Go.Rg

/- Small laws for ranges over functions: what a round keeps, labels' scopes, the wide fence.
   Conditions: those that each theorem names. -/
namespace Go.Rg
set_option maxRecDepth 100000
set_option linter.unusedVariables false
set_option linter.unusedSimpArgs false
open Go Go.RowKit

theorem wide_d {m : Nat} : Fence.wide.depth.isSome = true → 1 ≤ m := fun h => by simp [Fence.wide] at h
theorem wpIn_scope_wide {P : Program} {n : Nat} {Q : Exit → Act → World → Prop} {a : Act} {w : World} {c : Code} (h : c.wpIn Fence.wide n P (Exit.noGoto Q) a w) : (Code.scope c).wpIn Fence.wide n P Q a w :=
  wpIn_wide.2 (wp_scope_straight (wpIn_wide.1 h))

/-- What a round keeps: the blocks of M lie as they lay. -/
def Keeps (M : Nat → Prop) (W W' : World) : Prop := ∀ k, M k → W'.heap[k]? = W.heap[k]?
theorem Keeps.refl (M : Nat → Prop) (W : World) : Keeps M W W := fun _ _ => rfl
theorem Keeps.trans {M : Nat → Prop} {A B C : World} (h : Keeps M A B) (k : Keeps M B C) : Keeps M A C := fun j hj => (k j hj).trans (h j hj)
theorem Keeps.cell {M : Nat → Prop} {W W' : World} (h : Keeps M W W') {b : Nat} (hb : M b) (o : Nat) (s : Option _) : W'.cell? ⟨b, o, s⟩ = W.cell? ⟨b, o, s⟩ := World.cell?_of_block (w := W) (h b hb)
theorem Keeps.boxed {M : Nat → Prop} {W W' : World} (h : Keeps M W W') {b : Nat} (hb : M b) {T : TypeId} {v : Value} (hv : Boxed W b T v) : Boxed W' b T v := (h b hb).trans hv
theorem keeps_t {M : Nat → Prop} {A B C : World} (h : Keeps M A B) (k : Keeps M B C) : Keeps M A C := h.trans k
theorem keeps_b {M : Nat → Prop} {w : World} (hM : ∀ k, M k → k < w.heap.size) (W : World) (l : Nat) (o o' : Obj) (hl : w.heap.size ≤ l) (h : W.heap[l]? = some o) (_ : o.isCells = false) (_ : o.isWalk = false) : Keeps M W (W.putObj l o') :=
  fun k hk => (grownBy_putObj' W l o').block k (by have := (Array.getElem?_eq_some_iff.1 h).1; have := hM k hk; omega) (fun e => by have := hM k hk; have := Option.some.inj e; omega)
theorem Keeps.grown {M : Nat → Prop} {W W' : World} {row : Option Nat} (hg : W.grownBy W' row) (hM : ∀ k, M k → k < W.heap.size ∧ some k ≠ row) : Keeps M W W' :=
  fun k hk => hg.block k (hM k hk).1 (hM k hk).2
theorem Keeps.of_below {M : Nat → Prop} {B : Nat} {W W' : World} (h : Below B W W') (hM : ∀ k, M k → k < B) : Keeps M W W' := fun k hk => h.block k (hM k hk)
theorem Keeps.drew (M : Nat → Prop) (W : World) : Keeps M W W.drew := fun _ _ => rfl

/-- What a state says that speaks of blocks of cells, and of what lies below B. -/
structure Stays (B : Nat) (W W' : World) : Prop where
  os : W'.os = W.os
  tape : W'.tape = W.tape
  output : W'.output = W.output
  size : W.heap.size ≤ W'.heap.size
  cells : ∀ (k : Nat) (c : Array Value) (e : TypeId) (f : Nat × Nat), W.heap[k]? = some (Obj.cells c e f) → W'.heap[k]? = some (Obj.cells c e f)
  low : ∀ k : Nat, k < B → k < W.heap.size → W'.heap[k]? = W.heap[k]?

theorem ownFrom_of_stays {β : Type} {B : Nat} {I : β → World → Prop} (h : ∀ s W W', Stays B W W' → I s W → I s W') : OwnFrom B I := by
  intro s W W' row hs hg hr
  refine h s W W' ⟨hg.os, hg.tape, hg.output, hg.size, fun k c e f hk => ?_, fun k hk hk' => ?_⟩ hs
  · refine (hg.block k (Array.getElem?_eq_some_iff.1 hk).1 (fun e' => ?_)).trans hk
    obtain ⟨_, o, ho, hc⟩ := hr k e'.symm
    rw [hk] at ho; cases ho; cases hc
  · exact hg.block k hk' (fun e' => by have := (hr k e'.symm).1; omega)

theorem Stays.boxed {B : Nat} {W W' : World} (h : Stays B W W') {b : Nat} {T : TypeId} {v : Value} (hv : Boxed W b T v) : Boxed W' b T v := h.cells _ _ _ _ hv
theorem Stays.row {B : Nat} {W W' : World} (h : Stays B W W') {base : Nat} {e : TypeId} {size : Nat} {v : Value} {k : Nat} {xs : List Value} (hr : W.ownsRow base e size v k xs) : W'.ownsRow base e size v k xs := by
  rcases hr with ⟨h1, h2 | ⟨g, cap, cur, hv, hb, hg, hrest⟩⟩
  · exact ⟨h1, .inl h2⟩
  · exact ⟨h1, .inr ⟨g, cap, cur, hv, hb, h.cells _ _ _ _ hg, hrest⟩⟩
theorem Stays.below {B n₀ : Nat} {W0 W W' : World} (h : Stays B W W') (hb : Below n₀ W0 W) (h1 : n₀ ≤ B) (h2 : n₀ ≤ W0.heap.size) : Below n₀ W0 W' :=
  ⟨h.os.trans hb.os, h.tape.trans hb.tape, h.output.trans hb.output, Nat.le_trans hb.size h.size, fun k hk => (h.low k (by omega) (by have := hb.size; omega)).trans (hb.block k hk)⟩

theorem Stays.refl (B : Nat) (W : World) : Stays B W W := ⟨rfl, rfl, rfl, Nat.le_refl _, fun _ _ _ _ h => h, fun _ _ _ => rfl⟩
theorem Stays.trans {B : Nat} {X Y Z : World} (h : Stays B X Y) (k : Stays B Y Z) : Stays B X Z :=
  ⟨k.os.trans h.os, k.tape.trans h.tape, k.output.trans h.output, Nat.le_trans h.size k.size, fun j c e f hj => k.cells j c e f (h.cells j c e f hj), fun j hj hj' => (k.low j hj (Nat.lt_of_lt_of_le hj' h.size)).trans (h.low j hj hj')⟩
theorem Stays.drewN (B : Nat) (W : World) (n : Nat) : Stays B W (W.drewN n) := ⟨rfl, rfl, rfl, Nat.le_refl _, fun _ _ _ _ h => h, fun _ _ _ => rfl⟩
theorem Stays.putObj {B : Nat} {W : World} {l : Nat} {o : Obj} (o' : Obj) (hl : W.heap[l]? = some o) (hc : o.isCells = false) (hB : B ≤ l) : Stays B W (W.putObj l o') := by
  have hg := grownBy_putObj' W l o'
  refine ⟨hg.os, hg.tape, hg.output, hg.size, fun k c e f hk => ?_, fun k hk hk' => hg.block k hk' (fun e => by have := Option.some.inj e; omega)⟩
  refine (hg.block k (Array.getElem?_eq_some_iff.1 hk).1 (fun e => ?_)).trans hk
  obtain rfl := Option.some.inj e
  rw [hk] at hl; cases hl; cases hc
theorem row_base {w : World} {base base' : Nat} {e : TypeId} {size : Nat} {v : Value} {n : Nat} {xs : List Value} (h : w.ownsRow base e size v n xs) (hb : base' ≤ base) : w.ownsRow base' e size v n xs := by
  rcases h with ⟨h1, h2 | ⟨g, cap, cur, hv, hg, hrest⟩⟩
  · exact ⟨h1, .inl h2⟩
  · exact ⟨h1, .inr ⟨g, cap, cur, hv, by omega, hrest⟩⟩
theorem row_shape {w : World} {base : Nat} {e : TypeId} {size : Nat} {v : Value} {n : Nat} {xs : List Value} (h : w.ownsRow base e size v n xs) : ∃ p c, v = .slice p n c := by
  rcases h.2 with ⟨rfl, rfl⟩ | ⟨g, cap, _, rfl, _⟩
  · exact ⟨_, _, rfl⟩
  · exact ⟨_, _, rfl⟩
theorem cell_of_lit {w : World} {g : Nat} {l : List Value} {e : TypeId} (h : w.heap[g]? = some (.cells l.toArray e (0, 0))) : ∀ j u, l[j]? = some u → w.cell? ((⟨g, 0, none⟩ : Addr).add j) = some u := by
  intro j u hu
  rw [Addr.add_lit]
  simp [World.cell?, h, hu]

/-- The built-ins max and min at two integers, in one piece. -/
theorem max2_int (k k' : IntKind) (x y : Int) : Builtin.max2 (.int k x) (.int k' y) = pure (.int k (max x y)) := by
  simp only [Builtin.max2, gt_iff_lt]
  by_cases h : x < y
  · rw [if_pos h, Int.max_eq_right (by omega)]
  · rw [if_neg h, Int.max_eq_left (by omega)]
theorem min2_int (k k' : IntKind) (x y : Int) : Builtin.min2 (.int k x) (.int k' y) = pure (.int k (min x y)) := by
  simp only [Builtin.min2]
  by_cases h : y < x
  · rw [if_pos h, Int.min_eq_right (by omega)]
  · rw [if_neg h, Int.min_eq_left (by omega)]
theorem max_two (ats : Array TypeId) (ty : TypeId) (a b : Value) : Builtin.max_ ats ty #[a, b] = (Builtin.max2 a b >>= fun s => pure s) := by simp only [Builtin.max_, List.foldlM_cons, List.foldlM_nil]
theorem min_two (ats : Array TypeId) (ty : TypeId) (a b : Value) : Builtin.min_ ats ty #[a, b] = (Builtin.min2 a b >>= fun s => pure s) := by simp only [Builtin.min_, List.foldlM_cons, List.foldlM_nil]

theorem wf_i64 {n : Int} (h : (Lit.int .i64 n).wf = true) : -9223372036854775808 ≤ n ∧ n ≤ 9223372036854775807 := by
  have hmin : IntKind.i64.min = -9223372036854775808 := rfl
  have hmax : IntKind.i64.max = 9223372036854775807 := rfl
  have h2 : IntKind.i64.min ≤ n ∧ n ≤ IntKind.i64.max := by simpa [Lit.wf] using h
  rw [hmin, hmax] at h2
  exact h2

end Go.Rg

/- Arithmetic of 64 bits without a sign, said with Lean's UInt64.
   Conditions: those that each theorem names. -/
namespace Go.Rg
set_option maxRecDepth 100000
set_option linter.unusedVariables false
set_option linter.unusedSimpArgs false
open Go Go.RowKit

theorem wrap_u64 (n : Int) : IntKind.u64.wrap n = n % 18446744073709551616 := by simp [IntKind.wrap, IntKind.bits, IntKind.signed]
theorem wraps_u64 (n : Int) (h₀ : 0 ≤ n) (h₁ : n < 2 ^ 64) : IntKind.u64.wrap n = n := by rw [wrap_u64]; omega
/-- The number of an unsigned word: closed to simp. -/
def U (u : UInt64) : Int := (u.toNat : Int)
theorem U_nonneg (u : UInt64) : 0 ≤ U u := Int.natCast_nonneg _
theorem U_lt (u : UInt64) : U u < 18446744073709551616 := by have := u.toNat_lt; unfold U; omega
theorem U_inj {a b : UInt64} (h : U a = U b) : a = b := UInt64.toNat_inj.1 (by unfold U at h; omega)
theorem U_eq (a b : UInt64) : (U a == U b) = decide (a = b) := by
  by_cases h : a = b
  · subst h; simp
  · rw [decide_eq_false h, beq_eq_false_iff_ne]; exact fun e => h (U_inj e)
theorem q_and (a b : UInt64) : bits .and .u64 (U a) (U b) = U (a &&& b) := by
  unfold U
  rw [UInt64.toNat_and]; exact (bits_nat .u64 64 (by decide) wraps_u64 a.toNat b.toNat a.toNat_lt b.toNat_lt).1
theorem q_or (a b : UInt64) : bits .or .u64 (U a) (U b) = U (a ||| b) := by
  unfold U
  rw [UInt64.toNat_or]; exact (bits_nat .u64 64 (by decide) wraps_u64 a.toNat b.toNat a.toNat_lt b.toNat_lt).2
theorem q_xor (a b : UInt64) : bits .xor .u64 (U a) (U b) = U (a ^^^ b) := by
  unfold U
  have ha : a.toNat % 2 ^ 64 = a.toNat := Nat.mod_eq_of_lt a.toNat_lt
  have hb : b.toNat % 2 ^ 64 = b.toNat := Nat.mod_eq_of_lt b.toNat_lt
  have hx : a.toNat ^^^ b.toNat < 2 ^ 64 := Nat.xor_lt_two_pow a.toNat_lt b.toNat_lt
  have e : IntKind.u64.bits = 64 := rfl
  rw [UInt64.toNat_xor]
  simp only [bits, e, BitVec.ofInt_natCast, BitVec.toNat_xor, BitVec.toNat_ofNat, ha, hb]
  exact wraps_u64 _ (Int.natCast_nonneg _) (by exact_mod_cast hx)
theorem q_add' (a b : UInt64) : (U a + U b) % 18446744073709551616 = U (a + b) := by
  unfold U
  rw [UInt64.toNat_add]; omega
theorem q_add (a b : UInt64) : IntKind.u64.wrap (U a + U b) = U (a + b) := by rw [wrap_u64, q_add']
theorem q_sub' (a b : UInt64) : (U a - U b) % 18446744073709551616 = U (a - b) := by
  unfold U
  have := a.toNat_lt
  have := b.toNat_lt
  rw [UInt64.toNat_sub]; omega
theorem q_mul' (a b : UInt64) : (U a * U b) % 18446744073709551616 = U (a * b) := by
  unfold U
  rw [UInt64.toNat_mul, ← Int.natCast_mul]; omega
theorem q_shl' (x : UInt64) (k : Nat) (hk : k < 64) : (U x * 2 ^ k) % 18446744073709551616 = U (x <<< k.toUInt64) := by
  unfold U
  rw [UInt64.toNat_shiftLeft, Nat.shiftLeft_eq]
  have : k.toUInt64.toNat % 64 = k := by simp; omega
  rw [this]
  have e : ((x.toNat : Int) * 2 ^ k) = ((x.toNat * 2 ^ k : Nat) : Int) := by simp
  rw [e]
  omega
theorem q_shl (x : UInt64) (k : Nat) (hk : k < 64) : IntKind.u64.wrap (U x * 2 ^ k) = U (x <<< k.toUInt64) := by rw [wrap_u64, q_shl' x k hk]
theorem q_shr (x : UInt64) (k : Nat) (hk : k < 64) : (U x / 2 ^ k) = U (x >>> k.toUInt64) := by
  unfold U
  rw [UInt64.toNat_shiftRight, Nat.shiftRight_eq_div_pow]
  have : k.toUInt64.toNat % 64 = k := by simp; omega
  rw [this, Int.natCast_ediv]
  simp

end Go.Rg

/- A region that draws its order and whose calls make blocks of their own: one walk of the text's order serves every order.
   Conditions: every operation yields one value in every world that grew out of the first; none writes to an old block. -/
namespace Go.Rg
set_option maxRecDepth 100000
set_option linter.unusedVariables false
set_option linter.unusedSimpArgs false
open Go Go.RowKit

theorem calls_calm {P : Program} {f : FuncId} {args : Array Value} {w X : World} {v : Value} (hX : Below w.heap.size w X)
    (h : Calls P f args X fun e w' => e = .returned v ∧ Below X.heap.size X w') : Calls P f args X fun e w' => e = .returned v ∧ Below w.heap.size w w' :=
  h.mono fun _ _ ⟨he, hB⟩ => ⟨he, hX.trans (hB.mono hX.size)⟩
theorem calls_calm_same {P : Program} {f : FuncId} {args : Array Value} {w X : World} {v : Value} (hX : Below w.heap.size w X)
    (h : Calls P f args X fun e w' => e = .returned v ∧ X = w') : Calls P f args X fun e w' => e = .returned v ∧ Below w.heap.size w w' :=
  h.mono fun _ _ ⟨he, hB⟩ => ⟨he, hB ▸ hX⟩

theorem wp_region_calm_lit {P : Program} {id : Nat} {Q : Exit → Act → World → Prop} {a : Act} {w : World} {l : List Oper} (hm : P.follows .mixedOrders = true) (hB : Region.lexB .any l.toArray = true)
    (h : wpQuiet P l.toArray (fun X => Below w.heap.size w X) (fun a' => ∀ X, Below w.heap.size w X → Q .normal a' X) l a) : (Code.region id l.toArray true).wp P Q a w :=
  wp_region_quiet (C := fun X => Below w.heap.size w X) hm hB (Below.drew (Below.refl _ _)) (by simpa using h)

theorem calm_want {P : Program} {ops : Array Oper} {C : World → Prop} {Q : Act → Prop} {a : Act} {o : Oper} {rest : List Oper} (v : Value) (h : Region.wanted o (yielded ops a.tmps) = true) (h1 : ∀ X, C X → o.quietAt P a C X v)
    (h2 : ∀ K : Act → Prop, (∀ a, wpQuiet P ops C Q rest a → K a) → K (a.put o.dst v)) : wpQuiet P ops C Q (o :: rest) a := by
  unfold wpQuiet
  rw [if_pos h]
  exact ⟨v, h1, h2 _ (fun _ h => h)⟩
theorem calm_skip {P : Program} {ops : Array Oper} {C : World → Prop} {Q : Act → Prop} {a : Act} {o : Oper} {rest : List Oper} (h : Region.wanted o (yielded ops a.tmps) = false)
    (h2 : ∀ K : Act → Prop, (∀ a, wpQuiet P ops C Q rest a → K a) → K (a.put o.dst undef)) : wpQuiet P ops C Q (o :: rest) a := by
  unfold wpQuiet
  rw [if_neg (by simp [h])]
  exact h2 _ (fun _ h => h)

end Go.Rg

/- A region that draws its order: its first n operations yield one value each in every world of a class, and the rest waits for them, in its own order.
   Conditions: those that the theorem names. -/
namespace Go.Rg
set_option maxRecDepth 100000
set_option linter.unusedVariables false
set_option linter.unusedSimpArgs false
open Go Go.RowKit

section
variable {P : Program} {ops : Array Oper} {md : Region.Mode} {C : World → Prop}

def qAnyL (P : Program) (md : Region.Mode) (ops : Array Oper) (C : World → Prop) (n : Nat) (L : Array Bool → Act → Prop) : Nat → Array Bool → Act → Prop
  | 0, listed, a => L listed a
  | f + 1, listed, a =>
    Region.ready md ops listed ≠ [] ∧ ∀ i ∈ Region.ready md ops listed, i < n ∧ qOp P ops C i (qAnyL P md ops C n L f (listed.setIfInBounds i true)) a

theorem any_of_head {n g : Nat} {L : Array Bool → Act → Prop} {Q' : Exit → Act → World → Prop} (hL : ∀ listed a w, C w → L listed a → wpAny P md ops Q' g listed a w) :
    ∀ (f : Nat) (listed : Array Bool) (a : Act) (w : World), C w → qAnyL P md ops C n L f listed a → wpAny P md ops Q' (f + g) listed a w
  | 0, listed, a, w, hw, h => by rw [Nat.zero_add]; exact hL _ _ _ hw h
  | f + 1, listed, a, w, hw, h => by
    rw [show f + 1 + g = (f + g) + 1 by omega]
    exact ⟨fun h0 => absurd h0 h.1, fun i hi => wpOp_of_qOp hw (fun a' w' hw' h' => any_of_head hL f _ a' w' hw' h') (h.2 i hi).2⟩

theorem qAnyL_first {n i : Nat} {oi : Oper} {v : Value} {L : Array Bool → Act → Prop} (hi : ops[i]? = some oi) (hsel : ∀ (j : Nat) (o : Oper) cs b, ops[j]? = some o → o.op ≠ .select cs b)
    (hs : Region.sinkB md ops n = true) (hc : Region.chainB md ops n = true) (hn : n < ops.size) (hin : i < n)
    (hdone : ∀ listed a, L listed a → ∀ j ∈ Region.ready md ops listed, n ≤ j) :
    ∀ (f : Nat) (listed : Array Bool) (a : Act), HeadInv md ops n listed →
      (∀ j oj, ops[j]? = some oj → j ≠ i → listed.getD j true = false → (∀ e ∈ oj.after, Region.binds md e = true → e.on ≠ i) → oi.apart ops oj = true) →
      i ∈ Region.ready md ops listed → YieldsIn P ops C oi v a →
      qAnyL P md ops C n L f (listed.setIfInBounds i true) (a.put oi.dst v) → qAnyL P md ops C n L (f + 1) listed a := by
  intro f
  induction f with
  | zero =>
    intro listed a inv _ hr hy H
    have hun := (mem_ready.1 hr).1
    refine ⟨fun h => (by rw [h] at hr; cases hr), fun j hj => ?_⟩
    have hjn : j < n := by
      rcases Nat.lt_or_ge j n with h | h
      · exact h
      · exact absurd hj (tail_waits hs hc hn inv _ i rfl hin hun j h)
    refine ⟨hjn, ?_⟩
    by_cases hji : j = i
    · subst hji; exact hy.qOp hi H
    · have := hdone _ _ H j (ready_mono hj hji)
      omega
  | succ f ih =>
    intro listed a inv hfree hr hy H
    have hun := (mem_ready.1 hr).1
    refine ⟨fun h => (by rw [h] at hr; cases hr), fun j hj => ?_⟩
    have hjn : j < n := by
      rcases Nat.lt_or_ge j n with h | h
      · exact h
      · exact absurd hj (tail_waits hs hc hn inv _ i rfl hin hun j h)
    refine ⟨hjn, ?_⟩
    by_cases hji : j = i
    · subst hji; exact hy.qOp hi H
    · have h1 := (H.2 j (ready_mono hj hji)).2
      obtain ⟨hjun, oj, hoj, hall⟩ := mem_ready.1 hj
      have hnot : ∀ e ∈ oj.after, Region.binds md e = true → e.on ≠ i := fun e he hb heq => by
        have h1 := hall e he hb
        rw [heq, getD_both hun] at h1
        cases h1
      have h2 := qOp_put hoj (hfree j oj hoj hji hjun hnot) (fun cs b => hsel i oi cs b hi) (fun cs b => hsel j oj cs b hoj) hy h1
      have hfree' : ∀ k ok, ops[k]? = some ok → k ≠ i → (listed.setIfInBounds j true).getD k true = false →
          (∀ e ∈ ok.after, Region.binds md e = true → e.on ≠ i) → oi.apart ops ok = true := fun k ok hk hki hun hno => by
        refine hfree k ok hk hki ?_ hno
        by_cases hjk : j = k
        · subst hjk; exact hjun
        · rw [getD_set_ne true hjk] at hun; exact hun
      refine qOp_mono (fun a' h3 => ih (listed.setIfInBounds j true) a' (inv.set hj hjn) hfree' (ready_mono hr (Ne.symm hji)) h3.1 ?_) h2
      rw [Array.setIfInBounds_comm _ _ hji]
      exact h3.2

theorem qAnyL_lex {n g : Nat} {Lq : Act → Prop} (hsel : Region.noSelect ops = true) (hs : Region.sinkB md ops n = true) (hc : Region.chainB md ops n = true) (hn : n < ops.size) :
    ∀ (l : List Oper) (k : Nat) (listed : Array Bool) (a : Act), (∀ j, j < l.length → l[j]? = ops[k + j]?) → k + l.length = n → HeadInv md ops n listed →
    Region.lexHead md ops g l.length k listed = true → wpQuiet P ops C Lq l a →
    qAnyL P md ops C n (fun listed' a' => Region.seqB md ops g n listed' = true ∧ Lq a') l.length listed a
  | [], k, listed, a, _, hk, _, hB, h => by
    have : k = n := by simpa using hk
    subst this
    exact ⟨by simpa [Region.lexHead] using hB, h⟩
  | o :: l, k, listed, a, hl, hk, inv, hB, h => by
    have h0 : ops[k]? = some o := by simpa using (hl 0 (by simp)).symm
    simp only [List.length_cons, Region.lexHead, Bool.and_eq_true] at hB
    obtain ⟨⟨hr, hf⟩, hB'⟩ := hB
    have hkn : k < n := by simp only [List.length_cons] at hk; omega
    have hr' : k ∈ Region.ready md ops listed := by simpa using hr
    have hst : qOp P ops C k (wpQuiet P ops C Lq l) a := by unfold qOp; simp only [h0]; exact h
    obtain ⟨v, hy, hK⟩ := yieldsIn_of_qOp h0 hst
    exact qAnyL_first h0 (Region.noSelect_spec hsel) hs hc hn hkn (fun listed' a' hL => seqB_ready hL.1) l.length listed a inv (Region.free_spec h0 hf) hr' hy
      (qAnyL_lex hsel hs hc hn l (k + 1) _ _ (fun j hj => by have := hl (j + 1) (by simp; omega); simpa [Nat.add_assoc, Nat.add_comm 1 j] using this) (by simp only [List.length_cons] at hk; omega) (inv.set hr' hkn) hB' hK)

/-- **THE LAW.** -/
theorem wp_region_tail {id : Nat} {Q : Exit → Act → World → Prop} {a : Act} {w : World} {l : List Oper} (n : Nat) (hm : P.follows .mixedOrders = true) (hB : Region.lexTailB .any l.toArray n = true) (hC : C w.drew)
    (h : wpQuiet P l.toArray C (fun a' => ∀ w', C w' → wpList P l.toArray Q (l.drop n) a' w') (l.take n) a) : (Code.region id l.toArray true).wp P Q a w := by
  simp only [Region.lexTailB, Bool.and_eq_true, decide_eq_true_eq] at hB
  obtain ⟨⟨⟨⟨hsel, hn⟩, hs⟩, hc⟩, hlex⟩ := hB
  have hn' : n < l.length := by simpa using hn
  have htl : (l.take n).length = n := by simp; omega
  have hdl : (l.drop n).length = l.toArray.size - n := by simp
  have inv0 : HeadInv .any l.toArray n (Array.replicate l.toArray.size false) :=
    ⟨by simp, fun j oj _ hl => (by rw [getD_replicate_false] at hl; cases hl), fun t _ ht => getD_in (by simpa using ht) (getD_replicate_false _ _)⟩
  have H := qAnyL_lex (C := C) (md := .any) (g := l.toArray.size - n) hsel hs hc hn (l.take n) 0 _ a (fun j hj => by
    have hj' : j < n := by rw [htl] at hj; exact hj
    simp [hj']) (by simpa using htl) inv0 (by rw [htl]; exact hlex) h
  refine wp_region_any hm ?_
  have h2 := any_of_head (C := C) (Q' := Q) (g := l.toArray.size - n) (fun listed' a' w' hw' hL => ?_) _ _ _ w.drew hC H
  · rw [htl] at h2
    have e : n + (l.toArray.size - n) = l.toArray.size := by simp; omega
    rw [e] at h2
    exact h2
  · have := wpAny_of_seq (P := P) (md := .any) (Q' := Q) (l.drop n) n listed' a' w' (fun j => by simp) (by rw [hdl]; exact hL.1) (hL.2 w' hw')
    rwa [hdl] at this

theorem wp_region_calm_tail {id : Nat} {Q : Exit → Act → World → Prop} {a : Act} {w : World} {l : List Oper} (n : Nat) (hm : P.follows .mixedOrders = true) (hB : Region.lexTailB .any l.toArray n = true)
    (h : wpQuiet P l.toArray (fun X => Below w.heap.size w X) (fun a' => ∀ w', Below w.heap.size w w' → wpList P l.toArray Q (l.drop n) a' w') (l.take n) a) : (Code.region id l.toArray true).wp P Q a w :=
  wp_region_tail (C := fun X => Below w.heap.size w X) n hm hB (Below.drew (Below.refl _ _)) h
end

end Go.Rg

/- A law for a region that draws its order, in plain code: one assertion for each operation, kept by all the others; the last operations may be a chain of their own.
   Conditions: each operation's temporaries come of the operations named ahead of it; the assertions are kept by the relation R. -/
namespace Go.Rg
set_option maxRecDepth 100000
set_option linter.unusedVariables false
set_option linter.unusedSimpArgs false
open Go Go.RowKit
set_option linter.unusedVariables false

section
variable {P : Program}

/-- One operation, moved to another frame in which it sees the same. -/
theorem one_move_wp {ops : Array Oper} {i : Nat} {o : Oper} (ho : ops[i]? = some o) {a b : Act} {w : World} {K : Value → World → Prop} {Q : Exit → Act → World → Prop} {K' : Act → World → Prop}
    (hsz : a.tmps.size = b.tmps.size) (he : execOp b.eval o = execOp a.eval o) (hw : Region.wanted o (yielded ops b.tmps) = Region.wanted o (yielded ops a.tmps))
    (h : wpList P ops (Post a o.dst K) [o] a w) (hk : ∀ v w', K v w' → K' (b.put o.dst v) w') : wpOp P ops Q i K' b w := by
  have lift : ∀ v w', (∃ u, a.put o.dst v = a.put o.dst u ∧ K u w') → K' (b.put o.dst v) w' := by
    rintro v w' ⟨u, e, hu⟩
    rw [put_move hsz e]
    exact hk u w' hu
  unfold wpOp
  simp only [ho]
  simp only [wpList] at h
  rw [hw]
  by_cases hwt : Region.wanted o (yielded ops a.tmps) = true
  · rw [if_pos hwt] at h ⊢
    rcases h with h | h
    · refine .inl ?_
      unfold Oper.wp at h ⊢
      rw [he]
      generalize (execOp a.eval o).run P w = r at h
      cases r with
      | ok x w' =>
        cases x with
        | value v => exact lift v w' h
        | skip => exact lift undef w' h
        | enter f args =>
          refine Calls.mono h ?_
          intro e w'' he'
          cases e with
          | returned v => exact lift v w'' he'
          | panicked c => exact he'.elim
          | outgrown => exact (notLets _ _ _ he').elim
        | row row args => exact Rows.mono h (fun v w'' he' => lift v w'' he')
        | defer d =>
          exfalso
          obtain ⟨v, e, _⟩ := h
          have := congrArg Act.defers e
          cases hdst : o.dst <;> simp [Act.put, hdst] at this
        | _ => exact h.elim
      | halt x w' => cases x <;> exact h.elim
    · exact (notLets _ _ _ h.2).elim
  · rw [if_neg hwt] at h ⊢
    exact lift undef w h

/-- **THE LAW.** -/
theorem region_wp {id : Nat} {ops : Array Oper} {a : Act} {w : World} {Q : Exit → Act → World → Prop} (n : Nat) (hn : n ≤ ops.size) (pre : List (List Nat)) (A : Nat → (Nat → Value) → World → Prop) (B : Nat → World → Prop) (R : Nat → World → World → Prop)
    (hm : P.follows .mixedOrders = true) (hc : okPre ops pre = true)
    (hrd : ∀ listed, HeadInv .any ops n listed → ∀ i, i < n → listed.getD i true = false → ∀ t, n ≤ t → t ∉ Region.ready .any ops listed)
    (hdep : ∀ i vs us X, i < n → (∀ j, j = i ∨ j ∈ pre.getD i [] → vs j = us j) → A i vs X → A i us X)
    (hB0 : ∀ i, i < n → B i w.drew)
    (hstA : ∀ i k vs X Y, i < n → k < n → k ≠ i → k ∉ pre.getD i [] → B k X → R k X Y → A i vs X → A i vs Y)
    (hstB : ∀ i k X Y, i < n → k < n → k ≠ i → i ∉ pre.getD k [] → B k X → R k X Y → B i X → B i Y)
    (hop : ∀ (i : Nat) (vs : Nat → Value) (X : World) (o : Oper), i < n → ops[i]? = some o → B i X → (∀ j ∈ pre.getD i [], A j vs X) →
      wpList P ops (Post (putL ops vs (pre.getD i []) a) o.dst (fun v Y => R i X Y ∧ A i (upd vs i v) Y)) [o] (putL ops vs (pre.getD i []) a) X)
    (hend : ∀ (vs : Nat → Value) (X : World) (listed : Array Bool), listed.size = ops.size → (∀ j, listed.getD j false = true ↔ j < n) → (∀ i < n, A i vs X) → wpAny P .any ops Q (ops.size - n) listed (putL ops vs (List.range n) a) X) :
    (Code.region id ops true).wp P Q a w := by
  refine wp_region_any hm ?_
  change wpAny P .any ops Q ops.size (Array.replicate ops.size false) a w.drew
  have main : ∀ (fuel : Nat) (listed : Array Bool) (vs : Nat → Value) (X : World) (b : Act) (ord : List Nat), HeadInv .any ops n listed →
      ord.Nodup → (∀ j, j ∈ ord ↔ listed.getD j false = true) → (∀ j ∈ ord, j < n) → fuel + ord.length = n →
      (∀ j ∈ ord, ∀ k ∈ pre.getD j [], k ∈ ord) → (∀ j ∈ ord, A j vs X) → (∀ j, j < n → j ∉ ord → B j X) → b = putL ops vs ord a → wpAny P .any ops Q (fuel + (ops.size - n)) listed b X := by
    intro fuel
    induction fuel with
    | zero =>
      intro listed vs X b ord inv hnd hl hlt hlen hcl hA hB hb
      have hperm : ord.Perm (List.range n) := by
        refine (List.perm_ext_iff_of_nodup hnd List.nodup_range).2 (fun j => ⟨fun hj => List.mem_range.2 (hlt j hj), fun hj => Classical.byContradiction fun hno => ?_⟩)
        have := List.Nodup.length_le_of_subset (l₁ := j :: ord) (l₂ := List.range n) (List.nodup_cons.2 ⟨hno, hnd⟩) (fun k hk => by
          rcases List.mem_cons.1 hk with rfl | hk
          · exact hj
          · exact List.mem_range.2 (hlt k hk))
        simp at this
        omega
      rw [hb, putL_perm hc vs hperm, Nat.zero_add]
      exact hend vs X listed inv.size (fun j => by rw [← hl, hperm.mem_iff, List.mem_range]) (fun j hj => hA j (hperm.mem_iff.2 (List.mem_range.2 hj)))
    | succ fuel ih =>
      intro listed vs X b ord inv hnd hl hlt hlen hcl hA hB hb
      have hs := inv.size
      have hgd : ∀ j, j < ops.size → listed.getD j true = listed.getD j false := fun j hj => by
        have hm : j < listed.size := by omega
        simp [Array.getD, hm]
      have hex : ∃ j, j < n ∧ j ∉ ord := by
        refine Classical.byContradiction fun hno => ?_
        have : List.range n ⊆ ord := fun j hj => Classical.byContradiction fun hj' => hno ⟨j, List.mem_range.1 hj, hj'⟩
        have := List.Nodup.length_le_of_subset List.nodup_range this
        simp at this
        omega
      have hun : ∀ j, j < n → j ∉ ord → listed.getD j true = false := fun j hj hj' => by
        rw [hgd j (by omega)]
        cases h : listed.getD j false with
        | false => rfl
        | true => exact absurd ((hl j).2 h) hj'
      have hrdy : ∀ t ∈ Region.ready .any ops listed, t < n := by
        intro t ht
        obtain ⟨j, hj, hj'⟩ := hex
        rcases Nat.lt_or_ge t n with h | h
        · exact h
        · exact absurd ht (hrd listed inv j hj (hun j hj hj') t h)
      rw [show fuel + 1 + (ops.size - n) = (fuel + (ops.size - n)) + 1 by omega]
      refine ⟨fun hnil => ?_, fun i hi => ?_⟩
      · exfalso
        have hmin : ∀ m, (∃ j, j < m ∧ j < n ∧ j ∉ ord) → ∃ j, j < n ∧ j ∉ ord ∧ ∀ k < j, k ∈ ord := by
          intro m
          induction m with
          | zero => rintro ⟨j, h, _⟩; omega
          | succ m ihm =>
            rintro ⟨j, h1, h2, h3⟩
            by_cases hs' : ∃ k, k < m ∧ k < n ∧ k ∉ ord
            · exact ihm hs'
            · refine ⟨j, h2, h3, fun k hk => Classical.byContradiction fun hk' => hs' ⟨k, by omega, by omega, hk'⟩⟩
        obtain ⟨j0, h0, h0'⟩ := hex
        obtain ⟨j, hj, hj', hall⟩ := hmin (j0 + 1) ⟨j0, by omega, h0, h0'⟩
        obtain ⟨o, ho⟩ : ∃ o, ops[j]? = some o := ⟨_, Array.getElem?_eq_getElem (by omega)⟩
        have hmem : j ∈ Region.ready .any ops listed := by
          unfold Region.ready
          rw [List.mem_filter]
          refine ⟨List.mem_range.2 (by omega), ?_⟩
          have hn := hun j hj hj'
          rw [hn, ho]
          simp only [Bool.not_false, Bool.true_and, Option.map_some, Option.getD_some, Array.all_eq_true']
          intro e he
          cases hbe : Region.binds .any e with
          | false => rfl
          | true =>
            have := (pre_facts hc ho).2.2.2.1 e he hbe
            simp only [Bool.not_true, Bool.false_or]
            exact (hl _).1 (hall _ this)
        rw [hnil] at hmem
        cases hmem
      · have hin := hrdy i hi
        have hir := hi
        unfold Region.ready at hi
        rw [List.mem_filter] at hi
        obtain ⟨_, hi⟩ := hi
        obtain ⟨o, ho⟩ : ∃ o, ops[i]? = some o := ⟨_, Array.getElem?_eq_getElem (by omega)⟩
        rw [ho] at hi
        simp only [Option.map_some, Option.getD_some, Bool.and_eq_true, Bool.not_eq_true', Array.all_eq_true'] at hi
        obtain ⟨hnl, hedge⟩ := hi
        have hni : i ∉ ord := fun h => by
          have := (hl i).1 h
          rw [hgd i (by omega)] at hnl
          rw [hnl] at this
          cases this
        obtain ⟨p1, p2, p3, p4, p5, p6⟩ := pre_facts hc ho
        have hpre : ∀ j ∈ pre.getD i [], j ∈ ord := fun j hj => by
          obtain ⟨_, e, he, hbe, hx⟩ := p1 j hj
          have hon : e.on ∈ ord := (hl _).2 (by have := hedge e he; rw [hbe] at this; simpa using this)
          rcases hx with rfl | hx
          · exact hon
          · exact hcl _ hon _ hx
        let rest := ord.filter fun j => !(pre.getD i []).contains j
        have hperm : ord.Perm (pre.getD i [] ++ rest) := by
          have h1 : (ord.filter fun j => (pre.getD i []).contains j).Perm (pre.getD i []) := by
            refine (List.perm_ext_iff_of_nodup (hnd.filter _) p3).2 (fun j => ?_)
            rw [List.mem_filter]
            constructor
            · intro h; simpa using h.2
            · intro h; exact ⟨hpre j h, by simpa using h⟩
          refine (List.filter_append_perm (fun j => (pre.getD i []).contains j) ord).symm.trans ?_
          exact h1.append_right _
        have hb' : b = putL ops vs rest (putL ops vs (pre.getD i []) a) := by rw [hb, putL_perm hc vs hperm, putL_append]
        have hsame := same_putL (ops := ops) o p5 vs rest (fun j hj d hd hl' => by
          have hj2 := List.mem_filter.1 hj
          have hji : j ≠ i := fun e => hni (e ▸ hj2.1)
          rcases p2 j d hji hd hl' with this | this
          · have h3 := hj2.2
            rw [List.contains_iff_mem.2 this] at h3
            cases h3
          · exact hni (hcl j hj2.1 i this)) (putL ops vs (pre.getD i []) a)
        rw [← hb'] at hsame
        refine one_move_wp ho (a := putL ops vs (pre.getD i []) a) (K := fun v Y => R i X Y ∧ A i (upd vs i v) Y) (by rw [hb', putL_size, putL_size, putL_size]) hsame.1 hsame.2 (hop i vs X o hin ho (hB i hin hni) (fun j hj => hA j (hpre j hj))) ?_
        rintro v Y ⟨hXY, hAi⟩
        have hus : ∀ j, j ≠ i → upd vs i v j = vs j := fun j hj => upd_ne _ _ _ hj
        have hnpre : ∀ j ∈ ord, i ∉ pre.getD j [] := fun j hj h => hni (hcl j hj i h)
        refine ih (listed.setIfInBounds i true) (upd vs i v) Y (b.put o.dst v) (ord ++ [i]) (inv.set hir hin) ?_ ?_ ?_ (by simp; omega) ?_ ?_ ?_ ?_
        · rw [List.nodup_append]
          exact ⟨hnd, by simp, fun x hx y hy => by simp at hy; subst hy; exact fun e => hni (e ▸ hx)⟩
        · intro j
          by_cases hji : j = i
          · subst hji; simp [Array.getD, hs, show j < ops.size by omega]
          · have : (listed.setIfInBounds i true).getD j false = listed.getD j false := by
              have hij : i ≠ j := fun e => hji e.symm
              by_cases hm : j < listed.size
              · simp [Array.getD, hm, hij]
              · simp [Array.getD, hm]
            rw [this]
            simp [hji, hl j]
        · intro j hj
          rcases List.mem_append.1 hj with h | h
          · exact hlt j h
          · simp at h; subst h; exact hin
        · intro j hj k hk
          rcases List.mem_append.1 hj with h | h
          · exact List.mem_append_left _ (hcl j h k hk)
          · simp at h; subst h; exact List.mem_append_left _ (hpre k hk)
        · intro j hj
          rcases List.mem_append.1 hj with h | h
          · have hji : j ≠ i := fun e => hni (e ▸ h)
            refine hdep j vs _ Y (hlt j h) (fun k hk => (hus k ?_).symm) (hstA j i vs X Y (hlt j h) hin (fun e => hji e.symm) (hnpre j h) (hB i hin hni) hXY (hA j h))
            rcases hk with rfl | hk
            · exact hji
            · exact fun e => hnpre j h (e ▸ hk)
          · simp at h; subst h; exact hAi
        · intro j hj hjo
          have hj1 : j ∉ ord := fun h => hjo (List.mem_append_left _ h)
          have hj2 : j ≠ i := fun e => hjo (by simp [e])
          exact hstB j i X Y hj hin (fun e => hj2 e.symm) (fun h => hj1 (hpre j h)) (hB i hin hni) hXY (hB j hj hj1)
        · rw [putL_append, putL_congr ops (us := vs) (L := ord) (fun j hj => hus j (fun e => hni (e ▸ hj))), ← hb]
          simp only [putL, List.foldl_cons, List.foldl_nil, upd_self]
          unfold dstOf
          rw [ho]
          rfl
  have inv0 : HeadInv .any ops n (Array.replicate ops.size false) :=
    ⟨by simp, fun j oj _ hl => (by rw [getD_replicate_false] at hl; cases hl), fun t _ ht => getD_in (by simpa using ht) (getD_replicate_false _ _)⟩
  have := main n (Array.replicate ops.size false) (fun _ => undef) w.drew a [] inv0 List.nodup_nil (fun j => by
    rw [getD_replicate_false]; simp) (fun j hj => by cases hj) (by simp) (fun j hj => by cases hj) (fun j hj => by cases hj) (fun j hj _ => hB0 j hj) rfl
  rwa [show n + (ops.size - n) = ops.size by omega] at this

/-- No tail. -/
theorem ready_all {ops : Array Oper} : ∀ listed, HeadInv .any ops ops.size listed → ∀ i, i < ops.size → listed.getD i true = false → ∀ t, ops.size ≤ t → t ∉ Region.ready .any ops listed := by
  intro listed _ i _ _ t ht hr
  obtain ⟨_, o, ho, _⟩ := mem_ready.1 hr
  have := (Array.getElem?_eq_some_iff.1 ho).1
  omega

theorem wpList_mono_post {ops : Array Oper} {o : Oper} {a : Act} {w : World} {K K' : Value → World → Prop} (hk : ∀ v w', K v w' → K' v w')
    (h : wpList P ops (Post a o.dst K) [o] a w) : wpList P ops (Post a o.dst K') [o] a w := by
  have lift : ∀ b w', wpList P ops (Post a o.dst K) [] b w' → wpList P ops (Post a o.dst K') [] b w' := fun b w' ⟨v, e, hv⟩ => ⟨v, e, hk v w' hv⟩
  simp only [wpList] at h ⊢
  by_cases hwt : Region.wanted o (yielded ops a.tmps) = true
  · rw [if_pos hwt] at h ⊢
    rcases h with h | h
    · refine .inl ?_
      unfold Oper.wp at h ⊢
      generalize (execOp a.eval o).run P w = r at h
      cases r with
      | ok x w' =>
        cases x with
        | value v => exact lift _ w' h
        | skip => exact lift _ w' h
        | enter f args =>
          refine Calls.mono h ?_
          intro e w'' he'
          cases e with
          | returned v => exact lift _ w'' he'
          | panicked c => exact he'.elim
          | outgrown => exact (notLets _ _ _ he').elim
        | row row args => exact Rows.mono h (fun v w'' he' => lift _ w'' he')
        | defer d => exact lift _ w' h
        | _ => exact h.elim
      | halt x w' => cases x <;> exact h.elim
    · exact (notLets _ _ _ h.2).elim
  · rw [if_neg hwt] at h ⊢
    exact lift _ w h

/-! ### Step by step -/
abbrev Pr := Value → World → Prop
def anyPr : Pr := fun _ _ => True
def preOk (pre : List (List Nat)) (n : Nat) : Bool := (List.range n).all fun i => (pre.getD i []).all fun j => decide (j < i)

def wpVals (P : Program) (ops : Array Oper) (pre : List (List Nat)) (C : World → Prop) (G : World → World → Prop) (a : Act) : Nat → List Pr → List Oper → (List Pr → Prop) → Prop
  | _, L, [], fin => fin L
  | k, L, o :: l, fin => ∃ V : Pr, (∀ v X Y, C X → G X Y → V v X → V v Y) ∧
      (∀ (vs : Nat → Value) (X : World), C X → (∀ j ∈ pre.getD k [], (L.getD j anyPr) (vs j) X) →
        wpList P ops (Post (putL ops vs (pre.getD k []) a) o.dst (fun v Y => G X Y ∧ V v Y)) [o] (putL ops vs (pre.getD k []) a) X) ∧
      wpVals P ops pre C G a (k + 1) (L ++ [V]) l fin

theorem wpVals_spec {ops : Array Oper} {pre : List (List Nat)} {C : World → Prop} {G : World → World → Prop} {a : Act} {fin : List Pr → Prop} :
    ∀ (l : List Oper) (k : Nat) (L : List Pr), L.length = k → (∀ j, j < l.length → l[j]? = ops[k + j]?) → (∀ i, k ≤ i → i < k + l.length → ∀ j ∈ pre.getD i [], j < i) → wpVals P ops pre C G a k L l fin →
    ∃ M : List Pr, M.length = l.length ∧ fin (L ++ M) ∧ ∀ (i : Nat) o, k ≤ i → i < k + l.length → ops[i]? = some o →
      (∀ v X Y, C X → G X Y → ((L ++ M).getD i anyPr) v X → ((L ++ M).getD i anyPr) v Y) ∧
      (∀ (vs : Nat → Value) (X : World), C X → (∀ j ∈ pre.getD i [], ((L ++ M).getD j anyPr) (vs j) X) →
        wpList P ops (Post (putL ops vs (pre.getD i []) a) o.dst (fun v Y => G X Y ∧ ((L ++ M).getD i anyPr) v Y)) [o] (putL ops vs (pre.getD i []) a) X)
  | [], k, L, hL, _, _, h => ⟨[], rfl, by rw [List.append_nil]; exact h, fun i o h1 h2 _ => by simp at h2; omega⟩
  | o :: l, k, L, hL, hl, hp, h => by
    obtain ⟨V, h1, h2, h3⟩ := h
    have h0 : ops[k]? = some o := by simpa using (hl 0 (by simp)).symm
    obtain ⟨M, hM, hf, hr⟩ := wpVals_spec l (k + 1) (L ++ [V]) (by simp [hL]) (fun j hj => by have := hl (j + 1) (by simp; omega); simpa [Nat.add_assoc, Nat.add_comm 1 j] using this) (fun i hi hi2 => hp i (by omega) (by simp; omega)) h3
    refine ⟨V :: M, by simp [hM], by simpa using hf, fun i oi hi hi2 hoi => ?_⟩
    have e : L ++ V :: M = L ++ [V] ++ M := by simp
    rw [e]
    by_cases hik : i = k
    · subst hik
      have : oi = o := by rw [h0] at hoi; exact (Option.some.inj hoi).symm
      subst this
      have eV : (L ++ [V] ++ M).getD i anyPr = V := by
        rw [List.getD_eq_getElem?_getD, List.getElem?_append_left (by simp [hL]), List.getElem?_append_right (by omega)]
        simp [hL]
      rw [eV]
      refine ⟨h1, fun vs X hC hA => h2 vs X hC (fun j hj => ?_)⟩
      have hlt := hp i (by omega) (by simp) j hj
      have := hA j hj
      rwa [List.getD_eq_getElem?_getD, List.append_assoc, List.getElem?_append_left (by omega), ← List.getD_eq_getElem?_getD] at this
    · exact hr i oi (by omega) (by simp at hi2; omega) hoi

/-- **THE LAW, STEP BY STEP, WITHOUT A TAIL.** -/
theorem wp_region_vals {id : Nat} {Q : Exit → Act → World → Prop} {a : Act} {w : World} {l : List Oper} (pre : List (List Nat)) (C : World → Prop) (G : World → World → Prop)
    (hm : P.follows .mixedOrders = true) (hc : okPre l.toArray pre = true) (hp : preOk pre l.length = true) (h0 : C w.drew) (hCG : ∀ X Y, C X → G X Y → C Y)
    (h : wpVals P l.toArray pre C G a 0 [] l (fun L => ∀ (vs : Nat → Value) (X : World), C X → (∀ i < l.length, (L.getD i anyPr) (vs i) X) → Q .normal (putL l.toArray vs (List.range l.length) a) X)) :
    (Code.region id l.toArray true).wp P Q a w := by
  have hp' : ∀ i, 0 ≤ i → i < 0 + l.length → ∀ j ∈ pre.getD i [], j < i := fun i _ hi j hj => by
    unfold preOk at hp
    have := List.all_eq_true.1 (List.all_eq_true.1 hp i (List.mem_range.2 (by omega))) j hj
    simpa using this
  obtain ⟨M, hM, hf, hr⟩ := wpVals_spec l 0 [] rfl (fun j _ => by simp) hp' h
  rw [List.nil_append] at hf hr
  by_cases hemp : l.length = 0
  · have hf' := hf (fun _ => undef) w.drew h0 (fun i hi => by omega)
    refine wp_region_any hm ?_
    change wpAny P .any l.toArray Q l.toArray.size (Array.replicate l.toArray.size false) a w.drew
    have : l = [] := List.length_eq_zero_iff.1 hemp
    subst this
    exact ⟨rfl, hf'⟩
  refine region_wp l.length (by simp) pre (fun i vs X => C X ∧ (M.getD i anyPr) (vs i) X) (fun _ X => C X) (fun _ X Y => C X ∧ G X Y) hm hc ?_ ?_ (fun _ _ => h0) ?_ ?_ ?_ ?_
  · have := ready_all (ops := l.toArray)
    simpa using this
  · intro i vs us X hi hd ha
    rw [← hd i (.inl rfl)]
    exact ha
  · intro i k vs X Y hi hk hki _ hB hR hA
    obtain ⟨o, ho⟩ : ∃ o, l.toArray[i]? = some o := ⟨_, Array.getElem?_eq_getElem (by simpa using hi)⟩
    exact ⟨hCG _ _ hR.1 hR.2, (hr i o (Nat.zero_le _) (by omega) ho).1 _ _ _ hR.1 hR.2 hA.2⟩
  · intro i k X Y _ _ _ _ _ hR _
    exact hCG _ _ hR.1 hR.2
  · intro i vs X o hi ho hB hA
    have h1 := (hr i o (Nat.zero_le _) (by omega) ho).2 vs X hB (fun j hj => (hA j hj).2)
    refine wpList_mono_post ?_ h1
    rintro v Y ⟨hG, hV⟩
    rw [upd_self]
    exact ⟨⟨hB, hG⟩, hCG _ _ hB hG, hV⟩
  · intro vs X listed hs hl hA
    have hfin := hf vs X (hA 0 (by omega)).1 (fun i hi => (hA i hi).2)
    have hz : l.toArray.size - l.length = 0 := by simp
    rw [hz]
    refine ⟨?_, hfin⟩
    unfold Region.ready
    rw [List.filter_eq_nil_iff]
    intro j hj
    have h1 := (hl j).2 (by simpa using List.mem_range.1 hj)
    have h2 : listed.getD j true = true := by
      have hm : j < listed.size := by rw [hs]; exact List.mem_range.1 hj
      simp only [Array.getD, hm, dif_pos] at h1 ⊢
      exact h1
    simp [h2]
theorem vals_fx {ops : Array Oper} {pre : List (List Nat)} {C : World → Prop} {G : World → World → Prop} {a : Act} {fin : List Pr → Prop} {k : Nat} {L : List Pr} {o : Oper} {l : List Oper} (c : Value)
    (h : ∀ (vs : Nat → Value) (X : World), C X → (∀ j ∈ pre.getD k [], (L.getD j anyPr) (vs j) X) →
        wpList P ops (Post (putL ops vs (pre.getD k []) a) o.dst (fun v Y => G X Y ∧ v = c)) [o] (putL ops vs (pre.getD k []) a) X)
    (r : wpVals P ops pre C G a (k + 1) (L ++ [fun v _ => v = c]) l fin) : wpVals P ops pre C G a k L (o :: l) fin :=
  ⟨fun v _ => v = c, fun _ _ _ _ _ h => h, h, r⟩
theorem vals_pr {ops : Array Oper} {pre : List (List Nat)} {C : World → Prop} {G : World → World → Prop} {a : Act} {fin : List Pr → Prop} {k : Nat} {L : List Pr} {o : Oper} {l : List Oper} (V : Pr) (hV : ∀ v X Y, C X → G X Y → V v X → V v Y)
    (h : ∀ (vs : Nat → Value) (X : World), C X → (∀ j ∈ pre.getD k [], (L.getD j anyPr) (vs j) X) →
        wpList P ops (Post (putL ops vs (pre.getD k []) a) o.dst (fun v Y => G X Y ∧ V v Y)) [o] (putL ops vs (pre.getD k []) a) X)
    (r : wpVals P ops pre C G a (k + 1) (L ++ [V]) l fin) : wpVals P ops pre C G a k L (o :: l) fin :=
  ⟨V, hV, h, r⟩
theorem vals_nil {ops : Array Oper} {pre : List (List Nat)} {C : World → Prop} {G : World → World → Prop} {a : Act} {fin : List Pr → Prop} {k : Nat} {L : List Pr} (h : fin L) : wpVals P ops pre C G a k L [] fin := h

/-! ### Step by step, with what holds till an operation comes (B) and with what each operation does to the world (G) -/
def wpSteps (P : Program) (ops : Array Oper) (pre : List (List Nat)) (n : Nat) (C : World → Prop) (B : Nat → World → Prop) (G : Nat → World → World → Prop) (a : Act) : Nat → List Pr → List Oper → (List Pr → Prop) → Prop
  | _, L, [], fin => fin L
  | k, L, o :: l, fin => ∃ V : Pr, (∀ j v X Y, j < n → j ≠ k → j ∉ pre.getD k [] → C X → B j X → G j X Y → V v X → V v Y) ∧
      (∀ (vs : Nat → Value) (X : World), C X → B k X → (∀ j ∈ pre.getD k [], (L.getD j anyPr) (vs j) X) →
        wpList P ops (Post (putL ops vs (pre.getD k []) a) o.dst (fun v Y => G k X Y ∧ V v Y)) [o] (putL ops vs (pre.getD k []) a) X) ∧
      wpSteps P ops pre n C B G a (k + 1) (L ++ [V]) l fin

theorem wpSteps_spec {ops : Array Oper} {pre : List (List Nat)} {n : Nat} {C : World → Prop} {B : Nat → World → Prop} {G : Nat → World → World → Prop} {a : Act} {fin : List Pr → Prop} :
    ∀ (l : List Oper) (k : Nat) (L : List Pr), L.length = k → (∀ j, j < l.length → l[j]? = ops[k + j]?) → (∀ i, k ≤ i → i < k + l.length → ∀ j ∈ pre.getD i [], j < i) → wpSteps P ops pre n C B G a k L l fin →
    ∃ M : List Pr, M.length = l.length ∧ fin (L ++ M) ∧ ∀ (i : Nat) o, k ≤ i → i < k + l.length → ops[i]? = some o →
      (∀ j v X Y, j < n → j ≠ i → j ∉ pre.getD i [] → C X → B j X → G j X Y → ((L ++ M).getD i anyPr) v X → ((L ++ M).getD i anyPr) v Y) ∧
      (∀ (vs : Nat → Value) (X : World), C X → B i X → (∀ j ∈ pre.getD i [], ((L ++ M).getD j anyPr) (vs j) X) →
        wpList P ops (Post (putL ops vs (pre.getD i []) a) o.dst (fun v Y => G i X Y ∧ ((L ++ M).getD i anyPr) v Y)) [o] (putL ops vs (pre.getD i []) a) X)
  | [], k, L, hL, _, _, h => ⟨[], rfl, by rw [List.append_nil]; exact h, fun i o h1 h2 _ => by simp at h2; omega⟩
  | o :: l, k, L, hL, hl, hp, h => by
    obtain ⟨V, h1, h2, h3⟩ := h
    have h0 : ops[k]? = some o := by simpa using (hl 0 (by simp)).symm
    obtain ⟨M, hM, hf, hr⟩ := wpSteps_spec l (k + 1) (L ++ [V]) (by simp [hL]) (fun j hj => by have := hl (j + 1) (by simp; omega); simpa [Nat.add_assoc, Nat.add_comm 1 j] using this) (fun i hi hi2 => hp i (by omega) (by simp; omega)) h3
    refine ⟨V :: M, by simp [hM], by simpa using hf, fun i oi hi hi2 hoi => ?_⟩
    have e : L ++ V :: M = L ++ [V] ++ M := by simp
    rw [e]
    by_cases hik : i = k
    · subst hik
      have : oi = o := by rw [h0] at hoi; exact (Option.some.inj hoi).symm
      subst this
      have eV : (L ++ [V] ++ M).getD i anyPr = V := by
        rw [List.getD_eq_getElem?_getD, List.getElem?_append_left (by simp [hL]), List.getElem?_append_right (by omega)]
        simp [hL]
      rw [eV]
      refine ⟨h1, fun vs X hC hB hA => h2 vs X hC hB (fun j hj => ?_)⟩
      have hlt := hp i (by omega) (by simp) j hj
      have := hA j hj
      rwa [List.getD_eq_getElem?_getD, List.append_assoc, List.getElem?_append_left (by omega), ← List.getD_eq_getElem?_getD] at this
    · exact hr i oi (by omega) (by simp at hi2; omega) hoi

/-- **THE LAW, STEP BY STEP, IN GENERAL.** -/
theorem wp_region_steps {id : Nat} {Q : Exit → Act → World → Prop} {a : Act} {w : World} {l : List Oper} (pre : List (List Nat)) (C : World → Prop) (B : Nat → World → Prop) (G : Nat → World → World → Prop)
    (hm : P.follows .mixedOrders = true) (hc : okPre l.toArray pre = true) (hp : preOk pre l.length = true) (hne : 0 < l.length) (h0 : C w.drew) (hB0 : ∀ i, B i w.drew)
    (hCG : ∀ j X Y, j < l.length → C X → B j X → G j X Y → C Y)
    (hBG : ∀ i j X Y, i < l.length → j < l.length → j ≠ i → i ∉ pre.getD j [] → C X → B j X → G j X Y → B i X → B i Y)
    (h : wpSteps P l.toArray pre l.length C B G a 0 [] l (fun L => ∀ (vs : Nat → Value) (X : World), C X → (∀ i < l.length, (L.getD i anyPr) (vs i) X) → Q .normal (putL l.toArray vs (List.range l.length) a) X)) :
    (Code.region id l.toArray true).wp P Q a w := by
  have hp' : ∀ i, 0 ≤ i → i < 0 + l.length → ∀ j ∈ pre.getD i [], j < i := fun i _ hi j hj => by
    unfold preOk at hp
    have := List.all_eq_true.1 (List.all_eq_true.1 hp i (List.mem_range.2 (by omega))) j hj
    simpa using this
  obtain ⟨M, hM, hf, hr⟩ := wpSteps_spec l 0 [] rfl (fun j _ => by simp) hp' h
  rw [List.nil_append] at hf hr
  refine region_wp l.length (by simp) pre (fun i vs X => C X ∧ (M.getD i anyPr) (vs i) X) (fun i X => C X ∧ B i X) (fun j X Y => G j X Y) hm hc ?_ ?_ (fun i _ => ⟨h0, hB0 i⟩) ?_ ?_ ?_ ?_
  · have := ready_all (ops := l.toArray)
    simpa using this
  · intro i vs us X hi hd ha
    rw [← hd i (.inl rfl)]
    exact ha
  · intro i k vs X Y hi hk hki hkp hB hR hA
    obtain ⟨o, ho⟩ : ∃ o, l.toArray[i]? = some o := ⟨_, Array.getElem?_eq_getElem (by simpa using hi)⟩
    exact ⟨hCG _ _ _ hk hB.1 hB.2 hR, (hr i o (Nat.zero_le _) (by omega) ho).1 k _ _ _ hk hki hkp hB.1 hB.2 hR hA.2⟩
  · intro i k X Y hi hk hki hip hB hR hBi
    exact ⟨hCG _ _ _ hk hB.1 hB.2 hR, hBG i k X Y hi hk hki hip hB.1 hB.2 hR hBi.2⟩
  · intro i vs X o hi ho hB hA
    have h1 := (hr i o (Nat.zero_le _) (by omega) ho).2 vs X hB.1 hB.2 (fun j hj => (hA j hj).2)
    refine wpList_mono_post ?_ h1
    rintro v Y ⟨hG, hV⟩
    rw [upd_self]
    exact ⟨hG, hCG _ _ _ hi hB.1 hB.2 hG, hV⟩
  · intro vs X listed hs hl hA
    have hfin := hf vs X (hA 0 (by omega)).1 (fun i hi => (hA i hi).2)
    have hz : l.toArray.size - l.length = 0 := by simp
    rw [hz]
    refine ⟨?_, hfin⟩
    unfold Region.ready
    rw [List.filter_eq_nil_iff]
    intro j hj
    have h1 := (hl j).2 (by simpa using List.mem_range.1 hj)
    have h2 : listed.getD j true = true := by
      have hm : j < listed.size := by rw [hs]; exact List.mem_range.1 hj
      simp only [Array.getD, hm, dif_pos] at h1 ⊢
      exact h1
    simp [h2]
theorem steps_fx {ops : Array Oper} {pre : List (List Nat)} {n : Nat} {C : World → Prop} {B : Nat → World → Prop} {G : Nat → World → World → Prop} {a : Act} {fin : List Pr → Prop} {k : Nat} {L : List Pr} {o : Oper} {l : List Oper} (c : Value)
    (h : ∀ (vs : Nat → Value) (X : World), C X → B k X → (∀ j ∈ pre.getD k [], (L.getD j anyPr) (vs j) X) →
        wpList P ops (Post (putL ops vs (pre.getD k []) a) o.dst (fun v Y => G k X Y ∧ v = c)) [o] (putL ops vs (pre.getD k []) a) X)
    (r : wpSteps P ops pre n C B G a (k + 1) (L ++ [fun v _ => v = c]) l fin) : wpSteps P ops pre n C B G a k L (o :: l) fin :=
  ⟨fun v _ => v = c, fun _ _ _ _ _ _ _ _ _ _ h => h, h, r⟩
theorem steps_pr {ops : Array Oper} {pre : List (List Nat)} {n : Nat} {C : World → Prop} {B : Nat → World → Prop} {G : Nat → World → World → Prop} {a : Act} {fin : List Pr → Prop} {k : Nat} {L : List Pr} {o : Oper} {l : List Oper} (V : Pr)
    (hV : ∀ j v X Y, j < n → j ≠ k → j ∉ pre.getD k [] → C X → B j X → G j X Y → V v X → V v Y)
    (h : ∀ (vs : Nat → Value) (X : World), C X → B k X → (∀ j ∈ pre.getD k [], (L.getD j anyPr) (vs j) X) →
        wpList P ops (Post (putL ops vs (pre.getD k []) a) o.dst (fun v Y => G k X Y ∧ V v Y)) [o] (putL ops vs (pre.getD k []) a) X)
    (r : wpSteps P ops pre n C B G a (k + 1) (L ++ [V]) l fin) : wpSteps P ops pre n C B G a k L (o :: l) fin :=
  ⟨V, hV, h, r⟩
theorem steps_nil {ops : Array Oper} {pre : List (List Nat)} {n : Nat} {C : World → Prop} {B : Nat → World → Prop} {G : Nat → World → World → Prop} {a : Act} {fin : List Pr → Prop} {k : Nat} {L : List Pr} (h : fin L) : wpSteps P ops pre n C B G a k L [] fin := h
end

end Go.Rg

/- A law for a region that draws its order: what one operation alone uses need hold no longer than till it comes.
   Conditions: as in the law of steps; an operation's own user (U) is the only one that takes its value. -/
namespace Go.Rg
set_option maxRecDepth 100000
set_option linter.unusedVariables false
set_option linter.unusedSimpArgs false
open Go Go.RowKit
set_option linter.unusedVariables false
section
variable {P : Program}
def useOk (pre : List (List Nat)) (U : Nat → Nat) (n : Nat) : Bool := (List.range n).all fun j => (pre.getD j []).all fun i => U i == i || U i == j
theorem useOk_spec {pre : List (List Nat)} {U : Nat → Nat} {n : Nat} (h : useOk pre U n = true) : ∀ i j, i < n → j < n → i ∈ pre.getD j [] → U i = i ∨ U i = j := by
  intro i j _ hj hi
  unfold useOk at h
  have := List.all_eq_true.1 (List.all_eq_true.1 h j (List.mem_range.2 hj)) i hi
  simpa using this
/-- **THE LAW.** -/
theorem region_use {id : Nat} {ops : Array Oper} {a : Act} {w : World} {Q : Exit → Act → World → Prop} (n : Nat) (hn : n ≤ ops.size) (pre : List (List Nat)) (A : Nat → (Nat → Value) → World → Prop) (B : Nat → World → Prop) (R : Nat → World → World → Prop) (U : Nat → Nat)
    (hU : ∀ i j, i < n → j < n → i ∈ pre.getD j [] → U i = i ∨ U i = j)
    (hm : P.follows .mixedOrders = true) (hc : okPre ops pre = true)
    (hrd : ∀ listed, HeadInv .any ops n listed → ∀ i, i < n → listed.getD i true = false → ∀ t, n ≤ t → t ∉ Region.ready .any ops listed)
    (hdep : ∀ i vs us X, i < n → (∀ j, j = i ∨ j ∈ pre.getD i [] → vs j = us j) → A i vs X → A i us X)
    (hB0 : ∀ i, i < n → B i w.drew)
    (hstA : ∀ i k vs X Y, i < n → k < n → k ≠ i → k ∉ pre.getD i [] → (U i ≠ i → U i ≠ k ∧ U i ∉ pre.getD k []) → B k X → R k X Y → A i vs X → A i vs Y)
    (hstB : ∀ i k X Y, i < n → k < n → k ≠ i → i ∉ pre.getD k [] → B k X → R k X Y → B i X → B i Y)
    (hop : ∀ (i : Nat) (vs : Nat → Value) (X : World) (o : Oper), i < n → ops[i]? = some o → B i X → (∀ j ∈ pre.getD i [], A j vs X) →
      wpList P ops (Post (putL ops vs (pre.getD i []) a) o.dst (fun v Y => R i X Y ∧ A i (upd vs i v) Y)) [o] (putL ops vs (pre.getD i []) a) X)
    (hend : ∀ (vs : Nat → Value) (X : World) (listed : Array Bool), listed.size = ops.size → (∀ j, listed.getD j false = true ↔ j < n) → (∀ i < n, U i = i → A i vs X) → wpAny P .any ops Q (ops.size - n) listed (putL ops vs (List.range n) a) X) :
    (Code.region id ops true).wp P Q a w := by
  refine wp_region_any hm ?_
  change wpAny P .any ops Q ops.size (Array.replicate ops.size false) a w.drew
  have main : ∀ (fuel : Nat) (listed : Array Bool) (vs : Nat → Value) (X : World) (b : Act) (ord : List Nat), HeadInv .any ops n listed →
      ord.Nodup → (∀ j, j ∈ ord ↔ listed.getD j false = true) → (∀ j ∈ ord, j < n) → fuel + ord.length = n →
      (∀ j ∈ ord, ∀ k ∈ pre.getD j [], k ∈ ord) → (∀ j ∈ ord, (U j ≠ j ∧ U j ∈ ord) ∨ A j vs X) → (∀ j, j < n → j ∉ ord → B j X) → b = putL ops vs ord a → wpAny P .any ops Q (fuel + (ops.size - n)) listed b X := by
    intro fuel
    induction fuel with
    | zero =>
      intro listed vs X b ord inv hnd hl hlt hlen hcl hA hB hb
      have hperm : ord.Perm (List.range n) := by
        refine (List.perm_ext_iff_of_nodup hnd List.nodup_range).2 (fun j => ⟨fun hj => List.mem_range.2 (hlt j hj), fun hj => Classical.byContradiction fun hno => ?_⟩)
        have := List.Nodup.length_le_of_subset (l₁ := j :: ord) (l₂ := List.range n) (List.nodup_cons.2 ⟨hno, hnd⟩) (fun k hk => by
          rcases List.mem_cons.1 hk with rfl | hk
          · exact hj
          · exact List.mem_range.2 (hlt k hk))
        simp at this
        omega
      rw [hb, putL_perm hc vs hperm, Nat.zero_add]
      exact hend vs X listed inv.size (fun j => by rw [← hl, hperm.mem_iff, List.mem_range]) (fun j hj hu => (hA j (hperm.mem_iff.2 (List.mem_range.2 hj))).resolve_left (fun h => h.1 hu))
    | succ fuel ih =>
      intro listed vs X b ord inv hnd hl hlt hlen hcl hA hB hb
      have hs := inv.size
      have hgd : ∀ j, j < ops.size → listed.getD j true = listed.getD j false := fun j hj => by
        have hm : j < listed.size := by omega
        simp [Array.getD, hm]
      have hex : ∃ j, j < n ∧ j ∉ ord := by
        refine Classical.byContradiction fun hno => ?_
        have : List.range n ⊆ ord := fun j hj => Classical.byContradiction fun hj' => hno ⟨j, List.mem_range.1 hj, hj'⟩
        have := List.Nodup.length_le_of_subset List.nodup_range this
        simp at this
        omega
      have hun : ∀ j, j < n → j ∉ ord → listed.getD j true = false := fun j hj hj' => by
        rw [hgd j (by omega)]
        cases h : listed.getD j false with
        | false => rfl
        | true => exact absurd ((hl j).2 h) hj'
      have hrdy : ∀ t ∈ Region.ready .any ops listed, t < n := by
        intro t ht
        obtain ⟨j, hj, hj'⟩ := hex
        rcases Nat.lt_or_ge t n with h | h
        · exact h
        · exact absurd ht (hrd listed inv j hj (hun j hj hj') t h)
      rw [show fuel + 1 + (ops.size - n) = (fuel + (ops.size - n)) + 1 by omega]
      refine ⟨fun hnil => ?_, fun i hi => ?_⟩
      · exfalso
        have hmin : ∀ m, (∃ j, j < m ∧ j < n ∧ j ∉ ord) → ∃ j, j < n ∧ j ∉ ord ∧ ∀ k < j, k ∈ ord := by
          intro m
          induction m with
          | zero => rintro ⟨j, h, _⟩; omega
          | succ m ihm =>
            rintro ⟨j, h1, h2, h3⟩
            by_cases hs' : ∃ k, k < m ∧ k < n ∧ k ∉ ord
            · exact ihm hs'
            · refine ⟨j, h2, h3, fun k hk => Classical.byContradiction fun hk' => hs' ⟨k, by omega, by omega, hk'⟩⟩
        obtain ⟨j0, h0, h0'⟩ := hex
        obtain ⟨j, hj, hj', hall⟩ := hmin (j0 + 1) ⟨j0, by omega, h0, h0'⟩
        obtain ⟨o, ho⟩ : ∃ o, ops[j]? = some o := ⟨_, Array.getElem?_eq_getElem (by omega)⟩
        have hmem : j ∈ Region.ready .any ops listed := by
          unfold Region.ready
          rw [List.mem_filter]
          refine ⟨List.mem_range.2 (by omega), ?_⟩
          have hn := hun j hj hj'
          rw [hn, ho]
          simp only [Bool.not_false, Bool.true_and, Option.map_some, Option.getD_some, Array.all_eq_true']
          intro e he
          cases hbe : Region.binds .any e with
          | false => rfl
          | true =>
            have := (pre_facts hc ho).2.2.2.1 e he hbe
            simp only [Bool.not_true, Bool.false_or]
            exact (hl _).1 (hall _ this)
        rw [hnil] at hmem
        cases hmem
      · have hin := hrdy i hi
        have hir := hi
        unfold Region.ready at hi
        rw [List.mem_filter] at hi
        obtain ⟨_, hi⟩ := hi
        obtain ⟨o, ho⟩ : ∃ o, ops[i]? = some o := ⟨_, Array.getElem?_eq_getElem (by omega)⟩
        rw [ho] at hi
        simp only [Option.map_some, Option.getD_some, Bool.and_eq_true, Bool.not_eq_true', Array.all_eq_true'] at hi
        obtain ⟨hnl, hedge⟩ := hi
        have hni : i ∉ ord := fun h => by
          have := (hl i).1 h
          rw [hgd i (by omega)] at hnl
          rw [hnl] at this
          cases this
        obtain ⟨p1, p2, p3, p4, p5, p6⟩ := pre_facts hc ho
        have hpre : ∀ j ∈ pre.getD i [], j ∈ ord := fun j hj => by
          obtain ⟨_, e, he, hbe, hx⟩ := p1 j hj
          have hon : e.on ∈ ord := (hl _).2 (by have := hedge e he; rw [hbe] at this; simpa using this)
          rcases hx with rfl | hx
          · exact hon
          · exact hcl _ hon _ hx
        let rest := ord.filter fun j => !(pre.getD i []).contains j
        have hperm : ord.Perm (pre.getD i [] ++ rest) := by
          have h1 : (ord.filter fun j => (pre.getD i []).contains j).Perm (pre.getD i []) := by
            refine (List.perm_ext_iff_of_nodup (hnd.filter _) p3).2 (fun j => ?_)
            rw [List.mem_filter]
            constructor
            · intro h; simpa using h.2
            · intro h; exact ⟨hpre j h, by simpa using h⟩
          refine (List.filter_append_perm (fun j => (pre.getD i []).contains j) ord).symm.trans ?_
          exact h1.append_right _
        have hb' : b = putL ops vs rest (putL ops vs (pre.getD i []) a) := by rw [hb, putL_perm hc vs hperm, putL_append]
        have hsame := same_putL (ops := ops) o p5 vs rest (fun j hj d hd hl' => by
          have hj2 := List.mem_filter.1 hj
          have hji : j ≠ i := fun e => hni (e ▸ hj2.1)
          rcases p2 j d hji hd hl' with this | this
          · have h3 := hj2.2
            rw [List.contains_iff_mem.2 this] at h3
            cases h3
          · exact hni (hcl j hj2.1 i this)) (putL ops vs (pre.getD i []) a)
        rw [← hb'] at hsame
        refine one_move_wp ho (a := putL ops vs (pre.getD i []) a) (K := fun v Y => R i X Y ∧ A i (upd vs i v) Y) (by rw [hb', putL_size, putL_size, putL_size]) hsame.1 hsame.2 (hop i vs X o hin ho (hB i hin hni) (fun j hj => (hA j (hpre j hj)).resolve_left (fun h => by
          rcases hU j i (hlt j (hpre j hj)) hin hj with e | e
          · exact h.1 e
          · exact hni (e ▸ h.2)))) ?_
        rintro v Y ⟨hXY, hAi⟩
        have hus : ∀ j, j ≠ i → upd vs i v j = vs j := fun j hj => upd_ne _ _ _ hj
        have hnpre : ∀ j ∈ ord, i ∉ pre.getD j [] := fun j hj h => hni (hcl j hj i h)
        refine ih (listed.setIfInBounds i true) (upd vs i v) Y (b.put o.dst v) (ord ++ [i]) (inv.set hir hin) ?_ ?_ ?_ (by simp; omega) ?_ ?_ ?_ ?_
        · rw [List.nodup_append]
          exact ⟨hnd, by simp, fun x hx y hy => by simp at hy; subst hy; exact fun e => hni (e ▸ hx)⟩
        · intro j
          by_cases hji : j = i
          · subst hji; simp [Array.getD, hs, show j < ops.size by omega]
          · have : (listed.setIfInBounds i true).getD j false = listed.getD j false := by
              have hij : i ≠ j := fun e => hji e.symm
              by_cases hm : j < listed.size
              · simp [Array.getD, hm, hij]
              · simp [Array.getD, hm]
            rw [this]
            simp [hji, hl j]
        · intro j hj
          rcases List.mem_append.1 hj with h | h
          · exact hlt j h
          · simp at h; subst h; exact hin
        · intro j hj k hk
          rcases List.mem_append.1 hj with h | h
          · exact List.mem_append_left _ (hcl j h k hk)
          · simp at h; subst h; exact List.mem_append_left _ (hpre k hk)
        · intro j hj
          rcases List.mem_append.1 hj with h | h
          · have hji : j ≠ i := fun e => hni (e ▸ h)
            by_cases hu : U j = i
            · exact .inl ⟨fun e => hji (e.symm.trans hu), hu ▸ by simp⟩
            by_cases hu2 : U j ≠ j ∧ U j ∈ pre.getD i []
            · exact .inl ⟨hu2.1, List.mem_append_left _ (hpre _ hu2.2)⟩
            rcases hA j h with hA | hA
            · exact .inl ⟨hA.1, List.mem_append_left _ hA.2⟩
            refine .inr (hdep j vs _ Y (hlt j h) (fun k hk => (hus k ?_).symm) (hstA j i vs X Y (hlt j h) hin (fun e => hji e.symm) (hnpre j h) (fun hne => ⟨hu, fun hm => hu2 ⟨hne, hm⟩⟩) (hB i hin hni) hXY hA))
            rcases hk with rfl | hk
            · exact hji
            · exact fun e => hnpre j h (e ▸ hk)
          · simp at h; subst h; exact .inr hAi
        · intro j hj hjo
          have hj1 : j ∉ ord := fun h => hjo (List.mem_append_left _ h)
          have hj2 : j ≠ i := fun e => hjo (by simp [e])
          exact hstB j i X Y hj hin (fun e => hj2 e.symm) (fun h => hj1 (hpre j h)) (hB i hin hni) hXY (hB j hj hj1)
        · rw [putL_append, putL_congr ops (us := vs) (L := ord) (fun j hj => hus j (fun e => hni (e ▸ hj))), ← hb]
          simp only [putL, List.foldl_cons, List.foldl_nil, upd_self]
          unfold dstOf
          rw [ho]
          rfl
  have inv0 : HeadInv .any ops n (Array.replicate ops.size false) :=
    ⟨by simp, fun j oj _ hl => (by rw [getD_replicate_false] at hl; cases hl), fun t _ ht => getD_in (by simpa using ht) (getD_replicate_false _ _)⟩
  have := main n (Array.replicate ops.size false) (fun _ => undef) w.drew a [] inv0 List.nodup_nil (fun j => by
    rw [getD_replicate_false]; simp) (fun j hj => by cases hj) (by simp) (fun j hj => by cases hj) (fun j hj => by cases hj) (fun j hj _ => hB0 j hj) rfl
  rwa [show n + (ops.size - n) = ops.size by omega] at this

def wpUse (P : Program) (ops : Array Oper) (pre : List (List Nat)) (n : Nat) (C : World → Prop) (B : Nat → World → Prop) (G : Nat → World → World → Prop) (U : Nat → Nat) (a : Act) : Nat → List Pr → List Oper → (List Pr → Prop) → Prop
  | _, L, [], fin => fin L
  | k, L, o :: l, fin => ∃ V : Pr, (∀ j v X Y, j < n → j ≠ k → j ∉ pre.getD k [] → (U k ≠ k → U k ≠ j ∧ U k ∉ pre.getD j []) → C X → B j X → G j X Y → V v X → V v Y) ∧
      (∀ (vs : Nat → Value) (X : World), C X → B k X → (∀ j ∈ pre.getD k [], (L.getD j anyPr) (vs j) X) →
        wpList P ops (Post (putL ops vs (pre.getD k []) a) o.dst (fun v Y => G k X Y ∧ V v Y)) [o] (putL ops vs (pre.getD k []) a) X) ∧
      wpUse P ops pre n C B G U a (k + 1) (L ++ [V]) l fin

theorem wpUse_spec {ops : Array Oper} {pre : List (List Nat)} {n : Nat} {C : World → Prop} {B : Nat → World → Prop} {G : Nat → World → World → Prop} {U : Nat → Nat} {a : Act} {fin : List Pr → Prop} :
    ∀ (l : List Oper) (k : Nat) (L : List Pr), L.length = k → (∀ j, j < l.length → l[j]? = ops[k + j]?) → (∀ i, k ≤ i → i < k + l.length → ∀ j ∈ pre.getD i [], j < i) → wpUse P ops pre n C B G U a k L l fin →
    ∃ M : List Pr, M.length = l.length ∧ fin (L ++ M) ∧ ∀ (i : Nat) o, k ≤ i → i < k + l.length → ops[i]? = some o →
      (∀ j v X Y, j < n → j ≠ i → j ∉ pre.getD i [] → (U i ≠ i → U i ≠ j ∧ U i ∉ pre.getD j []) → C X → B j X → G j X Y → ((L ++ M).getD i anyPr) v X → ((L ++ M).getD i anyPr) v Y) ∧
      (∀ (vs : Nat → Value) (X : World), C X → B i X → (∀ j ∈ pre.getD i [], ((L ++ M).getD j anyPr) (vs j) X) →
        wpList P ops (Post (putL ops vs (pre.getD i []) a) o.dst (fun v Y => G i X Y ∧ ((L ++ M).getD i anyPr) v Y)) [o] (putL ops vs (pre.getD i []) a) X)
  | [], k, L, hL, _, _, h => ⟨[], rfl, by rw [List.append_nil]; exact h, fun i o h1 h2 _ => by simp at h2; omega⟩
  | o :: l, k, L, hL, hl, hp, h => by
    obtain ⟨V, h1, h2, h3⟩ := h
    have h0 : ops[k]? = some o := by simpa using (hl 0 (by simp)).symm
    obtain ⟨M, hM, hf, hr⟩ := wpUse_spec l (k + 1) (L ++ [V]) (by simp [hL]) (fun j hj => by have := hl (j + 1) (by simp; omega); simpa [Nat.add_assoc, Nat.add_comm 1 j] using this) (fun i hi hi2 => hp i (by omega) (by simp; omega)) h3
    refine ⟨V :: M, by simp [hM], by simpa using hf, fun i oi hi hi2 hoi => ?_⟩
    have e : L ++ V :: M = L ++ [V] ++ M := by simp
    rw [e]
    by_cases hik : i = k
    · subst hik
      have : oi = o := by rw [h0] at hoi; exact (Option.some.inj hoi).symm
      subst this
      have eV : (L ++ [V] ++ M).getD i anyPr = V := by
        rw [List.getD_eq_getElem?_getD, List.getElem?_append_left (by simp [hL]), List.getElem?_append_right (by omega)]
        simp [hL]
      rw [eV]
      refine ⟨h1, fun vs X hC hB hA => h2 vs X hC hB (fun j hj => ?_)⟩
      have hlt := hp i (by omega) (by simp) j hj
      have := hA j hj
      rwa [List.getD_eq_getElem?_getD, List.append_assoc, List.getElem?_append_left (by omega), ← List.getD_eq_getElem?_getD] at this
    · exact hr i oi (by omega) (by simp at hi2; omega) hoi

/-- **THE LAW, STEP BY STEP, IN GENERAL.** -/
theorem wp_region_use {id : Nat} {Q : Exit → Act → World → Prop} {a : Act} {w : World} {l : List Oper} (pre : List (List Nat)) (C : World → Prop) (B : Nat → World → Prop) (G : Nat → World → World → Prop) (U : Nat → Nat)
    (hm : P.follows .mixedOrders = true) (hc : okPre l.toArray pre = true) (hp : preOk pre l.length = true) (hU : useOk pre U l.length = true) (hne : 0 < l.length) (hlast : U (l.length - 1) = l.length - 1) (h0 : C w.drew) (hB0 : ∀ i, B i w.drew)
    (hCG : ∀ j X Y, j < l.length → C X → B j X → G j X Y → C Y)
    (hBG : ∀ i j X Y, i < l.length → j < l.length → j ≠ i → i ∉ pre.getD j [] → C X → B j X → G j X Y → B i X → B i Y)
    (h : wpUse P l.toArray pre l.length C B G U a 0 [] l (fun L => ∀ (vs : Nat → Value) (X : World), C X → (∀ i < l.length, U i = i → (L.getD i anyPr) (vs i) X) → Q .normal (putL l.toArray vs (List.range l.length) a) X)) :
    (Code.region id l.toArray true).wp P Q a w := by
  have hp' : ∀ i, 0 ≤ i → i < 0 + l.length → ∀ j ∈ pre.getD i [], j < i := fun i _ hi j hj => by
    unfold preOk at hp
    have := List.all_eq_true.1 (List.all_eq_true.1 hp i (List.mem_range.2 (by omega))) j hj
    simpa using this
  obtain ⟨M, hM, hf, hr⟩ := wpUse_spec l 0 [] rfl (fun j _ => by simp) hp' h
  rw [List.nil_append] at hf hr
  refine region_use l.length (by simp) pre (fun i vs X => C X ∧ (M.getD i anyPr) (vs i) X) (fun i X => C X ∧ B i X) (fun j X Y => G j X Y ∧ C Y) U (useOk_spec hU) hm hc ?_ ?_ (fun i _ => ⟨h0, hB0 i⟩) ?_ ?_ ?_ ?_
  · have := ready_all (ops := l.toArray)
    simpa using this
  · intro i vs us X hi hd ha
    rw [← hd i (.inl rfl)]
    exact ha
  · intro i k vs X Y hi hk hki hkp hku hB hR hA
    obtain ⟨o, ho⟩ : ∃ o, l.toArray[i]? = some o := ⟨_, Array.getElem?_eq_getElem (by simpa using hi)⟩
    exact ⟨hR.2, (hr i o (Nat.zero_le _) (by omega) ho).1 k _ _ _ hk hki hkp hku hB.1 hB.2 hR.1 hA.2⟩
  · intro i k X Y hi hk hki hip hB hR hBi
    exact ⟨hR.2, hBG i k X Y hi hk hki hip hB.1 hB.2 hR.1 hBi.2⟩
  · intro i vs X o hi ho hB hA
    have h1 := (hr i o (Nat.zero_le _) (by omega) ho).2 vs X hB.1 hB.2 (fun j hj => (hA j hj).2)
    refine wpList_mono_post ?_ h1
    rintro v Y ⟨hG, hV⟩
    rw [upd_self]
    exact ⟨⟨hG, hCG _ _ _ hi hB.1 hB.2 hG⟩, hCG _ _ _ hi hB.1 hB.2 hG, hV⟩
  · intro vs X listed hs hl hA
    have hfin := hf vs X (hA (l.length - 1) (by omega) hlast).1 (fun i hi hu => (hA i hi hu).2)
    have hz : l.toArray.size - l.length = 0 := by simp
    rw [hz]
    refine ⟨?_, hfin⟩
    unfold Region.ready
    rw [List.filter_eq_nil_iff]
    intro j hj
    have h1 := (hl j).2 (by simpa using List.mem_range.1 hj)
    have h2 : listed.getD j true = true := by
      have hm : j < listed.size := by rw [hs]; exact List.mem_range.1 hj
      simp only [Array.getD, hm, dif_pos] at h1 ⊢
      exact h1
    simp [h2]
theorem use_fx {ops : Array Oper} {pre : List (List Nat)} {n : Nat} {C : World → Prop} {B : Nat → World → Prop} {G : Nat → World → World → Prop} {U : Nat → Nat} {a : Act} {fin : List Pr → Prop} {k : Nat} {L : List Pr} {o : Oper} {l : List Oper} (c : Value)
    (h : ∀ (vs : Nat → Value) (X : World), C X → B k X → (∀ j ∈ pre.getD k [], (L.getD j anyPr) (vs j) X) →
        wpList P ops (Post (putL ops vs (pre.getD k []) a) o.dst (fun v Y => G k X Y ∧ v = c)) [o] (putL ops vs (pre.getD k []) a) X)
    (r : wpUse P ops pre n C B G U a (k + 1) (L ++ [fun v _ => v = c]) l fin) : wpUse P ops pre n C B G U a k L (o :: l) fin :=
  ⟨fun v _ => v = c, fun _ _ _ _ _ _ _ _ _ _ _ h => h, h, r⟩
theorem use_pr {ops : Array Oper} {pre : List (List Nat)} {n : Nat} {C : World → Prop} {B : Nat → World → Prop} {G : Nat → World → World → Prop} {U : Nat → Nat} {a : Act} {fin : List Pr → Prop} {k : Nat} {L : List Pr} {o : Oper} {l : List Oper} (V : Pr)
    (hV : ∀ j v X Y, j < n → j ≠ k → j ∉ pre.getD k [] → (U k ≠ k → U k ≠ j ∧ U k ∉ pre.getD j []) → C X → B j X → G j X Y → V v X → V v Y)
    (h : ∀ (vs : Nat → Value) (X : World), C X → B k X → (∀ j ∈ pre.getD k [], (L.getD j anyPr) (vs j) X) →
        wpList P ops (Post (putL ops vs (pre.getD k []) a) o.dst (fun v Y => G k X Y ∧ V v Y)) [o] (putL ops vs (pre.getD k []) a) X)
    (r : wpUse P ops pre n C B G U a (k + 1) (L ++ [V]) l fin) : wpUse P ops pre n C B G U a k L (o :: l) fin :=
  ⟨V, hV, h, r⟩
theorem use_nil {ops : Array Oper} {pre : List (List Nat)} {n : Nat} {C : World → Prop} {B : Nat → World → Prop} {G : Nat → World → World → Prop} {U : Nat → Nat} {a : Act} {fin : List Pr → Prop} {k : Nat} {L : List Pr} (h : fin L) : wpUse P ops pre n C B G U a k L [] fin := h
end

theorem wpList_wanted {P : Program} {ops : Array Oper} {rest : List Oper} {o : Oper} {a : Act} {w : World} {Q : Exit → Act → World → Prop} (h : Region.wanted o (yielded ops a.tmps) = true) (k : o.wp P a w (fun a' w' => wpList P ops Q rest a' w') Q) : wpList P ops Q (o :: rest) a w := by
  simp only [wpList]
  rw [if_pos h]
  exact .inl k
theorem wpList_load_w {P : Program} {ops : Array Oper} {rest : List Oper} {o : Oper} {a : Act} {w : World} {Q : Exit → Act → World → Prop} {v p : Value} {ty : TypeId} {x : Operand} (ho : o.op = .load ty x) (hx : a.eval x = p) (h : (Instr.loadAt ty p).run P w = .ok v w) (hw : Region.wanted o (yielded ops a.tmps) = true)
    (k : wpList P ops Q rest (a.put o.dst v) w) : wpList P ops Q (o :: rest) a w := by
  refine wpList_wanted hw ?_
  unfold Oper.wp execOp
  simp only [ho, hx, Sem.run_bind, h, Result.andThen_ok, Sem.run_pure]
  exact k
theorem wpList_build_w {P : Program} {ops : Array Oper} {rest : List Oper} {o : Oper} {a : Act} {w : World} {Q : Exit → Act → World → Prop} {v : Value} {ty : TypeId} {ps : Array (Nat × Operand)} {qs : Array (Nat × Value)} (ho : o.op = .build ty ps) (hx : ps.map (fun (i, x) => (i, a.eval x)) = qs) (h : (Instr.build ty qs).run P w = .ok v w) (hw : Region.wanted o (yielded ops a.tmps) = true)
    (k : wpList P ops Q rest (a.put o.dst v) w) : wpList P ops Q (o :: rest) a w := by
  subst hx
  refine wpList_wanted hw ?_
  unfold Oper.wp execOp
  simp only [ho, Sem.run_bind, h, Result.andThen_ok, Sem.run_pure]
  exact k
theorem wpList_bin_w {P : Program} {ops : Array Oper} {rest : List Oper} {o : Oper} {a : Act} {w : World} {Q : Exit → Act → World → Prop} {v vx vy : Value} {op : BinOp} {t ty : TypeId} {x y : Operand} (ho : o.op = .binOp op t x y ty) (hx : a.eval x = vx) (hy : a.eval y = vy) (h : (do eqGuard op t x y vx vy; binOp op t vx vy : Sem Value).run P w = .ok v w) (hw : Region.wanted o (yielded ops a.tmps) = true)
    (k : wpList P ops Q rest (a.put o.dst v) w) : wpList P ops Q (o :: rest) a w := by
  subst hx hy
  refine wpList_wanted hw ?_
  unfold Oper.wp execOp
  simp only [ho]
  rw [Sem.run_bind, h]
  exact k
end Go.Rg

/- Bytes: slices that can be read, slices that are owned, texts; what a call may touch.
   Conditions: those that each theorem names. -/
namespace Go.Proofs.Ytkdbbdlkfpjdfaa
set_option maxRecDepth 100000
set_option linter.unusedVariables false
set_option linter.unusedSimpArgs false
set_option linter.unusedVariables false
set_option linter.unusedSimpArgs false
open Go.RowKit Go.Rg

abbrev str (l : List UInt8) : Value := .string ⟨l.toArray⟩
abbrev ptr (b : Nat) : Value := .pointer (some ⟨b, 0, none⟩)
def byteV (c : UInt8) : Value := .int .u8 (c.toNat : Int)
theorem block_set {w : World} {b i : Nat} {cs : Array Value} {T : TypeId} {f : Nat × Nat} (v : Value) (h : w.heap[b]? = some (.cells cs T f)) : (w.setCell ⟨b, i, none⟩ v).heap[b]? = some (.cells (cs.setIfInBounds i v) T f) := by
  obtain ⟨hlt, hk⟩ := Array.getElem?_eq_some_iff.1 h
  show (w.heap.modify b _)[b]? = _
  rw [Array.getElem?_eq_getElem (by rw [Array.size_modify]; exact hlt), Array.getElem_modify_self, hk]
  rfl
theorem blk_lt {w : World} {b : Nat} {o : Obj} (h : w.heap[b]? = some o) : b < w.heap.size := (Array.getElem?_eq_some_iff.1 h).1
theorem free_of {w : World} {b : Nat} {cs : Array Value} {T : TypeId} (hb : w.heap[b]? = some (.cells cs T (0, 0))) (i : Nat) : w.frozen? ⟨b, i, none⟩ = false := by
  simp [World.frozen?, hb]
theorem byte_lt (c : UInt8) : (c.toNat : Int) < 256 := by have := c.toNat_lt; omega

/-! ### What a call may touch -/
structure Touch (M : Nat → Prop) (w w' : World) : Prop where
  os : w'.os = w.os
  tape : w'.tape = w.tape
  output : w'.output = w.output
  size : w.heap.size ≤ w'.heap.size
  block : ∀ k, k < w.heap.size → ¬ M k → w'.heap[k]? = w.heap[k]?
theorem Touch.refl (M : Nat → Prop) (w : World) : Touch M w w := ⟨rfl, rfl, rfl, Nat.le_refl _, fun _ _ _ => rfl⟩
theorem Touch.drew (M : Nat → Prop) (w : World) : Touch M w w.drew := ⟨rfl, rfl, rfl, Nat.le_refl _, fun _ _ _ => rfl⟩
theorem Touch.trans {M M' : Nat → Prop} {x y z : World} (h : Touch M x y) (k : Touch M' y z) (hM : ∀ j, j < x.heap.size → M' j → M j) : Touch M x z :=
  ⟨k.os.trans h.os, k.tape.trans h.tape, k.output.trans h.output, Nat.le_trans h.size k.size, fun j hj hn => (k.block j (Nat.lt_of_lt_of_le hj h.size) (fun hm => hn (hM j hj hm))).trans (h.block j hj hn)⟩
theorem Touch.weak {M M' : Nat → Prop} {x y : World} (h : Touch M x y) (hM : ∀ j, j < x.heap.size → M j → M' j) : Touch M' x y :=
  ⟨h.os, h.tape, h.output, h.size, fun j hj hn => h.block j hj (fun hm => hn (hM j hj hm))⟩
theorem Touch.below {M : Nat → Prop} {n : Nat} {x y : World} (h : Touch M x y) (hM : ∀ j, M j → n ≤ j) (hn : n ≤ x.heap.size) : Below n x y :=
  ⟨h.os, h.tape, h.output, h.size, fun j hj => h.block j (by omega) (fun hm => by have := hM j hm; omega)⟩
theorem Touch.of_below {M : Nat → Prop} {x y : World} (h : Below x.heap.size x y) : Touch M x y := ⟨h.os, h.tape, h.output, h.size, fun j hj _ => h.block j hj⟩
theorem Touch.of_grown {M : Nat → Prop} {x y : World} {row : Option Nat} (h : x.grownBy y row) (hM : ∀ j, row = some j → M j) : Touch M x y := ⟨h.os, h.tape, h.output, h.size, fun j hj hn => h.block j hj (fun e => hn (hM j e.symm))⟩
theorem Touch.keep {M : Nat → Prop} {x y : World} (h : Touch M x y) {b : Nat} {o : Obj} (hb : x.heap[b]? = some o) (hn : ¬ M b) : y.heap[b]? = some o := (h.block b (blk_lt hb) hn).trans hb
theorem Touch.set {M : Nat → Prop} {x y : World} (h : Touch M x y) (b i : Nat) (v : Value) (hb : M b ∨ x.heap.size ≤ b) : Touch M x (y.setCell ⟨b, i, none⟩ v) :=
  ⟨h.os, h.tape, h.output, by show _ ≤ (y.heap.modify _ _).size; rw [Array.size_modify]; exact h.size, fun k hk hn => (Below.heap_setCell y _ v k (by rintro rfl; rcases hb with h | h; exact hn h; omega)).trans (h.block k hk hn)⟩
theorem Touch.alloc {M : Nat → Prop} {x y : World} (h : Touch M x y) (o : Obj) : Touch M x (y.alloc o) :=
  ⟨h.os, h.tape, h.output, by have := h.size; simp; omega, fun k hk hn => (Below.heap_alloc y _ _ (by have := h.size; omega)).trans (h.block k hk hn)⟩

/-! ### Slices of bytes that can be read -/
def BytesAt (w : World) (v : Value) (l : List UInt8) : Prop :=
  ∃ p cap, v = .slice p l.length cap ∧ (∀ i, i < l.length → ∃ g o, p = some ⟨g, o, none⟩ ∧ g < w.heap.size ∧ w.cell? ⟨g, o + i, none⟩ = some (.int .u8 ((l[i]?.getD 0).toNat : Int)))
theorem BytesAt.below {w w' : World} {v : Value} {l : List UInt8} (h : BytesAt w v l) (hB : Below w.heap.size w w') : BytesAt w' v l := by
  obtain ⟨p, cap, rfl, hf⟩ := h
  refine ⟨p, cap, rfl, fun i hi => ?_⟩
  obtain ⟨g, o, e, hg, hc⟩ := hf i hi
  exact ⟨g, o, e, Nat.lt_of_lt_of_le hg hB.size, (hB.cell (p := ⟨g, o + i, none⟩) hg).trans hc⟩
/-- .. where the slice's own block is kept. -/
theorem BytesAt.kept {w w' : World} {v : Value} {l : List UInt8} (h : BytesAt w v l) (hB : ∀ k, v.ownBlock = some k → k < w.heap.size → w'.heap[k]? = w.heap[k]?) (hz : w.heap.size ≤ w'.heap.size) : BytesAt w' v l := by
  obtain ⟨p, cap, rfl, hf⟩ := h
  refine ⟨p, cap, rfl, fun i hi => ?_⟩
  obtain ⟨g, o, rfl, hg, hc⟩ := hf i hi
  exact ⟨g, o, rfl, Nat.lt_of_lt_of_le hg hz, (World.cell?_of_block (w := w) (a := ⟨g, o + i, none⟩) (hB g rfl hg)).trans hc⟩
theorem BytesAt.block {w : World} {v : Value} {l : List UInt8} (h : BytesAt w v l) (h0 : 0 < l.length) : ∃ k, v.ownBlock = some k ∧ k < w.heap.size := by
  obtain ⟨p, cap, rfl, hf⟩ := h
  obtain ⟨g, o, rfl, hg, hc⟩ := hf 0 h0
  exact ⟨g, rfl, hg⟩
theorem BytesAt.shape {w : World} {v : Value} {l : List UInt8} (h : BytesAt w v l) : ∃ p cap, v = .slice p l.length cap := by
  obtain ⟨p, cap, rfl, _⟩ := h
  exact ⟨p, cap, rfl⟩
theorem add_plain (g o i : Nat) : (⟨g, o, none⟩ : Addr).add i = ⟨g, o + i, none⟩ := by
  unfold Addr.add
  split
  · rename_i h; subst h; rfl
  · rfl
theorem BytesAt.cells {w : World} {g : Addr} {n cap : Nat} {l : List UInt8} (h : BytesAt w (.slice (some g) n cap) l) : ∀ j u, (l.map byteV)[j]? = some u → w.cell? (g.add j) = some u := by
  obtain ⟨q, cap', e, hf⟩ := h
  cases e
  intro j u hu
  have hj : j < l.length := by have := (List.getElem?_eq_some_iff.1 hu).1; simpa using this
  obtain ⟨b, o, e, _, hc⟩ := hf j hj
  cases e
  rw [add_plain, hc]
  rw [List.getElem?_map, List.getElem?_eq_getElem hj] at hu
  simp at hu
  rw [← hu, List.getElem?_eq_getElem hj]; rfl
theorem BytesAt.sub {w : World} {p : Option Addr} {n cap : Nat} {b : List UInt8} (h : BytesAt w (.slice p n cap) b) (i j c : Nat) (hij : i + j ≤ b.length) :
    BytesAt w (.slice (Option.map (fun x => x.add i) p) j c) ((b.drop i).take j) := by
  obtain ⟨q, cap', e, hf⟩ := h
  cases e
  have hl : ((b.drop i).take j).length = j := by simp; omega
  refine ⟨_, c, by rw [hl], fun k hk => ?_⟩
  rw [hl] at hk
  obtain ⟨g, o, rfl, hg, hc⟩ := hf (i + k) (by omega)
  refine ⟨g, o + i, by rw [Option.map_some, add_plain], hg, ?_⟩
  rw [show o + i + k = o + (i + k) by omega, hc]
  simp [hk]
theorem BytesAt.pre {w : World} {p : Option Addr} {n cap : Nat} {b : List UInt8} (h : BytesAt w (.slice p n cap) b) (j c : Nat) (hj : j ≤ b.length) : BytesAt w (.slice p j c) (b.take j) := by
  obtain ⟨q, cap', e, hf⟩ := h
  cases e
  have hl : (b.take j).length = j := by simp; omega
  refine ⟨_, c, by rw [hl], fun k hk => ?_⟩
  rw [hl] at hk
  obtain ⟨g, o, rfl, hg, hc⟩ := hf k (by omega)
  exact ⟨g, o, rfl, hg, by rw [hc]; simp [hk]⟩
theorem BytesAt.none (w : World) (p : Option Addr) (c n : Nat) (l : List UInt8) (h : l.length = 0) (hn : n = 0) : BytesAt w (.slice p n c) l :=
  ⟨p, c, by rw [hn, h], fun i hi => by omega⟩
theorem bytes_lit (w : World) (l : List UInt8) (f : Nat × Nat) : BytesAt (w.alloc (.cells (l.map byteV).toArray 5 f)) (.slice (some ⟨w.heap.size, 0, .none⟩) l.length l.length) l := by
  refine ⟨_, _, rfl, fun i hi => ⟨w.heap.size, 0, rfl, by simp, ?_⟩⟩
  have := World.alloc_heap_new w (.cells (l.map byteV).toArray 5 f)
  simp only [World.cell?, this]
  simp [hi, byteV]

/-! ### Texts -/
theorem ba_app (l m : List UInt8) : (⟨l.toArray⟩ : ByteArray) ++ ⟨m.toArray⟩ = ⟨(l ++ m).toArray⟩ := by
  apply ByteArray.ext
  simp
theorem conv_bytes {w : World} {v : Value} {l : List UInt8} (h : BytesAt w v l) : (convert 41 9 v).run Try.prog w = .ok (str l) w := by
  obtain ⟨p, cap, rfl, hf⟩ := h
  cases p with
  | none =>
    cases l with
    | nil => exact run_convert_bytes_nil w 41 5 rfl rfl _ _ 9 rfl
    | cons c l => obtain ⟨g, o, e, _⟩ := hf 0 (by simp); cases e
  | some a =>
    refine run_convert_bytes_back w 41 9 5 a cap l rfl rfl rfl (fun j hj => ?_)
    obtain ⟨g, o, e, _, hc⟩ := hf j hj
    cases e
    rw [add_plain]
    simpa [List.getElem?_eq_getElem hj] using hc
theorem conv_one (c : UInt8) (w : World) : (convert 41 9 (.slice (some ⟨w.heap.size, 0, none⟩) 1 1)).run Try.prog (w.alloc (.cells #[.int .u8 (c.toNat : Int)] 5)) = .ok (str [c]) (w.alloc (.cells #[.int .u8 (c.toNat : Int)] 5)) :=
  conv_bytes (bytes_lit w [c] (0, 0))
theorem str_eq (l m : List UInt8) : ((⟨l.toArray⟩ : ByteArray) = ⟨m.toArray⟩) = (l = m) := by
  refine propext ⟨fun h => ?_, fun h => by rw [h]⟩
  have := congrArg (fun b => b.data.toList) h
  simpa using this
theorem len_ok (l m : List UInt8) (h : l.length + m.length ≤ 1000000000) : (9223372036854775807 < l.length + m.length) = False := propext ⟨fun h => by omega, False.elim⟩

/-! ### Slices of bytes that are owned -/
def OwnB (w : World) (v : Value) (l : List UInt8) : Prop := w.ownsRow 0 5 1 v l.length (l.map byteV)
theorem grown_of_below {W X : World} (h : Below W.heap.size W X) (row : Option Nat) : W.grownBy X row :=
  ⟨h.os, h.tape, h.output, h.size, fun k hk _ => h.block k hk⟩
theorem row_block {W : World} {s0 e n k : Nat} {v : Value} {xs : List Value} (h : W.ownsRow s0 e k v n xs) {g : Nat} (hg : v.ownBlock = some g) : ∃ c, W.heap[g]? = some (.cells c e (0, 0)) := by
  rcases h.2 with ⟨rfl, _⟩ | ⟨g', cap, cur, rfl, _, hgg, _⟩
  · cases hg
  · cases hg; exact ⟨_, hgg⟩
theorem row_kept {W X : World} {s0 e n k : Nat} {v : Value} {xs : List Value} (h : W.ownsRow s0 e k v n xs) (hg : ∀ g, v.ownBlock = some g → X.heap[g]? = W.heap[g]?) : X.ownsRow s0 e k v n xs := by
  refine ⟨h.1, ?_⟩
  rcases h.2 with hn | ⟨g, cap, cur, rfl, hb, hgg, rest⟩
  · exact .inl hn
  · exact .inr ⟨g, cap, cur, rfl, hb, (hg g rfl).trans hgg, rest⟩
theorem OwnB.at {w : World} {v : Value} {l : List UInt8} (h : OwnB w v l) : BytesAt w v l := by
  rcases h.2 with ⟨rfl, h0⟩ | ⟨g, cap, cur, rfl, _, hg, _, _, hs, ht⟩
  · exact BytesAt.none w .none 0 0 l h0 rfl
  · refine ⟨some ⟨g, 0, .none⟩, cap, rfl, fun i hi => ⟨g, 0, rfl, blk_lt hg, ?_⟩⟩
    have := h.cells (g := g) rfl i (byteV (l[i]'hi)) (by simp [hi])
    rw [add_plain] at this
    rw [this, List.getElem?_eq_getElem hi]; rfl
theorem OwnB.nil (w : World) : OwnB w (.slice none 0 0) [] := World.ownsRow_nil _ _ _ _
theorem OwnB.kept {w w' : World} {v : Value} {l : List UInt8} (h : OwnB w v l) (hg : ∀ g, v.ownBlock = some g → w'.heap[g]? = w.heap[g]?) : OwnB w' v l := row_kept h hg
theorem OwnB.shape {w : World} {v : Value} {l : List UInt8} (h : OwnB w v l) : ∃ p c, v = .slice p l.length c ∧ l.length ≤ c ∧ (p = .none → l.length = 0 ∧ c = 0) ∧ ∀ a, p = some a → ∃ g, a = ⟨g, 0, .none⟩ := by
  rcases h.2 with ⟨rfl, h0⟩ | ⟨g, cap, cur, rfl, _, hg, hc, _⟩
  · exact ⟨.none, 0, by rw [h0], by omega, fun _ => ⟨h0, rfl⟩, fun a e => by cases e⟩
  · exact ⟨_, cap, rfl, hc, fun e => by (cases e), fun a e => by cases e; exact ⟨g, rfl⟩⟩
theorem OwnB.lt {w : World} {v : Value} {l : List UInt8} (h : OwnB w v l) {k : Nat} (hk : v.ownBlock = some k) : k < w.heap.size := (World.ownsRow.lt h k hk).2

/-- The built-in append in the walk, with the place of what comes back. -/
theorem wpList_append_own_at {P : Program} (w : World) {ops : Array Oper} {rest : List Oper} {o : Oper} {a : Act} {Q : Exit → Act → World → Prop}
    (hg : o.guard = none) (s x : Operand) (t : TypeId) (hop : o.op = Op.call { callee := Callee.builtin Builtin.append, args := #[s, x], argTypes := #[t, t] })
    (base : Nat) (e : TypeId) (i : TypeInfo) (z : Value) (size bytes : Nat) (h1 : P.underlying t = some (.slice e)) (h2 : P.info? e = some i) (h3 : i.zero = some z) (h4 : i.size = size) (h5 : i.bytes = bytes) (h6 : z.cells.size = size) (h7 : 0 < size)
    (v : Value) (k : Nat) (xs : List Value) (hs : a.eval s = v) (hown : w.ownsRow base e size v k xs) (ad : Addr) (m c : Nat) (news : List Value) (hx : a.eval x = .slice (some ad) m c) (hn : news.length = m * size)
    (hc : ∀ j u, news[j]? = some u → w.cell? (ad.add j) = some u) (h1c : ∀ u ∈ news, u.oneCell' = true) (b1 : k + m ≤ maxLen) (b2 : (k + m) * bytes ≤ 140737488355328) (b3 : base ≤ w.heap.size)
    (hK : ∀ v' w', w'.ownsRow base e size v' (k + m) (xs ++ news) → w.grownBy w' v.ownBlock → (v' = .slice none 0 0 ↔ v = .slice none 0 0 ∧ m = 0) → (v'.ownBlock = v.ownBlock ∨ v'.ownBlock = some w.heap.size) → wpList P ops Q rest (a.put o.dst v') w') :
    wpList P ops Q (o :: rest) a w := by
  refine wpList_plain hg fun K hK' => ?_
  obtain ⟨v', w', hrun, r1, r2, r3, r4⟩ := run_append_own_at (P := P) w base t o.type e i z size bytes h1 h2 h3 h4 h5 h6 h7 v k xs hown ad m c news hn hc h1c b1 b2 b3
  unfold Oper.wp
  simp [execOp, hop, resolve, invoke, builtin, hs, hx, hrun, Result.andThen]
  exact hK' _ _ (hK v' w' r1 r2 r3 r4)
theorem run_append_none {P : Program} (w : World) (base : Nat) (t ty e : TypeId) (i : TypeInfo) (size : Nat) (ht : P.underlying t = some (.slice e)) (hi : P.info? e = some i)
    (v : Value) (n c : Nat) (xs : List Value) (hown : w.ownsRow base e size v n xs) :
    (Builtin.append_ #[t, t] ty #[v, .slice none 0 c]).run P w = .ok v w := by
  rcases hown.2 with ⟨rfl, rfl⟩ | ⟨g, cap, cur, rfl, _, _, hnc, _⟩
  · simp [Builtin.append_, run_underlying ht, sizeOf, typeInfo, hi, Builtin.lenOf, Builtin.firstCells]
  · simp [Builtin.append_, run_underlying ht, sizeOf, typeInfo, hi, Builtin.lenOf, Builtin.firstCells, hnc, storeCells]
/-- .. of nothing. -/
theorem wpList_append_own_none {P : Program} (w : World) {ops : Array Oper} {rest : List Oper} {o : Oper} {a : Act} {Q : Exit → Act → World → Prop}
    (hg : o.guard = none) (s x : Operand) (t : TypeId) (hop : o.op = Op.call { callee := Callee.builtin Builtin.append, args := #[s, x], argTypes := #[t, t] })
    (base : Nat) (e : TypeId) (i : TypeInfo) (size : Nat) (h1 : P.underlying t = some (.slice e)) (h2 : P.info? e = some i) (h4 : i.size = size)
    (v : Value) (k c : Nat) (xs : List Value) (hs : a.eval s = v) (hown : w.ownsRow base e size v k xs) (hx : a.eval x = .slice none 0 c)
    (hK : wpList P ops Q rest (a.put o.dst v) w) : wpList P ops Q (o :: rest) a w := by
  refine wpList_plain hg fun K hK' => ?_
  have hrun := run_append_none (P := P) w base t o.type e i size h1 h2 v k c xs hown
  unfold Oper.wp
  simp [execOp, hop, resolve, invoke, builtin, hs, hx, hrun, Result.andThen]
  exact hK' _ _ hK
theorem bytes_oneCell (l : List UInt8) : ∀ u ∈ l.map byteV, u.oneCell' = true := by
  intro u hu
  obtain ⟨_, _, rfl⟩ := List.mem_map.1 hu
  rfl
/-- A slice of one element that was just made. -/
def LitAt (lo : Nat) (u : Value) (T : TypeId) (v : Value) (X : World) : Prop := ∃ g, v = .slice (some ⟨g, 0, none⟩) 1 1 ∧ lo ≤ g ∧ X.heap[g]? = some (.cells #[u] T (0, 0))
theorem infoC : (Try.prog.info? 5).map (fun i => (i.zero, i.size, i.bytes)) = some (some (.int .u8 0), 1, 1) := by kernel_rfl
end Go.Proofs.Ytkdbbdlkfpjdfaa

/- Rows of cells in a block: reading and writing a part of it whole.
   Conditions: those that each theorem names. -/
namespace Go.Proofs.Ytkdbbdlkfpjdfaa
set_option maxRecDepth 100000
set_option linter.unusedVariables false
set_option linter.unusedSimpArgs false
set_option linter.unusedVariables false
set_option linter.unusedSimpArgs false
open Go.RowKit Go.Rg

theorem cell_at {w : World} {b : Nat} {cs : List Value} {T : TypeId} {f : Nat × Nat} (h : w.heap[b]? = some (.cells cs.toArray T f)) (i : Nat) : w.cell? ⟨b, i, none⟩ = cs[i]? := by
  simp [World.cell?, h]
theorem blk_range {w : World} {b : Nat} {cs : List Value} {T : TypeId} {f : Nat × Nat} (h : w.heap[b]? = some (.cells cs.toArray T f)) (o : Nat) (mid : List Value) (hm : ∀ j v, mid[j]? = some v → cs[o + j]? = some v) : w.rangeAt b o mid :=
  fun j v hv => (cell_at h _).trans (hm j v hv)
theorem blk_all {w : World} {b : Nat} {cs : List Value} {T : TypeId} {f : Nat × Nat} (h : w.heap[b]? = some (.cells cs.toArray T f)) : w.rangeAt b 0 cs :=
  blk_range h 0 cs (fun j v hv => by rw [Nat.zero_add]; exact hv)
theorem blk_there {w : World} {b : Nat} {cs : List Value} {T : TypeId} (h : w.heap[b]? = some (.cells cs.toArray T (0, 0))) (o n : Nat) (hn : o + n ≤ cs.length) : w.there b o n := by
  intro j hj
  refine ⟨?_, free_of h _⟩
  rw [cell_at h, List.getElem?_eq_getElem (by omega)]; rfl
/-- What stands in a list where 'vs' is written over it from 'o' on. -/
def splice (cs : List Value) (o : Nat) (vs : List Value) : List Value := cs.take o ++ vs ++ cs.drop (o + vs.length)
theorem splice_length {cs vs : List Value} {o : Nat} (h : o + vs.length ≤ cs.length) : (splice cs o vs).length = cs.length := by
  unfold splice; simp; omega
theorem splice_mid {pre mid post vs : List Value} {o : Nat} (ho : o = pre.length) (h : vs.length = mid.length) : splice (pre ++ mid ++ post) o vs = pre ++ vs ++ post := by
  subst ho
  unfold splice
  have e1 : (pre ++ mid ++ post).take pre.length = pre := by rw [List.append_assoc, List.take_left']; rfl
  have e2 : (pre ++ mid ++ post).drop (pre.length + vs.length) = post := by
    rw [List.drop_append_of_le_length (by simp; omega), List.drop_of_length_le (by simp; omega)]; rfl
  rw [e1, e2]
theorem splice_all {cs vs : List Value} (h : vs.length = cs.length) : splice cs 0 vs = vs := by
  unfold splice; simp [← h]
theorem heap_setCells (b : Nat) (T : TypeId) (f : Nat × Nat) : ∀ (vs : List Value) (o : Nat) (cs : List Value) (w : World), w.heap[b]? = some (.cells cs.toArray T f) → o + vs.length ≤ cs.length →
    (w.setCells b o vs).heap[b]? = some (.cells (splice cs o vs).toArray T f)
  | [], o, cs, w, h, _ => by
    show w.heap[b]? = _
    rw [h]; unfold splice; simp
  | v :: r, o, cs, w, h, hl => by
    rw [World.setCells]
    have h1 : (w.setCell ⟨b, o, none⟩ v).heap[b]? = some (.cells (cs.set o v).toArray T f) := by
      rw [block_set v h]; simp
    rw [heap_setCells b T f r (o + 1) _ _ h1 (by simp at hl ⊢; omega)]
    congr 2
    unfold splice
    simp only [List.length_cons] at hl ⊢
    have e1 : (cs.set o v).take (o + 1) = cs.take o ++ [v] := by
      rw [List.take_set, List.take_succ_eq_append_getElem (by omega), List.set_append_right _ _ (by rw [List.length_take]; omega)]
      have : o - min o cs.length = 0 := by omega
      simp [this]
    have e2 : (cs.set o v).drop (o + 1 + r.length) = cs.drop (o + (r.length + 1)) := by
      rw [List.drop_set_of_lt (by omega), show o + 1 + r.length = o + (r.length + 1) by omega]
    rw [e1, e2]; simp
theorem heap_setCells_ne (b : Nat) : ∀ (vs : List Value) (o : Nat) (w : World) (k : Nat), k ≠ b → (w.setCells b o vs).heap[k]? = w.heap[k]?
  | [], _, _, _, _ => rfl
  | v :: r, o, w, k, hk => by
    rw [World.setCells, heap_setCells_ne b r (o + 1) _ k hk]
    exact Below.heap_setCell w _ v k hk
theorem size_setCells (b : Nat) : ∀ (vs : List Value) (o : Nat) (w : World), (w.setCells b o vs).heap.size = w.heap.size
  | [], _, _ => rfl
  | v :: r, o, w => by
    rw [World.setCells, size_setCells b r (o + 1) _]
    show (w.heap.modify _ _).size = _
    rw [Array.size_modify]
theorem os_setCells (b : Nat) : ∀ (vs : List Value) (o : Nat) (w : World), (w.setCells b o vs).os = w.os ∧ (w.setCells b o vs).tape = w.tape ∧ (w.setCells b o vs).output = w.output
  | [], _, _ => ⟨rfl, rfl, rfl⟩
  | v :: r, o, w => by
    rw [World.setCells]
    exact os_setCells b r (o + 1) _
theorem Touch.setCells {M : Nat → Prop} {x y : World} (h : Touch M x y) (b o : Nat) (vs : List Value) (hb : M b ∨ x.heap.size ≤ b) : Touch M x (y.setCells b o vs) := by
  obtain ⟨h1, h2, h3⟩ := os_setCells b vs o y
  exact ⟨h1.trans h.os, h2.trans h.tape, h3.trans h.output, by rw [size_setCells]; exact h.size,
    fun k hk hn => (heap_setCells_ne b vs o y k (by rintro rfl; rcases hb with h | h; exact hn h; omega)).trans (h.block k hk hn)⟩
theorem Below.setCells {n : Nat} {x y : World} (h : Below n x y) (b o : Nat) (vs : List Value) (hb : n ≤ b) : Below n x (y.setCells b o vs) := by
  obtain ⟨h1, h2, h3⟩ := os_setCells b vs o y
  exact ⟨h1.trans h.os, h2.trans h.tape, h3.trans h.output, by rw [size_setCells]; exact h.size,
    fun k hk => (heap_setCells_ne b vs o y k (by omega)).trans (h.block k hk)⟩
theorem Touch.to_below {M : Nat → Prop} {n : Nat} {x y z : World} (h : Below n x y) (k : Touch M y z) (hM : ∀ j, M j → n ≤ j) (hn : n ≤ y.heap.size) : Below n x z :=
  h.trans (k.below hM hn)
/-- A list of cells that are made of fixed parts. -/
theorem set_append_mid (pre post : List Value) (x v : Value) (i : Nat) (h : i = pre.length) : (pre ++ x :: post).set i v = pre ++ v :: post := by
  subst h; simp
theorem set_cell {w : World} {b : Nat} {cs : List Value} {T : TypeId} {f : Nat × Nat} (i : Nat) (v : Value) (h : w.heap[b]? = some (.cells cs.toArray T f)) : (w.setCell ⟨b, i, none⟩ v).heap[b]? = some (.cells (cs.set i v).toArray T f) := by
  rw [block_set v h]; simp
theorem calm_load {P : Program} {o : Oper} {a : Act} {C : World → Prop} {w : World} {v p : Value} {ty : TypeId} {x : Operand} (ho : o.op = .load ty x) (hx : a.eval x = p) (h : (Instr.loadAt ty p).run P w = .ok v w) (hw : C w) : o.quietAt P a C w v := by
  unfold Oper.quietAt execOp
  simp only [ho, hx, Sem.run_bind, h, Result.andThen_ok, Sem.run_pure]
  exact ⟨rfl, rfl⟩
theorem calm_build {P : Program} {o : Oper} {a : Act} {C : World → Prop} {w : World} {v : Value} {ty : TypeId} {ps : Array (Nat × Operand)} {qs : Array (Nat × Value)} (ho : o.op = .build ty ps) (hx : ps.map (fun (i, x) => (i, a.eval x)) = qs) (h : (Instr.build ty qs).run P w = .ok v w) (hw : C w) : o.quietAt P a C w v := by
  subst hx
  unfold Oper.quietAt execOp
  simp only [ho, Sem.run_bind, h, Result.andThen_ok, Sem.run_pure]
  exact ⟨rfl, rfl⟩
theorem wpList_load_at {P : Program} {ops : Array Oper} {rest : List Oper} {o : Oper} {a : Act} {w : World} {Q : Exit → Act → World → Prop} {v p : Value} (hgd : o.guard = none) (ty : TypeId) (x : Operand) (ho : o.op = .load ty x) (hx : a.eval x = p) (h : (Instr.loadAt ty p).run P w = .ok v w)
    (k : wpList P ops Q rest (a.put o.dst v) w) : wpList P ops Q (o :: rest) a w := by
  refine wpList_plain hgd fun _ hK => ?_
  unfold Oper.wp execOp
  simp only [ho, hx, Sem.run_bind, h, Result.andThen_ok, Sem.run_pure]
  exact hK _ _ k
theorem wpList_store_at {P : Program} {ops : Array Oper} {rest : List Oper} {o : Oper} {a : Act} {w w' : World} {Q : Exit → Act → World → Prop} {v p : Value} (hgd : o.guard = none) (ty : TypeId) (x y : Operand) (ho : o.op = .store ty x y) (hx : a.eval x = p) (hy : a.eval y = v) (h : (Instr.storeAt ty p v).run P w = .ok () w')
    (k : wpList P ops Q rest (a.put o.dst undef) w') : wpList P ops Q (o :: rest) a w := by
  refine wpList_plain hgd fun _ hK => ?_
  unfold Oper.wp execOp
  simp only [ho, hx, hy, Sem.run_bind, h, Result.andThen_ok, Sem.run_pure]
  exact hK _ _ k
theorem wpList_build_at {P : Program} {ops : Array Oper} {rest : List Oper} {o : Oper} {a : Act} {w : World} {Q : Exit → Act → World → Prop} {v : Value} {ps : Array (Nat × Operand)} {qs : Array (Nat × Value)} (hgd : o.guard = none) (ty : TypeId) (ho : o.op = .build ty ps) (hx : ps.map (fun (i, x) => (i, a.eval x)) = qs) (h : (Instr.build ty qs).run P w = .ok v w)
    (k : wpList P ops Q rest (a.put o.dst v) w) : wpList P ops Q (o :: rest) a w := by
  subst hx
  refine wpList_plain hgd fun _ hK => ?_
  unfold Oper.wp execOp
  simp only [ho, Sem.run_bind, h, Result.andThen_ok, Sem.run_pure]
  exact hK _ _ k
end Go.Proofs.Ytkdbbdlkfpjdfaa

/- A region that draws its order, with calls that move one object from state to state, one behind the other.
   Conditions: the states are told apart by the world; the calls stand in one chain; all the rest keeps the states. -/
namespace Go.Rg
set_option maxRecDepth 100000
set_option linter.unusedVariables false
set_option linter.unusedSimpArgs false
open Go Go.RowKit Go.Proofs.Ytkdbbdlkfpjdfaa
set_option linter.unusedVariables false

section
variable {P : Program}
abbrev Tch (M : Nat → Prop) (X Y : World) : Prop := Go.Proofs.Ytkdbbdlkfpjdfaa.Touch M X Y
/-- The static check: the calls of the chain are ordered by 'pre', and told apart. -/
def chOk (pre : List (List Nat)) (ch : Nat → Option Nat) (m n : Nat) : Bool :=
  (List.range n).all fun k => match ch k with
    | none => true
    | some c => decide (c < m) && (c == 0 || (pre.getD k []).any fun j => ch j == some (c - 1)) &&
      ((List.range n).all fun j => match ch j with
        | none => true
        | some c' => j == k || (c' != c && (!decide (c' < c) || (pre.getD k []).contains j)))
theorem chOk_spec {pre : List (List Nat)} {ch : Nat → Option Nat} {m n : Nat} (h : chOk pre ch m n = true) {k c : Nat} (hk : k < n) (hc : ch k = some c) :
    c < m ∧ (c = 0 ∨ ∃ j ∈ pre.getD k [], ch j = some (c - 1)) ∧ ∀ j c', j < n → ch j = some c' → j ≠ k → c' ≠ c ∧ (c' < c → j ∈ pre.getD k []) := by
  unfold chOk at h
  have := List.all_eq_true.1 h k (List.mem_range.2 hk)
  rw [hc] at this
  simp only [Bool.and_eq_true, decide_eq_true_eq, Bool.or_eq_true, beq_iff_eq, List.any_eq_true, List.all_eq_true] at this
  obtain ⟨⟨h1, h2⟩, h3⟩ := this
  refine ⟨h1, h2, fun j c' hj hc' hjk => ?_⟩
  have := h3 j (List.mem_range.2 hj)
  rw [hc'] at this
  simp at this
  rcases this with e | ⟨e1, e2⟩
  · exact absurd e hjk
  · refine ⟨e1, fun hlt => ?_⟩
    rcases e2 with e | e
    · omega
    · simpa using e

def chSteps (P : Program) (ops : Array Oper) (pre : List (List Nat)) (ch : Nat → Option Nat) (St : Nat → World → Prop) (D : World → Prop) (M : Nat → Prop) (a : Act) : Nat → List Pr → List Oper → (List Pr → Prop) → Prop
  | _, L, [], fin => fin L
  | k, L, o :: l, fin => ∃ V : Pr, (∀ v X Y, D X → Tch M X Y → V v X → V v Y) ∧
      (∀ (vs : Nat → Value) (X : World), D X → (∀ c, ch k = some c → St c X) → (∀ j ∈ pre.getD k [], (L.getD j anyPr) (vs j) X) →
        wpList P ops (Post (putL ops vs (pre.getD k []) a) o.dst (fun v Y => (Tch M X Y ∧ (match ch k with | none => Below X.heap.size X Y | some c => St (c + 1) Y)) ∧ V v Y)) [o] (putL ops vs (pre.getD k []) a) X) ∧
      chSteps P ops pre ch St D M a (k + 1) (L ++ [V]) l fin

/-- From the chain's steps to the steps. -/
theorem steps_of_ch {ops : Array Oper} {pre : List (List Nat)} {ch : Nat → Option Nat} {St : Nat → World → Prop} {D : World → Prop} {M : Nat → Prop} {a : Act} {m n : Nat} {fin fin' : List Pr → Prop}
    (hSt : ∀ i j X, i ≤ m → j ≤ m → St i X → St j X → i = j) (hB : ∀ i X Y, St i X → Below X.heap.size X Y → St i Y) (hc : chOk pre ch m n = true) (hpn : ∀ i, i < n → ∀ j ∈ pre.getD i [], j < i)
    (hfin : ∀ L L' : List Pr, L.length = n → L.length = L'.length → (∀ j, j < L.length → L'.getD j anyPr = fun v X => (L.getD j anyPr) v X ∧ ∀ c, ch j = some c → ∃ i, c + 1 ≤ i ∧ i ≤ m ∧ St i X) → fin L → fin' L') :
    ∀ (l : List Oper) (k : Nat) (L L' : List Pr), k + l.length = n → L.length = k → L.length = L'.length → (∀ j, j < L.length → L'.getD j anyPr = fun v X => (L.getD j anyPr) v X ∧ ∀ c, ch j = some c → ∃ i, c + 1 ≤ i ∧ i ≤ m ∧ St i X) →
      chSteps P ops pre ch St D M a k L l fin →
      wpSteps P ops pre n (fun X => D X ∧ ∃ i, i ≤ m ∧ St i X) (fun j X => ∀ c, ch j = some c → ∃ i, i ≤ c ∧ St i X)
        (fun j X Y => Tch M X Y ∧ (match ch j with | none => Below X.heap.size X Y | some c => St c X ∧ St (c + 1) Y)) a k L' l fin'
  | [], k, L, L', hn, hk, hl, hLL, h => hfin L L' (by simp at hn; omega) hl hLL h
  | o :: l, k, L, L', hn, hk, hl, hLL, h => by
    obtain ⟨V, h1, h2, h3⟩ := h
    have hkn : k < n := by simp only [List.length_cons] at hn; omega
    refine ⟨fun v X => V v X ∧ ∀ c, ch k = some c → ∃ i, c + 1 ≤ i ∧ i ≤ m ∧ St i X, ?_, ?_, ?_⟩
    · rintro j v X Y hj hjk hjp ⟨hD, i0, hi0, hs0⟩ hBj ⟨hT, hG⟩ ⟨hV, hf⟩
      refine ⟨h1 v X Y hD hT hV, fun c hcc => ?_⟩
      obtain ⟨i, hi1, hi2, hi3⟩ := hf c hcc
      cases hj' : ch j with
      | none => rw [hj'] at hG; exact ⟨i, hi1, hi2, hB i X Y hi3 hG⟩
      | some d =>
        rw [hj'] at hG
        have hdm := (chOk_spec hc hj hj').1
        have hid := hSt i d X hi2 (by omega) hi3 hG.1
        subst hid
        exact ⟨i + 1, by omega, by omega, hG.2⟩
    · rintro vs X ⟨hD, i0, hi0, hs0⟩ hBk hA
      have hA1 : ∀ j ∈ pre.getD k [], (L.getD j anyPr) (vs j) X := fun j hj => by
        have hjk := hpn k hkn j hj
        have := hA j hj
        rw [hLL j (by omega)] at this
        exact this.1
      have hSc : ∀ c, ch k = some c → St c X := by
        intro c hcc
        obtain ⟨i, hi1, hi2⟩ := hBk c hcc
        have hspec := chOk_spec hc hkn hcc
        rcases hspec.2.1 with rfl | ⟨j, hj, hjc⟩
        · obtain rfl : i = 0 := by omega
          exact hi2
        · have hjk := hpn k hkn j hj
          have := hA j hj
          rw [hLL j (by omega)] at this
          obtain ⟨i', hi'1, hi'2, hi'3⟩ := this.2 _ hjc
          have e := hSt i i' X (by omega) hi'2 hi2 hi'3
          by_cases h0 : c = 0
          · subst h0
            obtain rfl : i = 0 := by omega
            exact hi2
          · obtain rfl : i = c := by omega
            exact hi2
      refine wpList_mono_post ?_ (h2 vs X hD hSc hA1)
      rintro v Y ⟨⟨hT, hG⟩, hV⟩
      cases hk' : ch k with
      | none => rw [hk'] at hG; exact ⟨⟨hT, by rw [hk']; exact hG⟩, hV, fun c hcc => by cases hcc⟩
      | some c =>
        rw [hk'] at hG
        exact ⟨⟨hT, by rw [hk']; exact ⟨hSc c hk', hG⟩⟩, hV, fun c' hcc => by cases hcc; exact ⟨c + 1, Nat.le_refl _, (chOk_spec hc hkn hk').1, hG⟩⟩
    · refine steps_of_ch hSt hB hc hpn hfin l (k + 1) (L ++ [V]) _ (by simp only [List.length_cons] at hn; omega) (by simp [hk]) (by simp [hl]) ?_ h3
      intro j hj
      rw [List.length_append, List.length_singleton] at hj
      by_cases hjL : j < L.length
      · have e1 : (L' ++ [fun v X => V v X ∧ ∀ c, ch k = some c → ∃ i, c + 1 ≤ i ∧ i ≤ m ∧ St i X]).getD j anyPr = L'.getD j anyPr := by
          rw [List.getD_eq_getElem?_getD, List.getD_eq_getElem?_getD, List.getElem?_append_left (by omega)]
        have e2 : (L ++ [V]).getD j anyPr = L.getD j anyPr := by
          rw [List.getD_eq_getElem?_getD, List.getD_eq_getElem?_getD, List.getElem?_append_left hjL]
        rw [e1, e2]
        exact hLL j hjL
      · obtain rfl : j = L.length := by omega
        have e1 : (L' ++ [fun v X => V v X ∧ ∀ c, ch k = some c → ∃ i, c + 1 ≤ i ∧ i ≤ m ∧ St i X]).getD L.length anyPr = fun v X => V v X ∧ ∀ c, ch k = some c → ∃ i, c + 1 ≤ i ∧ i ≤ m ∧ St i X := by
          rw [List.getD_eq_getElem?_getD, hl]; simp
        have e2 : (L ++ [V]).getD L.length anyPr = V := by
          rw [List.getD_eq_getElem?_getD]; simp
        rw [e1, e2, hk]

/-- **THE LAW.** -/
theorem wp_region_chain {id : Nat} {Q : Exit → Act → World → Prop} {a : Act} {w : World} {l : List Oper} (pre : List (List Nat)) (ch : Nat → Option Nat) (m : Nat) (St : Nat → World → Prop) (D : World → Prop) (M : Nat → Prop)
    (hm : P.follows .mixedOrders = true) (hc : okPre l.toArray pre = true) (hp : preOk pre l.length = true) (hch : chOk pre ch m l.length = true) (hne : 0 < l.length)
    (hSt : ∀ i j X, i ≤ m → j ≤ m → St i X → St j X → i = j) (hB : ∀ i X Y, St i X → Below X.heap.size X Y → St i Y) (hD0 : D w.drew) (hDT : ∀ X Y, D X → Tch M X Y → D Y) (h0 : St 0 w.drew)
    (h : chSteps P l.toArray pre ch St D M a 0 [] l (fun L => ∀ (vs : Nat → Value) (X : World), D X → (∀ i < l.length, (L.getD i anyPr) (vs i) X) → (∀ k, k < l.length → ch k = some (m - 1) → 0 < m → St m X) → Q .normal (putL l.toArray vs (List.range l.length) a) X)) :
    (Code.region id l.toArray true).wp P Q a w := by
  have hpn : ∀ i, i < l.length → ∀ j ∈ pre.getD i [], j < i := fun i hi j hj => by
    unfold preOk at hp
    have := List.all_eq_true.1 (List.all_eq_true.1 hp i (List.mem_range.2 hi)) j hj
    simpa using this
  refine wp_region_steps pre (fun X => D X ∧ ∃ i, i ≤ m ∧ St i X) (fun j X => ∀ c, ch j = some c → ∃ i, i ≤ c ∧ St i X)
    (fun j X Y => Tch M X Y ∧ (match ch j with | none => Below X.heap.size X Y | some c => St c X ∧ St (c + 1) Y)) hm hc hp hne ⟨hD0, 0, Nat.zero_le _, h0⟩ (fun j c _ => ⟨0, Nat.zero_le _, h0⟩) ?_ ?_ ?_
  · rintro j X Y hj ⟨hD, i, hi, hs⟩ hBj ⟨hT, hG⟩
    refine ⟨hDT X Y hD hT, ?_⟩
    cases hj' : ch j with
    | none => rw [hj'] at hG; exact ⟨i, hi, hB i X Y hs hG⟩
    | some c => rw [hj'] at hG; exact ⟨c + 1, (chOk_spec hch hj hj').1, hG.2⟩
  · rintro i j X Y hi hj hji hpre ⟨hD, i0, hi0, hs⟩ hBj ⟨hT, hG⟩ hBi c hcc
    obtain ⟨d, hd1, hd2⟩ := hBi c hcc
    cases hj' : ch j with
    | none => rw [hj'] at hG; exact ⟨d, hd1, hB d X Y hd2 hG⟩
    | some c' =>
      rw [hj'] at hG
      have hcm := (chOk_spec hch hi hcc).1
      have hc'm := (chOk_spec hch hj hj').1
      have e := hSt d c' X (by omega) (by omega) hd2 hG.1
      have hne := ((chOk_spec hch hi hcc).2.2 j c' hj hj' hji).1
      refine ⟨c' + 1, ?_, hG.2⟩
      omega
  · refine steps_of_ch (m := m) (n := l.length) hSt hB hch hpn ?_ l 0 [] [] (by simp) rfl rfl (fun j hj => by simp at hj) h
    intro L L' hLn hl hLL hf vs X hC hA
    refine hf vs X hC.1 (fun i hi => ?_) (fun k hk hkc hm0 => ?_)
    · have := hA i hi
      rw [hLL i (by omega)] at this
      exact this.1
    · have := hA k hk
      rw [hLL k (by omega)] at this
      obtain ⟨i, h1, h2, h3⟩ := this.2 _ hkc
      obtain rfl : i = m := by omega
      exact h3
theorem ch_fx {ops : Array Oper} {pre : List (List Nat)} {ch : Nat → Option Nat} {St : Nat → World → Prop} {D : World → Prop} {M : Nat → Prop} {a : Act} {fin : List Pr → Prop} {k : Nat} {L : List Pr} {o : Oper} {l : List Oper} (hk : ch k = none) (c : Value)
    (h : ∀ (vs : Nat → Value) (X : World), D X → (∀ j ∈ pre.getD k [], (L.getD j anyPr) (vs j) X) →
        wpList P ops (Post (putL ops vs (pre.getD k []) a) o.dst (fun v Y => Below X.heap.size X Y ∧ v = c)) [o] (putL ops vs (pre.getD k []) a) X)
    (r : chSteps P ops pre ch St D M a (k + 1) (L ++ [fun v _ => v = c]) l fin) : chSteps P ops pre ch St D M a k L (o :: l) fin := by
  refine ⟨fun v _ => v = c, fun _ _ _ _ _ h => h, fun vs X hD _ hA => ?_, r⟩
  refine wpList_mono_post ?_ (h vs X hD hA)
  rintro v Y ⟨hB, e⟩
  rw [hk]
  exact ⟨⟨Go.Proofs.Ytkdbbdlkfpjdfaa.Touch.of_below hB, hB⟩, e⟩
theorem ch_call {ops : Array Oper} {pre : List (List Nat)} {ch : Nat → Option Nat} {St : Nat → World → Prop} {D : World → Prop} {M : Nat → Prop} {a : Act} {fin : List Pr → Prop} {k c : Nat} {L : List Pr} {o : Oper} {l : List Oper} (hk : ch k = some c) (V : Pr) (hV : ∀ v X Y, D X → Tch M X Y → V v X → V v Y)
    (h : ∀ (vs : Nat → Value) (X : World), D X → St c X → (∀ j ∈ pre.getD k [], (L.getD j anyPr) (vs j) X) →
        wpList P ops (Post (putL ops vs (pre.getD k []) a) o.dst (fun v Y => (Tch M X Y ∧ St (c + 1) Y) ∧ V v Y)) [o] (putL ops vs (pre.getD k []) a) X)
    (r : chSteps P ops pre ch St D M a (k + 1) (L ++ [V]) l fin) : chSteps P ops pre ch St D M a k L (o :: l) fin := by
  refine ⟨V, hV, fun vs X hD hS hA => ?_, r⟩
  refine wpList_mono_post ?_ (h vs X hD (hS c hk) hA)
  rintro v Y ⟨hB, e⟩
  rw [hk]
  exact ⟨hB, e⟩
theorem ch_pr {ops : Array Oper} {pre : List (List Nat)} {ch : Nat → Option Nat} {St : Nat → World → Prop} {D : World → Prop} {M : Nat → Prop} {a : Act} {fin : List Pr → Prop} {k : Nat} {L : List Pr} {o : Oper} {l : List Oper} (hk : ch k = none) (V : Pr) (hV : ∀ v X Y, D X → Tch M X Y → V v X → V v Y)
    (h : ∀ (vs : Nat → Value) (X : World), D X → (∀ j ∈ pre.getD k [], (L.getD j anyPr) (vs j) X) →
        wpList P ops (Post (putL ops vs (pre.getD k []) a) o.dst (fun v Y => Below X.heap.size X Y ∧ V v Y)) [o] (putL ops vs (pre.getD k []) a) X)
    (r : chSteps P ops pre ch St D M a (k + 1) (L ++ [V]) l fin) : chSteps P ops pre ch St D M a k L (o :: l) fin := by
  refine ⟨V, hV, fun vs X hD _ hA => ?_, r⟩
  refine wpList_mono_post ?_ (h vs X hD hA)
  rintro v Y ⟨hB, e⟩
  rw [hk]
  exact ⟨⟨Go.Proofs.Ytkdbbdlkfpjdfaa.Touch.of_below hB, hB⟩, e⟩
theorem ch_nil {ops : Array Oper} {pre : List (List Nat)} {ch : Nat → Option Nat} {St : Nat → World → Prop} {D : World → Prop} {M : Nat → Prop} {a : Act} {fin : List Pr → Prop} {k : Nat} {L : List Pr} (h : fin L) : chSteps P ops pre ch St D M a k L [] fin := h
end
end Go.Rg

/- Regions that draw their order, step by step, with a tail that stands behind all the rest.
   Conditions: those that each theorem names. -/
namespace Go.Rg
set_option maxRecDepth 100000
set_option linter.unusedVariables false
set_option linter.unusedSimpArgs false
open Go Go.RowKit Go.Proofs.Ytkdbbdlkfpjdfaa
set_option linter.unusedVariables false

section
variable {P : Program}
/-- The rest is a chain behind all the others. -/
def tailOk (ops : Array Oper) (n : Nat) : Bool :=
  decide (n < ops.size) && Region.sinkB .any ops n && Region.chainB .any ops n && Region.seqB .any ops (ops.size - n) n ((Array.range ops.size).map fun j => decide (j < n))
theorem listed_eq {n m : Nat} {listed : Array Bool} (hs : listed.size = m) (hl : ∀ j, listed.getD j false = true ↔ j < n) : listed = (Array.range m).map fun j => decide (j < n) := by
  apply Array.ext
  · simp [hs]
  · intro j h1 h2
    have := hl j
    rw [show listed.getD j false = listed[j] by simp [Array.getD, h1]] at this
    simp only [Array.getElem_map, Array.getElem_range]
    by_cases hj : j < n
    · rw [this.2 hj, decide_eq_true hj]
    · rw [decide_eq_false hj]
      cases h : listed[j] with
      | false => rfl
      | true => exact absurd (this.1 h) hj
/-- **THE LAW, STEP BY STEP, WITH A TAIL.** -/
theorem wp_region_steps_tail {id : Nat} {Q : Exit → Act → World → Prop} {a : Act} {w : World} {l : List Oper} (n : Nat) (pre : List (List Nat)) (C : World → Prop) (B : Nat → World → Prop) (G : Nat → World → World → Prop)
    (hm : P.follows .mixedOrders = true) (hc : okPre l.toArray pre = true) (hp : preOk pre n = true) (hne : 0 < n) (ht : tailOk l.toArray n = true) (h0 : C w.drew) (hB0 : ∀ i, B i w.drew)
    (hCG : ∀ j X Y, j < n → C X → B j X → G j X Y → C Y)
    (hBG : ∀ i j X Y, i < n → j < n → j ≠ i → i ∉ pre.getD j [] → C X → B j X → G j X Y → B i X → B i Y)
    (h : wpSteps P l.toArray pre n C B G a 0 [] (l.take n) (fun L => ∀ (vs : Nat → Value) (X : World), C X → (∀ i < n, (L.getD i anyPr) (vs i) X) → wpList P l.toArray Q (l.drop n) (putL l.toArray vs (List.range n) a) X)) :
    (Code.region id l.toArray true).wp P Q a w := by
  unfold tailOk at ht
  simp only [Bool.and_eq_true, decide_eq_true_eq] at ht
  obtain ⟨⟨⟨hn, hsk⟩, hch⟩, hsq⟩ := ht
  have hnl : n < l.length := by simpa using hn
  have htl : (l.take n).length = n := by simp; omega
  have hp' : ∀ i, 0 ≤ i → i < 0 + (l.take n).length → ∀ j ∈ pre.getD i [], j < i := fun i _ hi j hj => by
    unfold preOk at hp
    have := List.all_eq_true.1 (List.all_eq_true.1 hp i (List.mem_range.2 (by omega))) j hj
    simpa using this
  obtain ⟨M, hM, hf, hr⟩ := wpSteps_spec (l.take n) 0 [] rfl (fun j hj => by
    have hj' : j < n := by omega
    simp [hj']) hp' h
  rw [List.nil_append] at hf hr
  refine region_wp n (by simpa using Nat.le_of_lt hnl) pre (fun i vs X => C X ∧ (M.getD i anyPr) (vs i) X) (fun i X => C X ∧ B i X) (fun j X Y => G j X Y) hm hc ?_ ?_ (fun i _ => ⟨h0, hB0 i⟩) ?_ ?_ ?_ ?_
  · exact fun listed inv i hi hun t ht => tail_waits hsk hch hn inv _ i rfl hi hun t ht
  · intro i vs us X hi hd ha
    rw [← hd i (.inl rfl)]
    exact ha
  · intro i k vs X Y hi hk hki hkp hB hR hA
    obtain ⟨o, ho⟩ : ∃ o, l.toArray[i]? = some o := ⟨_, Array.getElem?_eq_getElem (by simp; omega)⟩
    exact ⟨hCG _ _ _ hk hB.1 hB.2 hR, (hr i o (Nat.zero_le _) (by omega) ho).1 k _ _ _ hk hki hkp hB.1 hB.2 hR hA.2⟩
  · intro i k X Y hi hk hki hip hB hR hBi
    exact ⟨hCG _ _ _ hk hB.1 hB.2 hR, hBG i k X Y hi hk hki hip hB.1 hB.2 hR hBi.2⟩
  · intro i vs X o hi ho hB hA
    have h1 := (hr i o (Nat.zero_le _) (by omega) ho).2 vs X hB.1 hB.2 (fun j hj => (hA j hj).2)
    refine wpList_mono_post ?_ h1
    rintro v Y ⟨hG, hV⟩
    rw [upd_self]
    exact ⟨hG, hCG _ _ _ hi hB.1 hB.2 hG, hV⟩
  · intro vs X listed hs hl hA
    have hfin := hf vs X (hA 0 hne).1 (fun i hi => (hA i hi).2)
    have hdl : (l.drop n).length = l.toArray.size - n := by simp
    have := wpAny_of_seq (P := P) (md := .any) (Q' := Q) (l.drop n) n listed _ X (fun j => by simp) (by rw [hdl, listed_eq hs hl]; exact hsq) hfin
    rwa [hdl] at this
/-- **THE LAW, WITH A TAIL.** -/
theorem wp_region_chain_tail {id : Nat} {Q : Exit → Act → World → Prop} {a : Act} {w : World} {l : List Oper} (n : Nat) (pre : List (List Nat)) (ch : Nat → Option Nat) (m : Nat) (St : Nat → World → Prop) (D : World → Prop) (M : Nat → Prop)
    (hm : P.follows .mixedOrders = true) (hc : okPre l.toArray pre = true) (hp : preOk pre n = true) (hch : chOk pre ch m n = true) (hne : 0 < n) (ht : tailOk l.toArray n = true)
    (hSt : ∀ i j X, i ≤ m → j ≤ m → St i X → St j X → i = j) (hB : ∀ i X Y, St i X → Below X.heap.size X Y → St i Y) (hD0 : D w.drew) (hDT : ∀ X Y, D X → Tch M X Y → D Y) (h0 : St 0 w.drew)
    (h : chSteps P l.toArray pre ch St D M a 0 [] (l.take n) (fun L => ∀ (vs : Nat → Value) (X : World), D X → (∀ i < n, (L.getD i anyPr) (vs i) X) → (∀ k, k < n → ch k = some (m - 1) → 0 < m → St m X) → wpList P l.toArray Q (l.drop n) (putL l.toArray vs (List.range n) a) X)) :
    (Code.region id l.toArray true).wp P Q a w := by
  have hpn : ∀ i, i < n → ∀ j ∈ pre.getD i [], j < i := fun i hi j hj => by
    unfold preOk at hp
    have := List.all_eq_true.1 (List.all_eq_true.1 hp i (List.mem_range.2 hi)) j hj
    simpa using this
  have htn : (l.take n).length = n := by
    unfold tailOk at ht
    simp only [Bool.and_eq_true, decide_eq_true_eq] at ht
    have : n < l.length := by simpa using ht.1.1.1
    simp; omega
  refine wp_region_steps_tail n pre (fun X => D X ∧ ∃ i, i ≤ m ∧ St i X) (fun j X => ∀ c, ch j = some c → ∃ i, i ≤ c ∧ St i X)
    (fun j X Y => Tch M X Y ∧ (match ch j with | none => Below X.heap.size X Y | some c => St c X ∧ St (c + 1) Y)) hm hc hp hne ht ⟨hD0, 0, Nat.zero_le _, h0⟩ (fun j c _ => ⟨0, Nat.zero_le _, h0⟩) ?_ ?_ ?_
  · rintro j X Y hj ⟨hD, i, hi, hs⟩ hBj ⟨hT, hG⟩
    refine ⟨hDT X Y hD hT, ?_⟩
    cases hj' : ch j with
    | none => rw [hj'] at hG; exact ⟨i, hi, hB i X Y hs hG⟩
    | some c => rw [hj'] at hG; exact ⟨c + 1, (chOk_spec hch hj hj').1, hG.2⟩
  · rintro i j X Y hi hj hji hpre ⟨hD, i0, hi0, hs⟩ hBj ⟨hT, hG⟩ hBi c hcc
    obtain ⟨d, hd1, hd2⟩ := hBi c hcc
    cases hj' : ch j with
    | none => rw [hj'] at hG; exact ⟨d, hd1, hB d X Y hd2 hG⟩
    | some c' =>
      rw [hj'] at hG
      have hcm := (chOk_spec hch hi hcc).1
      have hc'm := (chOk_spec hch hj hj').1
      have e := hSt d c' X (by omega) (by omega) hd2 hG.1
      have hne := ((chOk_spec hch hi hcc).2.2 j c' hj hj' hji).1
      refine ⟨c' + 1, ?_, hG.2⟩
      omega
  · refine steps_of_ch (m := m) (n := n) hSt hB hch hpn ?_ (l.take n) 0 [] [] (by omega) rfl rfl (fun j hj => by simp at hj) h
    intro L L' hLn hl hLL hf vs X hC hA
    refine hf vs X hC.1 (fun i hi => ?_) (fun k hk hkc hm0 => ?_)
    · have := hA i hi
      rw [hLL i (by omega)] at this
      exact this.1
    · have := hA k hk
      rw [hLL k (by omega)] at this
      obtain ⟨i, h1, h2, h3⟩ := this.2 _ hkc
      obtain rfl : i = m := by omega
      exact h3
end
end Go.Rg

/- Two slices appended to in one statement, in a round of a range over a function: 'a, b = append(a, x), append(b, y)', whatever the order.
   Conditions: a and b are variables of their own, their rows apart. -/
namespace Go.Rg
set_option maxRecDepth 100000
set_option linter.unusedVariables false
set_option linter.unusedSimpArgs false
open Go Go.RowKit

/-- The built-in append in a fence, with the place of what comes back. -/
theorem wpListIn_append_own_at {F : Fence} {n : Nat} {P : Program} (w : World) {ops : Array Oper} {rest : List Oper} {o : Oper} {a : Act} {Q : Exit → Act → World → Prop}
    (hg : o.guard = none) (s x : Operand) (t : TypeId) (hop : o.op = Op.call { callee := Callee.builtin Builtin.append, args := #[s, x], argTypes := #[t, t] })
    (base : Nat) (e : TypeId) (i : TypeInfo) (z : Value) (size bytes : Nat) (h1 : P.underlying t = some (.slice e)) (h2 : P.info? e = some i) (h3 : i.zero = some z) (h4 : i.size = size) (h5 : i.bytes = bytes) (h6 : z.cells.size = size) (h7 : 0 < size)
    (v : Value) (k : Nat) (xs : List Value) (hs : a.eval s = v) (hown : w.ownsRow base e size v k xs) (ad : Addr) (m c : Nat) (news : List Value) (hx : a.eval x = .slice (some ad) m c) (hn : news.length = m * size)
    (hc : ∀ j u, news[j]? = some u → w.cell? (ad.add j) = some u) (h1c : ∀ u ∈ news, u.oneCell' = true) (b1 : k + m ≤ maxLen) (b2 : (k + m) * bytes ≤ 140737488355328) (b3 : base ≤ w.heap.size)
    (hK : ∀ v' w', w'.ownsRow base e size v' (k + m) (xs ++ news) → w.grownBy w' v.ownBlock → (v' = .slice none 0 0 ↔ v = .slice none 0 0 ∧ m = 0) → (v'.ownBlock = v.ownBlock ∨ v'.ownBlock = some w.heap.size) → wpListIn F n P ops Q rest (a.put o.dst v') w') :
    wpListIn F n P ops Q (o :: rest) a w := by
  refine wpListIn_plain hg fun K hK' => ?_
  obtain ⟨v', w', hrun, r1, r2, r3, r4⟩ := run_append_own_at (P := P) w base t o.type e i z size bytes h1 h2 h3 h4 h5 h6 h7 v k xs hown ad m c news hn hc h1c b1 b2 b3
  unfold Oper.wpIn
  refine ⟨?_, ?_⟩
  · simp [Oper.about, hop, resolve, Target.leads, Sem.run_pure]
  · rw [Oper.semAt_plain F _ _ (by rw [hop]; intro c hc'; cases hc')]
    simp [execOp, hop, resolve, invoke, builtin, hs, hx, hrun, Result.andThen]
    exact hK' _ _ (hK v' w' r1 r2 r3 r4)

/-- What stands when such a round begins. -/
structure Two where
  lo : Nat
  n₀ : Nat
  Ba : Nat
  Bb : Nat
  Ta : TypeId
  Tb : TypeId
  ea : TypeId
  eb : TypeId
  sa : Nat
  sb : Nat
  va : Value
  vb : Value
  ka : Nat
  kb : Nat
  xs : List Value
  ys : List Value
  na : List Value
  nb : List Value
  u1 : Value
  u5 : Value
  W : World

/-- The slice of one element that append is handed. -/
def Lit1 (B e : Nat) (news : List Value) (v : Value) (X : World) : Prop := ∃ g, v = .slice (some ⟨g, 0, none⟩) 1 1 ∧ B ≤ g ∧ X.heap[g]? = some (.cells news.toArray e (0, 0))

def Two.row (t : Two) : Nat → Option Nat
  | 3 => t.va.ownBlock
  | 7 => t.vb.ownBlock
  | 8 => some t.Ba
  | 9 => some t.Bb
  | _ => none
def Two.R (t : Two) (k : Nat) (X Y : World) : Prop := X.grownBy Y (t.row k)
/-- What is none of the two variables, and none of their rows, is as it was. -/
structure Two.Base (t : Two) (X : World) : Prop where
  size : t.W.heap.size ≤ X.heap.size
  os : X.os = t.W.os
  tape : X.tape = t.W.tape
  output : X.output = t.W.output
  block : ∀ k : Nat, k < t.W.heap.size → (∀ j, t.row j ≠ some k) → X.heap[k]? = t.W.heap[k]?
def Two.B (t : Two) (i : Nat) (X : World) : Prop :=
  t.Base X ∧ (i ≠ 9 → Boxed X t.Ba t.Ta t.va) ∧ Boxed X t.Bb t.Tb t.vb ∧ (i = 3 → X.ownsRow t.n₀ t.ea t.sa t.va t.ka t.xs) ∧ (i = 7 → X.ownsRow t.n₀ t.eb t.sb t.vb t.kb t.ys)
def Two.Fin (t : Two) (vs : Nat → Value) (X : World) : Prop :=
  t.Base X ∧ Boxed X t.Ba t.Ta (vs 3) ∧ Boxed X t.Bb t.Tb (vs 7) ∧ X.ownsRow t.n₀ t.ea t.sa (vs 3) (t.ka + 1) (t.xs ++ t.na) ∧ X.ownsRow t.n₀ t.eb t.sb (vs 7) (t.kb + 1) (t.ys ++ t.nb) ∧ (vs 3).ownBlock ≠ (vs 7).ownBlock
def Two.A (t : Two) (i : Nat) (vs : Nat → Value) (X : World) : Prop :=
  match i with
  | 0 => vs 0 = t.va
  | 1 => vs 1 = t.u1
  | 2 => Lit1 t.W.heap.size t.ea t.na (vs 2) X
  | 3 => X.ownsRow t.n₀ t.ea t.sa (vs 3) (t.ka + 1) (t.xs ++ t.na) ∧ (vs 3).ownBlock ≠ t.vb.ownBlock
  | 4 => vs 4 = t.vb
  | 5 => vs 5 = t.u5
  | 6 => Lit1 t.W.heap.size t.eb t.nb (vs 6) X
  | 7 => X.ownsRow t.n₀ t.eb t.sb (vs 7) (t.kb + 1) (t.ys ++ t.nb) ∧ (vs 7).ownBlock ≠ (vs 3).ownBlock
  | 8 => Boxed X t.Ba t.Ta (vs 3)
  | _ => t.Fin vs X

def Two.pre : List (List Nat) := [[], [], [1], [0, 1, 2], [], [], [5], [0, 1, 2, 3, 4, 5, 6], [0, 1, 2, 3, 4, 5, 6, 7], [0, 1, 2, 3, 4, 5, 6, 7, 8]]

structure Two.Ok (t : Two) : Prop where
  size : t.n₀ ≤ t.W.heap.size
  low : t.lo ≤ t.n₀
  ba : t.lo ≤ t.Ba
  bb : t.lo ≤ t.Bb
  apart : t.Ba ≠ t.Bb
  boxA : Boxed t.W t.Ba t.Ta t.va
  boxB : Boxed t.W t.Bb t.Tb t.vb
  rowA : t.W.ownsRow t.n₀ t.ea t.sa t.va t.ka t.xs
  rowB : t.W.ownsRow t.n₀ t.eb t.sb t.vb t.kb t.ys
  rows : t.va.ownBlock = none ∨ t.va.ownBlock ≠ t.vb.ownBlock
  tA : t.Ta ≠ t.ea
  tB : t.Ta ≠ t.eb
  tC : t.Tb ≠ t.ea
  tD : t.Tb ≠ t.eb

section
variable {t : Two} (h : t.Ok)

theorem some_ne {v : Value} {b : Nat} (h : some b ≠ v.ownBlock) : v.ownBlock = none ∨ v.ownBlock ≠ some b := .inr (fun e => h e.symm)

theorem Lit1.kept {B e : Nat} {news : List Value} {v : Value} {X Y : World} (hl : Lit1 B e news v X) {row : Option Nat} (hg : X.grownBy Y row) (hr : ∀ k, row = some k → k < B) : Lit1 B e news v Y := by
  obtain ⟨g, rfl, hB, hc⟩ := hl
  exact ⟨g, rfl, hB, (hg.block g (Array.getElem?_eq_some_iff.1 hc).1 (fun e' => by have := hr g e'.symm; omega)).trans hc⟩

include h in
theorem Two.row_lt (k b : Nat) (hk : t.row k = some b) : b < t.W.heap.size ∧ t.lo ≤ b := by
  unfold Two.row at hk
  split at hk
  · exact ⟨(h.rowA.lt b hk).2, Nat.le_trans h.low (h.rowA.lt b hk).1⟩
  · exact ⟨(h.rowB.lt b hk).2, Nat.le_trans h.low (h.rowB.lt b hk).1⟩
  · cases hk; exact ⟨h.boxA.lt, h.ba⟩
  · cases hk; exact ⟨h.boxB.lt, h.bb⟩
  · cases hk

theorem row_cells {w : World} {base : Nat} {e : TypeId} {size : Nat} {v : Value} {k : Nat} {xs : List Value} (hr : w.ownsRow base e size v k xs) {b : Nat} (hb : v.ownBlock = some b) : ∃ c f, w.heap[b]? = some (.cells c e f) := by
  rcases hr.2 with ⟨rfl, _⟩ | ⟨g, cap, cur, rfl, _, hg, _⟩
  · cases hb
  · cases hb; exact ⟨_, _, hg⟩

include h in
theorem Two.row_cells (k b : Nat) (hk : t.row k = some b) : ∃ c e f, t.W.heap[b]? = some (.cells c e f) := by
  unfold Two.row at hk
  split at hk
  · obtain ⟨c, f, hc⟩ := Rg.row_cells h.rowA hk; exact ⟨c, _, f, hc⟩
  · obtain ⟨c, f, hc⟩ := Rg.row_cells h.rowB hk; exact ⟨c, _, f, hc⟩
  · cases hk; exact ⟨_, _, _, h.boxA⟩
  · cases hk; exact ⟨_, _, _, h.boxB⟩
  · cases hk

theorem Two.base_step {k : Nat} {X Y : World} (hb : t.Base X) (hr : t.R k X Y) : t.Base Y :=
  ⟨Nat.le_trans hb.size hr.size, hr.os.trans hb.os, hr.tape.trans hb.tape, hr.output.trans hb.output,
    fun b h1 h2 => (hr.block b (Nat.lt_of_lt_of_le h1 hb.size) (fun e => h2 k e.symm)).trans (hb.block b h1 h2)⟩

include h in
theorem Two.Base.below {X : World} (hb : t.Base X) : Below t.lo t.W X :=
  ⟨hb.os, hb.tape, hb.output, hb.size, fun k hk => hb.block k (Nat.lt_of_lt_of_le hk (Nat.le_trans h.low h.size)) (fun j e => by have := (t.row_lt h j k e).2; omega)⟩
include h in
theorem Two.Base.others {X : World} (hb : t.Base X) : KeepsOthers t.W X :=
  ⟨hb.size, fun k o ho hn => (hb.block k (Array.getElem?_eq_some_iff.1 ho).1 (fun j e => by
    obtain ⟨c, e', f, hc⟩ := t.row_cells h j k e
    rw [ho] at hc; cases hc; cases hn)).trans ho⟩
theorem Two.Base.keeps {X : World} (hb : t.Base X) {M : Nat → Prop} (hM : ∀ k, M k → k < t.W.heap.size ∧ ∀ j, t.row j ≠ some k) : ∀ k, M k → X.heap[k]? = t.W.heap[k]? :=
  fun k hk => hb.block k (hM k hk).1 (hM k hk).2
/-- None of the four. -/
theorem Two.row_ne {k : Nat} (h1 : k ≠ t.Ba) (h2 : k ≠ t.Bb) (h3 : some k ≠ t.va.ownBlock) (h4 : some k ≠ t.vb.ownBlock) (j : Nat) : t.row j ≠ some k := by
  unfold Two.row
  split
  · exact fun e => h3 e.symm
  · exact fun e => h4 e.symm
  · exact fun e => h1 (Option.some.inj e).symm
  · exact fun e => h2 (Option.some.inj e).symm
  · simp

include h in
theorem Two.lit_step {k e : Nat} {news : List Value} {v : Value} {X Y : World} (hl : Lit1 t.W.heap.size e news v X) (hr : t.R k X Y) : Lit1 t.W.heap.size e news v Y :=
  hl.kept hr (fun b hb => (t.row_lt h k b hb).1)

/-- The variables are no row. -/
theorem box_ne {w : World} {b : Nat} {T e : TypeId} {u v : Value} {base size k : Nat} {xs : List Value} (hb : Boxed w b T u) (hT : T ≠ e) (hr : w.ownsRow base e size v k xs) : some b ≠ v.ownBlock := hb.not_row hT hr

include h in
theorem Two.boxA_step {k : Nat} {X Y : World} {u : Value} (hb : Boxed X t.Ba t.Ta u) (hr : t.R k X Y) (hk : k ≠ 8) : Boxed Y t.Ba t.Ta u := by
  refine hb.kept hr (fun e => ?_)
  unfold Two.row at e
  split at e
  · exact box_ne h.boxA h.tA h.rowA e
  · exact box_ne h.boxA h.tB h.rowB e
  · exact hk rfl
  · exact h.apart (Option.some.inj e)
  · cases e

include h in
theorem Two.boxB_step {k : Nat} {X Y : World} {u : Value} (hb : Boxed X t.Bb t.Tb u) (hr : t.R k X Y) (hk : k ≠ 9) : Boxed Y t.Bb t.Tb u := by
  refine hb.kept hr (fun e => ?_)
  unfold Two.row at e
  split at e
  · exact box_ne h.boxB h.tC h.rowA e
  · exact box_ne h.boxB h.tD h.rowB e
  · exact h.apart (Option.some.inj e).symm
  · exact hk rfl
  · cases e

include h in
theorem Two.stB (i k : Nat) (X Y : World) (hi : i < 10) (hk : k < 10) (hki : k ≠ i) (hn : i ∉ Two.pre.getD k []) (_ : t.B k X) (hr : t.R k X Y) (hb : t.B i X) : t.B i Y := by
  obtain ⟨b1, b2, b3, b4, b5⟩ := hb
  refine ⟨t.base_step b1 hr, fun hi9 => t.boxA_step h (b2 hi9) hr (fun e => ?_), t.boxB_step h b3 hr (fun e => ?_), fun e => (b4 e).kept hr ?_, fun e => (b5 e).kept hr ?_⟩
  · subst e
    have : i ∈ Two.pre.getD 8 [] := by
      obtain h | h | h | h | h | h | h | h : i = 0 ∨ i = 1 ∨ i = 2 ∨ i = 3 ∨ i = 4 ∨ i = 5 ∨ i = 6 ∨ i = 7 := by omega
      all_goals (subst h; decide)
    exact hn this
  · subst e
    have : i ∈ Two.pre.getD 9 [] := by
      obtain h | h | h | h | h | h | h | h | h : i = 0 ∨ i = 1 ∨ i = 2 ∨ i = 3 ∨ i = 4 ∨ i = 5 ∨ i = 6 ∨ i = 7 ∨ i = 8 := by omega
      all_goals (subst h; decide)
    exact hn this
  · subst e
    -- k is none of 3, 7, 8, 9
    have hk' : t.row k = none := by
      obtain h | h | h | h | h | h | h | h | h | h : k = 0 ∨ k = 1 ∨ k = 2 ∨ k = 3 ∨ k = 4 ∨ k = 5 ∨ k = 6 ∨ k = 7 ∨ k = 8 ∨ k = 9 := by omega
      all_goals (subst h; first | rfl | exact absurd rfl hki | exact absurd (by decide) hn)
    rw [hk']
    cases t.va.ownBlock <;> simp
  · subst e
    by_cases h3 : k = 3
    · subst h3
      rcases h.rows with h0 | h0
      · show t.vb.ownBlock = none ∨ t.vb.ownBlock ≠ t.va.ownBlock
        rw [h0]
        cases t.vb.ownBlock <;> simp
      · right; exact fun e' => h0 e'.symm
    · have hk' : t.row k = none := by
        obtain h | h | h | h | h | h | h | h | h | h : k = 0 ∨ k = 1 ∨ k = 2 ∨ k = 3 ∨ k = 4 ∨ k = 5 ∨ k = 6 ∨ k = 7 ∨ k = 8 ∨ k = 9 := by omega
        all_goals (subst h; first | rfl | exact absurd rfl hki | exact absurd rfl h3 | exact absurd (by decide) hn)
      rw [hk']
      cases t.vb.ownBlock <;> simp

include h in
theorem Two.stA (i k : Nat) (vs : Nat → Value) (X Y : World) (hi : i < 10) (hk : k < 10) (hki : k ≠ i) (hn : k ∉ Two.pre.getD i []) (hbk : t.B k X) (hr : t.R k X Y) (ha : t.A i vs X) : t.A i vs Y := by
  have hk10 : k = 0 ∨ k = 1 ∨ k = 2 ∨ k = 3 ∨ k = 4 ∨ k = 5 ∨ k = 6 ∨ k = 7 ∨ k = 8 ∨ k = 9 := by omega
  obtain e | e | e | e | e | e | e | e | e | e : i = 0 ∨ i = 1 ∨ i = 2 ∨ i = 3 ∨ i = 4 ∨ i = 5 ∨ i = 6 ∨ i = 7 ∨ i = 8 ∨ i = 9 := by omega
  all_goals subst e
  · exact ha
  · exact ha
  · exact t.lit_step h ha hr
  · refine ⟨ha.1.kept hr ?_, ha.2⟩
    obtain e | e | e | e | e | e | e | e | e | e := hk10 <;> subst e
    · exact absurd (by decide) hn
    · exact absurd (by decide) hn
    · exact absurd (by decide) hn
    · exact absurd rfl hki
    · cases hv : (vs 3).ownBlock <;> simp [Two.row]
    · cases hv : (vs 3).ownBlock <;> simp [Two.row]
    · cases hv : (vs 3).ownBlock <;> simp [Two.row]
    · exact .inr ha.2
    · exact some_ne (box_ne (hbk.2.1 (by decide)) h.tA ha.1)
    · exact some_ne (box_ne hbk.2.2.1 h.tC ha.1)
  · exact ha
  · exact ha
  · exact t.lit_step h ha hr
  · refine ⟨ha.1.kept hr ?_, ha.2⟩
    obtain e | e | e | e | e | e | e | e | e | e := hk10 <;> subst e <;> first | exact absurd rfl hki | exact absurd (by decide) hn | skip
    · exact some_ne (box_ne (hbk.2.1 (by decide)) h.tB ha.1)
    · exact some_ne (box_ne hbk.2.2.1 h.tD ha.1)
  · exact t.boxA_step h ha hr (fun e => hki e)
  · exfalso
    obtain e | e | e | e | e | e | e | e | e | e := hk10 <;> subst e <;> first | exact hki rfl | exact hn (by decide)

include h in
theorem Two.b0 (i : Nat) : t.B i t.W.drew :=
  ⟨⟨Nat.le_refl _, rfl, rfl, rfl, fun _ _ _ => rfl⟩, fun _ => h.boxA, h.boxB, fun _ => h.rowA, fun _ => h.rowB⟩

theorem Two.dep (i : Nat) (vs us : Nat → Value) (X : World) (hd : ∀ j, j = i ∨ j ∈ Two.pre.getD i [] → vs j = us j) (ha : t.A i vs X) (hi : i < 10) : t.A i us X := by
  obtain e | e | e | e | e | e | e | e | e | e : i = 0 ∨ i = 1 ∨ i = 2 ∨ i = 3 ∨ i = 4 ∨ i = 5 ∨ i = 6 ∨ i = 7 ∨ i = 8 ∨ i = 9 := by omega
  all_goals subst e
  · have := hd 0 (.inl rfl); simp only [Two.A] at ha ⊢; rw [← this]; exact ha
  · have := hd 1 (.inl rfl); simp only [Two.A] at ha ⊢; rw [← this]; exact ha
  · have := hd 2 (.inl rfl); simp only [Two.A] at ha ⊢; rw [← this]; exact ha
  · have := hd 3 (.inl rfl); simp only [Two.A] at ha ⊢; rw [← this]; exact ha
  · have := hd 4 (.inl rfl); simp only [Two.A] at ha ⊢; rw [← this]; exact ha
  · have := hd 5 (.inl rfl); simp only [Two.A] at ha ⊢; rw [← this]; exact ha
  · have := hd 6 (.inl rfl); simp only [Two.A] at ha ⊢; rw [← this]; exact ha
  · have h7 := hd 7 (.inl rfl); have h3 := hd 3 (.inr (by decide)); simp only [Two.A] at ha ⊢; rw [← h7, ← h3]; exact ha
  · have h3 := hd 3 (.inr (by decide)); simp only [Two.A] at ha ⊢; rw [← h3]; exact ha
  · have h7 := hd 7 (.inr (by decide)); have h3 := hd 3 (.inr (by decide)); simp only [Two.A, Two.Fin] at ha ⊢; rw [← h7, ← h3]; exact ha

/-- **TWO APPENDS IN A ROUND.** -/
theorem two_appends {F : Fence} {n : Nat} {P : Program} {id : Nat} {ops : Array Oper} {a : Act} {Q : Exit → Act → World → Prop} (h : t.Ok) (hsz : ops.size = 10)
    (hm : P.follows .mixedOrders = true) (hF : ∀ f, F.fn f) (hc : okPre ops Two.pre = true)
    (hop : ∀ (i : Nat) (vs : Nat → Value) (X : World) (o : Oper), ops[i]? = some o → t.B i X → (∀ j ∈ Two.pre.getD i [], t.A j vs X) →
      wpListIn F n P ops (Post (putL ops vs (Two.pre.getD i []) a) o.dst (fun v Y => t.R i X Y ∧ t.A i (upd vs i v) Y)) [o] (putL ops vs (Two.pre.getD i []) a) X)
    (hend : ∀ (vs : Nat → Value) (X : World), t.Fin vs X → Q .normal (putL ops vs (List.range 10) a) X) :
    (Code.region id ops true).wpIn F n P Q a t.W := by
  refine region_rg Two.pre t.A t.B t.R hm hF hc (fun i vs us X hi hd ha => t.dep i vs us X hd ha (hsz ▸ hi)) (fun i _ => t.b0 h i)
    (fun i k vs X Y hi hk => t.stA h i k vs X Y (hsz ▸ hi) (hsz ▸ hk)) (fun i k X Y hi hk => t.stB h i k X Y (hsz ▸ hi) (hsz ▸ hk)) hop (fun vs X hA => ?_)
  rw [hsz]
  exact hend vs X (hA 9 (by rw [hsz]; decide))

end
end Go.Rg

/- Openers of rows: bytes, numbers.
   Conditions: those that each theorem names. -/
namespace Go.Proofs.Ytkdbbdlkfpjdfaa
set_option maxRecDepth 100000
set_option linter.unusedVariables false
set_option linter.unusedSimpArgs false
set_option linter.unusedVariables false
open Go.RowKit Go.Rg Go.ChangeShapes Go.Deep Go.Joins
theorem spot_none {w : World} {a : Addr} {v : Value} (h : w.cell? a = some v) : a.spot = none ∧ a.block < w.heap.size := by
  unfold World.cell? at h
  split at h
  · rename_i heq
    refine ⟨?_, (Array.getElem?_eq_some_iff.1 heq).1⟩
    cases hs : a.spot with
    | none => rfl
    | some k => rw [hs] at h; simp at h
  · cases h
theorem add_off {w : World} {a : Addr} {u : Value} (i : Nat) (h : w.cell? (a.add 0) = some u) : a = ⟨a.block, a.off, none⟩ ∧ a.add i = ⟨a.block, a.off + i, none⟩ := by
  obtain ⟨b, o, s⟩ := a
  have h0 : (⟨b, o, s⟩ : Addr).add 0 = ⟨b, o, s⟩ := by unfold Addr.add; simp
  rw [h0] at h
  have := (spot_none h).1
  simp only at this
  subst this
  refine ⟨rfl, ?_⟩
  unfold Addr.add
  split
  · rename_i hi; subst hi; rfl
  · rfl
def bytesOf (zs : List Int) : List UInt8 := zs.map fun z => UInt8.ofNat z.toNat
section
variable {H : Type} {enc : TypeId × Value → H} {w : World} {base : Nat} {spare : Nat → Bool} {held : Bool}
/-- What is read of bytes is as long as they are. -/
def FitB (d : DataW H) (l : List UInt8) : Prop := d = .nil ∧ l = [] ∨ ∃ es rest, d = .slice es rest ∧ es.length = l.length
theorem open_byteslice {fuel : Nat} {v : Value} {x : DataW H × List MemPlace} (h : DataW.trod enc Try.prog w base spare held fuel 41 [v] = some x) :
    ∃ l : List UInt8, BytesAt w v l ∧ FitB x.1 l := by
  rcases open_ints (P := Try.prog) (e := 5) rfl rfl rfl h with ⟨hc, rfl⟩ | ⟨a, len, cap, zs, hc, hb, hl, hm, hz, rfl, hx, hw⟩
  · cases hc
    exact ⟨[], ⟨none, 0, rfl, fun i hi => by simp at hi⟩, .inl ⟨rfl, rfl⟩⟩
  · cases hc
    have hle : len ≤ zs.length := by rw [hz]; split <;> omega
    refine ⟨bytesOf (zs.take len), ⟨some a, cap, ?_, fun i hi => ?_⟩, .inr ⟨_, _, rfl, ?_⟩⟩
    · simp [bytesOf, Nat.min_eq_left hle]
    · have hi' : i < len := by simpa [bytesOf, Nat.min_eq_left hle] using hi
      have hcell := hx i (by omega)
      obtain ⟨h1, h2⟩ := spot_none hcell
      obtain ⟨h3, h4⟩ := add_off i (hx 0 (by omega))
      rw [h4] at hcell h2
      refine ⟨a.block, a.off, congrArg some h3, h2, ?_⟩
      · have hwf := hw (zs[i]'(by omega)) (List.getElem_mem _)
        have hr : 0 ≤ zs[i]'(by omega) ∧ zs[i]'(by omega) ≤ 255 := by
          simpa [Lit.wf, IntKind.min, IntKind.max, IntKind.signed, IntKind.bits] using hwf
        rw [hcell]
        simp [bytesOf, hi', List.getD, List.getElem?_eq_getElem (show i < zs.length by omega)]
        omega
    · simp [bytesOf, lits]
theorem open_bytes_any {a : Option Addr} {n c : Nat} {d : DataW H} {p : List MemPlace} (h : DataW.Trod enc Try.prog w base spare held 41 (.slice a n c) d p) :
    ∃ l : List UInt8, n = l.length ∧ l.length ≤ c ∧ BytesAt w (.slice a l.length c) l ∧ FitB d l := by
  obtain ⟨fuel, hf⟩ := h
  obtain ⟨l, hl, hd⟩ := open_byteslice (x := (d, p)) hf
  obtain ⟨q, c', e, hb⟩ := id hl
  cases e
  refine ⟨l, rfl, ?_, hl, hd⟩
  rcases open_ints (P := Try.prog) (e := 5) rfl rfl rfl hf with ⟨hc, _⟩ | ⟨a, len, cap, zs, hc, _, hl, _⟩
  · injection hc with h1
    injection h1 with _ h2 h3
    omega
  · injection hc with h1
    injection h1 with _ h2 h3
    omega
theorem fit_small {d : DataW H} {l : List UInt8} (h : FitB d l) (hs : ∀ n ∈ d.weights Try.prog 41, n ≤ reachBytes) : l.length ≤ 1000000000000000 := by
  have hrb : reachBytes < 2 ^ 47 := reachBytes_lt
  rcases h with ⟨rfl, rfl⟩ | ⟨es, r, rfl, el⟩
  · simp
  · have hu2 : Try.prog.underlying 41 = some (.slice 5) := rfl
    have hb2 : Try.prog.bytesOf 5 = 1 := by kernel_rfl
    have := hs ((es.length + r.length) * Try.prog.bytesOf 5) (by simp [DataW.weights, hu2])
    rw [hb2] at this
    omega
end
theorem u64_wf {z : Int} (h : (Lit.int .u64 z).wf = true) : ∃ A, z = U A := by
  have hb : 0 ≤ z ∧ z ≤ 18446744073709551615 := by simpa [Lit.wf, IntKind.min, IntKind.max, IntKind.signed, IntKind.bits] using h
  refine ⟨UInt64.ofNat z.toNat, ?_⟩
  unfold U
  rw [UInt64.toNat_ofNat']
  omega
theorem i64_wf {n : Int} (h : (Lit.int .i64 n).wf = true) : -9223372036854775808 ≤ n ∧ n ≤ 9223372036854775807 := by
  simpa [Lit.wf, IntKind.min, IntKind.max, IntKind.signed, IntKind.bits] using h
theorem weightsAll_mem {H : Type} {P : Program} {e : TypeId} {n : Nat} : ∀ {l : List (DataW H)} {d : DataW H}, d ∈ l → n ∈ d.weights P e → n ∈ DataW.weightsAll P e l
  | x :: l, d, h, hn => by
    simp only [DataW.weightsAll, List.mem_append]
    rcases List.mem_cons.1 h with rfl | h
    · exact .inl hn
    · exact .inr (weightsAll_mem h hn)
/-- Cells of an element of a slice. -/
theorem elem_cells {w : World} {base k : Nat} {a : Addr} {cs0 cs : List Value} (h0 : w.cells? base (a.add (0 * k)) k = some cs0) (hk : 0 < k) (i : Nat) (h : w.cells? base (a.add (i * k)) k = some cs) :
    a = ⟨a.block, a.off, none⟩ ∧ a.block < w.heap.size ∧ cs.length = k ∧ ∀ j, j < k → w.cell? ⟨a.block, a.off + i * k + j, none⟩ = cs[j]? := by
  obtain ⟨_, hl0, hc0⟩ := World.cells?_some h0
  obtain ⟨_, hl, hc⟩ := World.cells?_some h
  have k0 := hc0 0 hk
  have k0' : w.cell? (a.add 0) = some (cs0[0]'(by omega)) := by
    rw [List.getElem?_eq_getElem (by omega)] at k0
    simpa [Addr.add] using k0
  obtain ⟨e1, e2⟩ := add_off 0 k0'
  obtain ⟨_, hlt⟩ := spot_none k0'
  rw [e2] at hlt
  refine ⟨e1, hlt, hl, fun j hj => ?_⟩
  rw [← hc j hj]
  have e3 := (add_off (i * k) k0').2
  rw [e3]
  congr 1
  unfold Addr.add
  split
  · rename_i h; subst h; rfl
  · rfl
end Go.Proofs.Ytkdbbdlkfpjdfaa

/- A law for a region that draws its order, with a word on all that is done so far (J): so that what two operations make can be told apart.
   Conditions: as in the law of use. -/
namespace Go.Rg
set_option maxRecDepth 100000
set_option linter.unusedVariables false
set_option linter.unusedSimpArgs false
open Go Go.RowKit
section
variable {P : Program}
theorem emptyJ {J : (Nat → Prop) → (Nat → Value) → World → Prop} {vs : Nat → Value} {X : World} (h : J (fun _ => False) vs X) : J (fun j => j ∈ ([] : List Nat)) vs X := by
  have e : (fun j => j ∈ ([] : List Nat)) = fun _ => False := by funext j; simp
  rw [e]; exact h
theorem region_all {id : Nat} {ops : Array Oper} {a : Act} {w : World} {Q : Exit → Act → World → Prop} (n : Nat) (hn : n ≤ ops.size) (pre : List (List Nat)) (A : Nat → (Nat → Value) → World → Prop) (B : Nat → World → Prop) (R : Nat → (Nat → Value) → Value → World → World → Prop) (U : Nat → Nat) (J : (Nat → Prop) → (Nat → Value) → World → Prop)
    (hJ0 : J (fun _ => False) (fun _ => undef) w.drew) (hJ : ∀ i done vs v X Y, i < n → ¬ done i → (∀ j ∈ pre.getD i [], done j) → J done vs X → B i X → R i vs v X Y → J (fun j => done j ∨ j = i) (upd vs i v) Y)
    (hU : ∀ i j, i < n → j < n → i ∈ pre.getD j [] → U i = i ∨ U i = j)
    (hm : P.follows .mixedOrders = true) (hc : okPre ops pre = true)
    (hrd : ∀ listed, HeadInv .any ops n listed → ∀ i, i < n → listed.getD i true = false → ∀ t, n ≤ t → t ∉ Region.ready .any ops listed)
    (hdep : ∀ i vs us X, i < n → (∀ j, j = i ∨ j ∈ pre.getD i [] → vs j = us j) → A i vs X → A i us X)
    (hB0 : ∀ i, i < n → B i w.drew)
    (hstA : ∀ i k vs us v X Y, i < n → k < n → k ≠ i → k ∉ pre.getD i [] → (U i ≠ i → U i ≠ k ∧ U i ∉ pre.getD k []) → B k X → R k us v X Y → A i vs X → A i vs Y)
    (hstB : ∀ i k us v X Y, i < n → k < n → k ≠ i → i ∉ pre.getD k [] → B k X → R k us v X Y → B i X → B i Y)
    (hop : ∀ (i : Nat) (vs : Nat → Value) (X : World) (o : Oper), i < n → ops[i]? = some o → B i X → (∃ done : Nat → Prop, ¬ done i ∧ (∀ j ∈ pre.getD i [], done j) ∧ J done vs X) → (∀ j ∈ pre.getD i [], A j vs X) →
      wpList P ops (Post (putL ops vs (pre.getD i []) a) o.dst (fun v Y => R i vs v X Y ∧ A i (upd vs i v) Y)) [o] (putL ops vs (pre.getD i []) a) X)
    (hend : ∀ (vs : Nat → Value) (X : World) (listed : Array Bool), listed.size = ops.size → (∀ j, listed.getD j false = true ↔ j < n) → (∀ i < n, U i = i → A i vs X) → (∃ done : Nat → Prop, (∀ j < n, done j) ∧ J done vs X) → wpAny P .any ops Q (ops.size - n) listed (putL ops vs (List.range n) a) X) :
    (Code.region id ops true).wp P Q a w := by
  refine wp_region_any hm ?_
  change wpAny P .any ops Q ops.size (Array.replicate ops.size false) a w.drew
  have main : ∀ (fuel : Nat) (listed : Array Bool) (vs : Nat → Value) (X : World) (b : Act) (ord : List Nat), HeadInv .any ops n listed →
      ord.Nodup → (∀ j, j ∈ ord ↔ listed.getD j false = true) → (∀ j ∈ ord, j < n) → fuel + ord.length = n →
      (∀ j ∈ ord, ∀ k ∈ pre.getD j [], k ∈ ord) → (∀ j ∈ ord, (U j ≠ j ∧ U j ∈ ord) ∨ A j vs X) → (∀ j, j < n → j ∉ ord → B j X) → J (fun j => j ∈ ord) vs X → b = putL ops vs ord a → wpAny P .any ops Q (fuel + (ops.size - n)) listed b X := by
    intro fuel
    induction fuel with
    | zero =>
      intro listed vs X b ord inv hnd hl hlt hlen hcl hA hB hJX hb
      have hperm : ord.Perm (List.range n) := by
        refine (List.perm_ext_iff_of_nodup hnd List.nodup_range).2 (fun j => ⟨fun hj => List.mem_range.2 (hlt j hj), fun hj => Classical.byContradiction fun hno => ?_⟩)
        have := List.Nodup.length_le_of_subset (l₁ := j :: ord) (l₂ := List.range n) (List.nodup_cons.2 ⟨hno, hnd⟩) (fun k hk => by
          rcases List.mem_cons.1 hk with rfl | hk
          · exact hj
          · exact List.mem_range.2 (hlt k hk))
        simp at this
        omega
      rw [hb, putL_perm hc vs hperm, Nat.zero_add]
      exact hend vs X listed inv.size (fun j => by rw [← hl, hperm.mem_iff, List.mem_range]) (fun j hj hu => (hA j (hperm.mem_iff.2 (List.mem_range.2 hj))).resolve_left (fun h => h.1 hu)) ⟨fun j => j ∈ ord, fun j hj => hperm.mem_iff.2 (List.mem_range.2 hj), hJX⟩
    | succ fuel ih =>
      intro listed vs X b ord inv hnd hl hlt hlen hcl hA hB hJX hb
      have hs := inv.size
      have hgd : ∀ j, j < ops.size → listed.getD j true = listed.getD j false := fun j hj => by
        have hm : j < listed.size := by omega
        simp [Array.getD, hm]
      have hex : ∃ j, j < n ∧ j ∉ ord := by
        refine Classical.byContradiction fun hno => ?_
        have : List.range n ⊆ ord := fun j hj => Classical.byContradiction fun hj' => hno ⟨j, List.mem_range.1 hj, hj'⟩
        have := List.Nodup.length_le_of_subset List.nodup_range this
        simp at this
        omega
      have hun : ∀ j, j < n → j ∉ ord → listed.getD j true = false := fun j hj hj' => by
        rw [hgd j (by omega)]
        cases h : listed.getD j false with
        | false => rfl
        | true => exact absurd ((hl j).2 h) hj'
      have hrdy : ∀ t ∈ Region.ready .any ops listed, t < n := by
        intro t ht
        obtain ⟨j, hj, hj'⟩ := hex
        rcases Nat.lt_or_ge t n with h | h
        · exact h
        · exact absurd ht (hrd listed inv j hj (hun j hj hj') t h)
      rw [show fuel + 1 + (ops.size - n) = (fuel + (ops.size - n)) + 1 by omega]
      refine ⟨fun hnil => ?_, fun i hi => ?_⟩
      · exfalso
        have hmin : ∀ m, (∃ j, j < m ∧ j < n ∧ j ∉ ord) → ∃ j, j < n ∧ j ∉ ord ∧ ∀ k < j, k ∈ ord := by
          intro m
          induction m with
          | zero => rintro ⟨j, h, _⟩; omega
          | succ m ihm =>
            rintro ⟨j, h1, h2, h3⟩
            by_cases hs' : ∃ k, k < m ∧ k < n ∧ k ∉ ord
            · exact ihm hs'
            · refine ⟨j, h2, h3, fun k hk => Classical.byContradiction fun hk' => hs' ⟨k, by omega, by omega, hk'⟩⟩
        obtain ⟨j0, h0, h0'⟩ := hex
        obtain ⟨j, hj, hj', hall⟩ := hmin (j0 + 1) ⟨j0, by omega, h0, h0'⟩
        obtain ⟨o, ho⟩ : ∃ o, ops[j]? = some o := ⟨_, Array.getElem?_eq_getElem (by omega)⟩
        have hmem : j ∈ Region.ready .any ops listed := by
          unfold Region.ready
          rw [List.mem_filter]
          refine ⟨List.mem_range.2 (by omega), ?_⟩
          have hn := hun j hj hj'
          rw [hn, ho]
          simp only [Bool.not_false, Bool.true_and, Option.map_some, Option.getD_some, Array.all_eq_true']
          intro e he
          cases hbe : Region.binds .any e with
          | false => rfl
          | true =>
            have := (pre_facts hc ho).2.2.2.1 e he hbe
            simp only [Bool.not_true, Bool.false_or]
            exact (hl _).1 (hall _ this)
        rw [hnil] at hmem
        cases hmem
      · have hin := hrdy i hi
        have hir := hi
        unfold Region.ready at hi
        rw [List.mem_filter] at hi
        obtain ⟨_, hi⟩ := hi
        obtain ⟨o, ho⟩ : ∃ o, ops[i]? = some o := ⟨_, Array.getElem?_eq_getElem (by omega)⟩
        rw [ho] at hi
        simp only [Option.map_some, Option.getD_some, Bool.and_eq_true, Bool.not_eq_true', Array.all_eq_true'] at hi
        obtain ⟨hnl, hedge⟩ := hi
        have hni : i ∉ ord := fun h => by
          have := (hl i).1 h
          rw [hgd i (by omega)] at hnl
          rw [hnl] at this
          cases this
        obtain ⟨p1, p2, p3, p4, p5, p6⟩ := pre_facts hc ho
        have hpre : ∀ j ∈ pre.getD i [], j ∈ ord := fun j hj => by
          obtain ⟨_, e, he, hbe, hx⟩ := p1 j hj
          have hon : e.on ∈ ord := (hl _).2 (by have := hedge e he; rw [hbe] at this; simpa using this)
          rcases hx with rfl | hx
          · exact hon
          · exact hcl _ hon _ hx
        let rest := ord.filter fun j => !(pre.getD i []).contains j
        have hperm : ord.Perm (pre.getD i [] ++ rest) := by
          have h1 : (ord.filter fun j => (pre.getD i []).contains j).Perm (pre.getD i []) := by
            refine (List.perm_ext_iff_of_nodup (hnd.filter _) p3).2 (fun j => ?_)
            rw [List.mem_filter]
            constructor
            · intro h; simpa using h.2
            · intro h; exact ⟨hpre j h, by simpa using h⟩
          refine (List.filter_append_perm (fun j => (pre.getD i []).contains j) ord).symm.trans ?_
          exact h1.append_right _
        have hb' : b = putL ops vs rest (putL ops vs (pre.getD i []) a) := by rw [hb, putL_perm hc vs hperm, putL_append]
        have hsame := same_putL (ops := ops) o p5 vs rest (fun j hj d hd hl' => by
          have hj2 := List.mem_filter.1 hj
          have hji : j ≠ i := fun e => hni (e ▸ hj2.1)
          rcases p2 j d hji hd hl' with this | this
          · have h3 := hj2.2
            rw [List.contains_iff_mem.2 this] at h3
            cases h3
          · exact hni (hcl j hj2.1 i this)) (putL ops vs (pre.getD i []) a)
        rw [← hb'] at hsame
        refine one_move_wp ho (a := putL ops vs (pre.getD i []) a) (K := fun v Y => R i vs v X Y ∧ A i (upd vs i v) Y) (by rw [hb', putL_size, putL_size, putL_size]) hsame.1 hsame.2 (hop i vs X o hin ho (hB i hin hni) ⟨fun j => j ∈ ord, hni, hpre, hJX⟩ (fun j hj => (hA j (hpre j hj)).resolve_left (fun h => by
          rcases hU j i (hlt j (hpre j hj)) hin hj with e | e
          · exact h.1 e
          · exact hni (e ▸ h.2)))) ?_
        rintro v Y ⟨hXY, hAi⟩
        have hus : ∀ j, j ≠ i → upd vs i v j = vs j := fun j hj => upd_ne _ _ _ hj
        have hnpre : ∀ j ∈ ord, i ∉ pre.getD j [] := fun j hj h => hni (hcl j hj i h)
        refine ih (listed.setIfInBounds i true) (upd vs i v) Y (b.put o.dst v) (ord ++ [i]) (inv.set hir hin) ?_ ?_ ?_ (by simp; omega) ?_ ?_ ?_ ?_ ?_
        · rw [List.nodup_append]
          exact ⟨hnd, by simp, fun x hx y hy => by simp at hy; subst hy; exact fun e => hni (e ▸ hx)⟩
        · intro j
          by_cases hji : j = i
          · subst hji; simp [Array.getD, hs, show j < ops.size by omega]
          · have : (listed.setIfInBounds i true).getD j false = listed.getD j false := by
              have hij : i ≠ j := fun e => hji e.symm
              by_cases hm : j < listed.size
              · simp [Array.getD, hm, hij]
              · simp [Array.getD, hm]
            rw [this]
            simp [hji, hl j]
        · intro j hj
          rcases List.mem_append.1 hj with h | h
          · exact hlt j h
          · simp at h; subst h; exact hin
        · intro j hj k hk
          rcases List.mem_append.1 hj with h | h
          · exact List.mem_append_left _ (hcl j h k hk)
          · simp at h; subst h; exact List.mem_append_left _ (hpre k hk)
        · intro j hj
          rcases List.mem_append.1 hj with h | h
          · have hji : j ≠ i := fun e => hni (e ▸ h)
            by_cases hu : U j = i
            · exact .inl ⟨fun e => hji (e.symm.trans hu), hu ▸ by simp⟩
            by_cases hu2 : U j ≠ j ∧ U j ∈ pre.getD i []
            · exact .inl ⟨hu2.1, List.mem_append_left _ (hpre _ hu2.2)⟩
            rcases hA j h with hA | hA
            · exact .inl ⟨hA.1, List.mem_append_left _ hA.2⟩
            refine .inr (hdep j vs _ Y (hlt j h) (fun k hk => (hus k ?_).symm) (hstA j i vs vs v X Y (hlt j h) hin (fun e => hji e.symm) (hnpre j h) (fun hne => ⟨hu, fun hm => hu2 ⟨hne, hm⟩⟩) (hB i hin hni) hXY hA))
            rcases hk with rfl | hk
            · exact hji
            · exact fun e => hnpre j h (e ▸ hk)
          · simp at h; subst h; exact .inr hAi
        · intro j hj hjo
          have hj1 : j ∉ ord := fun h => hjo (List.mem_append_left _ h)
          have hj2 : j ≠ i := fun e => hjo (by simp [e])
          exact hstB j i vs v X Y hj hin (fun e => hj2 e.symm) (fun h => hj1 (hpre j h)) (hB i hin hni) hXY (hB j hj hj1)
        · have h := hJ i (fun j => j ∈ ord) vs v X Y hin hni hpre hJX (hB i hin hni) hXY
          have e : (fun j => j ∈ ord ++ [i]) = (fun j => j ∈ ord ∨ j = i) := by
            funext j
            simp
          rw [e]
          exact h
        · rw [putL_append, putL_congr ops (us := vs) (L := ord) (fun j hj => hus j (fun e => hni (e ▸ hj))), ← hb]
          simp only [putL, List.foldl_cons, List.foldl_nil, upd_self]
          unfold dstOf
          rw [ho]
          rfl
  have inv0 : HeadInv .any ops n (Array.replicate ops.size false) :=
    ⟨by simp, fun j oj _ hl => (by rw [getD_replicate_false] at hl; cases hl), fun t _ ht => getD_in (by simpa using ht) (getD_replicate_false _ _)⟩
  have := main n (Array.replicate ops.size false) (fun _ => undef) w.drew a [] inv0 List.nodup_nil (fun j => by
    rw [getD_replicate_false]; simp) (fun j hj => by cases hj) (by simp) (fun j hj => by cases hj) (fun j hj => by cases hj) (fun j hj _ => hB0 j hj) (emptyJ hJ0) rfl
  rwa [show n + (ops.size - n) = ops.size by omega] at this


def wpAll (P : Program) (ops : Array Oper) (pre : List (List Nat)) (n : Nat) (C : World → Prop) (B : Nat → World → Prop) (G : Nat → (Nat → Value) → Value → World → World → Prop) (J : (Nat → Prop) → (Nat → Value) → World → Prop) (U : Nat → Nat) (a : Act) : Nat → List Pr → List Oper → (List Pr → Prop) → Prop
  | _, L, [], fin => fin L
  | k, L, o :: l, fin => ∃ V : Pr, (∀ j v us u X Y, j < n → j ≠ k → j ∉ pre.getD k [] → (U k ≠ k → U k ≠ j ∧ U k ∉ pre.getD j []) → C X → B j X → G j us u X Y → V v X → V v Y) ∧
      (∀ (vs : Nat → Value) (X : World), C X → B k X → (∃ done : Nat → Prop, ¬ done k ∧ (∀ j ∈ pre.getD k [], done j) ∧ J done vs X) → (∀ j ∈ pre.getD k [], (L.getD j anyPr) (vs j) X) →
        wpList P ops (Post (putL ops vs (pre.getD k []) a) o.dst (fun v Y => G k vs v X Y ∧ V v Y)) [o] (putL ops vs (pre.getD k []) a) X) ∧
      wpAll P ops pre n C B G J U a (k + 1) (L ++ [V]) l fin

theorem wpAll_spec {ops : Array Oper} {pre : List (List Nat)} {n : Nat} {C : World → Prop} {B : Nat → World → Prop} {G : Nat → (Nat → Value) → Value → World → World → Prop} {J : (Nat → Prop) → (Nat → Value) → World → Prop} {U : Nat → Nat} {a : Act} {fin : List Pr → Prop} :
    ∀ (l : List Oper) (k : Nat) (L : List Pr), L.length = k → (∀ j, j < l.length → l[j]? = ops[k + j]?) → (∀ i, k ≤ i → i < k + l.length → ∀ j ∈ pre.getD i [], j < i) → wpAll P ops pre n C B G J U a k L l fin →
    ∃ M : List Pr, M.length = l.length ∧ fin (L ++ M) ∧ ∀ (i : Nat) o, k ≤ i → i < k + l.length → ops[i]? = some o →
      (∀ j v us u X Y, j < n → j ≠ i → j ∉ pre.getD i [] → (U i ≠ i → U i ≠ j ∧ U i ∉ pre.getD j []) → C X → B j X → G j us u X Y → ((L ++ M).getD i anyPr) v X → ((L ++ M).getD i anyPr) v Y) ∧
      (∀ (vs : Nat → Value) (X : World), C X → B i X → (∃ done : Nat → Prop, ¬ done i ∧ (∀ j ∈ pre.getD i [], done j) ∧ J done vs X) → (∀ j ∈ pre.getD i [], ((L ++ M).getD j anyPr) (vs j) X) →
        wpList P ops (Post (putL ops vs (pre.getD i []) a) o.dst (fun v Y => G i vs v X Y ∧ ((L ++ M).getD i anyPr) v Y)) [o] (putL ops vs (pre.getD i []) a) X)
  | [], k, L, hL, _, _, h => ⟨[], rfl, by rw [List.append_nil]; exact h, fun i o h1 h2 _ => by simp at h2; omega⟩
  | o :: l, k, L, hL, hl, hp, h => by
    obtain ⟨V, h1, h2, h3⟩ := h
    have h0 : ops[k]? = some o := by simpa using (hl 0 (by simp)).symm
    obtain ⟨M, hM, hf, hr⟩ := wpAll_spec l (k + 1) (L ++ [V]) (by simp [hL]) (fun j hj => by have := hl (j + 1) (by simp; omega); simpa [Nat.add_assoc, Nat.add_comm 1 j] using this) (fun i hi hi2 => hp i (by omega) (by simp; omega)) h3
    refine ⟨V :: M, by simp [hM], by simpa using hf, fun i oi hi hi2 hoi => ?_⟩
    have e : L ++ V :: M = L ++ [V] ++ M := by simp
    rw [e]
    by_cases hik : i = k
    · subst hik
      have : oi = o := by rw [h0] at hoi; exact (Option.some.inj hoi).symm
      subst this
      have eV : (L ++ [V] ++ M).getD i anyPr = V := by
        rw [List.getD_eq_getElem?_getD, List.getElem?_append_left (by simp [hL]), List.getElem?_append_right (by omega)]
        simp [hL]
      rw [eV]
      refine ⟨h1, fun vs X hC hB hJ hA => h2 vs X hC hB hJ (fun j hj => ?_)⟩
      have hlt := hp i (by omega) (by simp) j hj
      have := hA j hj
      rwa [List.getD_eq_getElem?_getD, List.append_assoc, List.getElem?_append_left (by omega), ← List.getD_eq_getElem?_getD] at this
    · exact hr i oi (by omega) (by simp at hi2; omega) hoi

/-- **THE LAW, STEP BY STEP, IN GENERAL.** -/
theorem wp_region_all {id : Nat} {Q : Exit → Act → World → Prop} {a : Act} {w : World} {l : List Oper} (pre : List (List Nat)) (C : World → Prop) (B : Nat → World → Prop) (G : Nat → (Nat → Value) → Value → World → World → Prop) (J : (Nat → Prop) → (Nat → Value) → World → Prop) (U : Nat → Nat)
    (hm : P.follows .mixedOrders = true) (hc : okPre l.toArray pre = true) (hp : preOk pre l.length = true) (hU : useOk pre U l.length = true) (hne : 0 < l.length) (hlast : U (l.length - 1) = l.length - 1) (h0 : C w.drew) (hB0 : ∀ i, B i w.drew) (hJ0 : J (fun _ => False) (fun _ => undef) w.drew) (hJ : ∀ i done vs v X Y, i < l.length → ¬ done i → (∀ j ∈ pre.getD i [], done j) → J done vs X → C X → B i X → G i vs v X Y → J (fun j => done j ∨ j = i) (upd vs i v) Y)
    (hCG : ∀ j us u X Y, j < l.length → C X → B j X → G j us u X Y → C Y)
    (hBG : ∀ i j us u X Y, i < l.length → j < l.length → j ≠ i → i ∉ pre.getD j [] → C X → B j X → G j us u X Y → B i X → B i Y)
    (h : wpAll P l.toArray pre l.length C B G J U a 0 [] l (fun L => ∀ (vs : Nat → Value) (X : World), C X → (∀ i < l.length, U i = i → (L.getD i anyPr) (vs i) X) → (∃ done : Nat → Prop, (∀ j < l.length, done j) ∧ J done vs X) → Q .normal (putL l.toArray vs (List.range l.length) a) X)) :
    (Code.region id l.toArray true).wp P Q a w := by
  have hp' : ∀ i, 0 ≤ i → i < 0 + l.length → ∀ j ∈ pre.getD i [], j < i := fun i _ hi j hj => by
    unfold preOk at hp
    have := List.all_eq_true.1 (List.all_eq_true.1 hp i (List.mem_range.2 (by omega))) j hj
    simpa using this
  obtain ⟨M, hM, hf, hr⟩ := wpAll_spec l 0 [] rfl (fun j _ => by simp) hp' h
  rw [List.nil_append] at hf hr
  refine region_all l.length (by simp) pre (fun i vs X => C X ∧ (M.getD i anyPr) (vs i) X) (fun i X => C X ∧ B i X) (fun j us u X Y => G j us u X Y ∧ C Y) U J hJ0 (fun i done vs v X Y hi hd hp hj hb hr => hJ i done vs v X Y hi hd hp hj hb.1 hb.2 hr.1) (useOk_spec hU) hm hc ?_ ?_ (fun i _ => ⟨h0, hB0 i⟩) ?_ ?_ ?_ ?_
  · have := ready_all (ops := l.toArray)
    simpa using this
  · intro i vs us X hi hd ha
    rw [← hd i (.inl rfl)]
    exact ha
  · intro i k vs us u X Y hi hk hki hkp hku hB hR hA
    obtain ⟨o, ho⟩ : ∃ o, l.toArray[i]? = some o := ⟨_, Array.getElem?_eq_getElem (by simpa using hi)⟩
    exact ⟨hR.2, (hr i o (Nat.zero_le _) (by omega) ho).1 k _ _ _ _ _ hk hki hkp hku hB.1 hB.2 hR.1 hA.2⟩
  · intro i k us u X Y hi hk hki hip hB hR hBi
    exact ⟨hR.2, hBG i k us u X Y hi hk hki hip hB.1 hB.2 hR.1 hBi.2⟩
  · intro i vs X o hi ho hB hJi hA
    have h1 := (hr i o (Nat.zero_le _) (by omega) ho).2 vs X hB.1 hB.2 hJi (fun j hj => (hA j hj).2)
    refine wpList_mono_post ?_ h1
    rintro v Y ⟨hG, hV⟩
    rw [upd_self]
    exact ⟨⟨hG, hCG _ _ _ _ _ hi hB.1 hB.2 hG⟩, hCG _ _ _ _ _ hi hB.1 hB.2 hG, hV⟩
  · intro vs X listed hs hl hA hJd
    have hfin := hf vs X (hA (l.length - 1) (by omega) hlast).1 (fun i hi hu => (hA i hi hu).2) hJd
    have hz : l.toArray.size - l.length = 0 := by simp
    rw [hz]
    refine ⟨?_, hfin⟩
    unfold Region.ready
    rw [List.filter_eq_nil_iff]
    intro j hj
    have h1 := (hl j).2 (by simpa using List.mem_range.1 hj)
    have h2 : listed.getD j true = true := by
      have hm : j < listed.size := by rw [hs]; exact List.mem_range.1 hj
      simp only [Array.getD, hm, dif_pos] at h1 ⊢
      exact h1
    simp [h2]
theorem all_fx {ops : Array Oper} {pre : List (List Nat)} {n : Nat} {C : World → Prop} {B : Nat → World → Prop} {G : Nat → (Nat → Value) → Value → World → World → Prop} {J : (Nat → Prop) → (Nat → Value) → World → Prop} {U : Nat → Nat} {a : Act} {fin : List Pr → Prop} {k : Nat} {L : List Pr} {o : Oper} {l : List Oper} (c : Value)
    (h : ∀ (vs : Nat → Value) (X : World), C X → B k X → (∃ done : Nat → Prop, ¬ done k ∧ (∀ j ∈ pre.getD k [], done j) ∧ J done vs X) → (∀ j ∈ pre.getD k [], (L.getD j anyPr) (vs j) X) →
        wpList P ops (Post (putL ops vs (pre.getD k []) a) o.dst (fun v Y => G k vs v X Y ∧ v = c)) [o] (putL ops vs (pre.getD k []) a) X)
    (r : wpAll P ops pre n C B G J U a (k + 1) (L ++ [fun v _ => v = c]) l fin) : wpAll P ops pre n C B G J U a k L (o :: l) fin :=
  ⟨fun v _ => v = c, fun _ _ _ _ _ _ _ _ _ _ _ _ _ h => h, h, r⟩
theorem all_pr {ops : Array Oper} {pre : List (List Nat)} {n : Nat} {C : World → Prop} {B : Nat → World → Prop} {G : Nat → (Nat → Value) → Value → World → World → Prop} {J : (Nat → Prop) → (Nat → Value) → World → Prop} {U : Nat → Nat} {a : Act} {fin : List Pr → Prop} {k : Nat} {L : List Pr} {o : Oper} {l : List Oper} (V : Pr)
    (hV : ∀ j v us u X Y, j < n → j ≠ k → j ∉ pre.getD k [] → (U k ≠ k → U k ≠ j ∧ U k ∉ pre.getD j []) → C X → B j X → G j us u X Y → V v X → V v Y)
    (h : ∀ (vs : Nat → Value) (X : World), C X → B k X → (∃ done : Nat → Prop, ¬ done k ∧ (∀ j ∈ pre.getD k [], done j) ∧ J done vs X) → (∀ j ∈ pre.getD k [], (L.getD j anyPr) (vs j) X) →
        wpList P ops (Post (putL ops vs (pre.getD k []) a) o.dst (fun v Y => G k vs v X Y ∧ V v Y)) [o] (putL ops vs (pre.getD k []) a) X)
    (r : wpAll P ops pre n C B G J U a (k + 1) (L ++ [V]) l fin) : wpAll P ops pre n C B G J U a k L (o :: l) fin :=
  ⟨V, hV, h, r⟩
theorem all_nil {ops : Array Oper} {pre : List (List Nat)} {n : Nat} {C : World → Prop} {B : Nat → World → Prop} {G : Nat → (Nat → Value) → Value → World → World → Prop} {J : (Nat → Prop) → (Nat → Value) → World → Prop} {U : Nat → Nat} {a : Act} {fin : List Pr → Prop} {k : Nat} {L : List Pr} (h : fin L) : wpAll P ops pre n C B G J U a k L [] fin := h

end
end Go.Rg

/- A drawn region all of whose first operations only make blocks of their own, with a tail behind.
   Conditions: as in the law of steps. -/
namespace Go.Rg
set_option maxRecDepth 100000
set_option linter.unusedVariables false
set_option linter.unusedSimpArgs false
open Go Go.RowKit
set_option linter.unusedVariables false
variable {P : Program}
theorem wp_region_grow_tail {id : Nat} {Q : Exit → Act → World → Prop} {a : Act} {w : World} {l : List Oper} (n : Nat) (pre : List (List Nat))
    (hm : P.follows .mixedOrders = true) (hc : okPre l.toArray pre = true) (hp : preOk pre n = true) (hne : 0 < n) (ht : tailOk l.toArray n = true)
    (h : wpSteps P l.toArray pre n (fun X => Below w.heap.size w X) (fun _ _ => True) (fun _ X Y => Below X.heap.size X Y) a 0 [] (l.take n)
      (fun L => ∀ (vs : Nat → Value) (X : World), Below w.heap.size w X → (∀ i < n, (L.getD i anyPr) (vs i) X) → wpList P l.toArray Q (l.drop n) (putL l.toArray vs (List.range n) a) X)) :
    (Code.region id l.toArray true).wp P Q a w :=
  wp_region_steps_tail n pre _ _ _ hm hc hp hne ht (Below.drew (Below.refl _ _)) (fun _ => trivial) (fun j X Y _ hC _ hG => hC.trans (hG.mono hC.size)) (fun _ _ _ _ _ _ _ _ _ _ _ _ => trivial) h
theorem wp_region_grow {id : Nat} {Q : Exit → Act → World → Prop} {a : Act} {w : World} {l : List Oper} (pre : List (List Nat))
    (hm : P.follows .mixedOrders = true) (hc : okPre l.toArray pre = true) (hp : preOk pre l.length = true) (hne : 0 < l.length)
    (h : wpSteps P l.toArray pre l.length (fun X => Below w.heap.size w X) (fun _ _ => True) (fun _ X Y => Below X.heap.size X Y) a 0 [] l
      (fun L => ∀ (vs : Nat → Value) (X : World), Below w.heap.size w X → (∀ i < l.length, (L.getD i anyPr) (vs i) X) → Q .normal (putL l.toArray vs (List.range l.length) a) X)) :
    (Code.region id l.toArray true).wp P Q a w :=
  wp_region_steps pre _ _ _ hm hc hp hne (Below.drew (Below.refl _ _)) (fun _ => trivial) (fun j X Y _ hC _ hG => hC.trans (hG.mono hC.size)) (fun _ _ _ _ _ _ _ _ _ _ _ _ => trivial) h
end Go.Rg

/- Rows of elements of a fixed number of cells: slices that are read (SlV), slices that are owned (OwnV).
   Conditions: those that each theorem names. -/
namespace Go.Proofs.Ytkdbbdlkfpjdfaa
set_option maxRecDepth 100000
set_option linter.unusedVariables false
set_option linter.unusedSimpArgs false
open Go.RowKit Go.Rg
/-- Elements of one size, each cell a plain one. -/
def Sized (sz : Nat) (css : List (List Value)) : Prop := ∀ c ∈ css, c.length = sz ∧ ∀ u ∈ c, u.oneCell' = true
theorem Sized.tail {sz : Nat} {c : List Value} {t : List (List Value)} (h : Sized sz (c :: t)) : Sized sz t := fun x hx => h x (by simp [hx])
theorem Sized.head {sz : Nat} {c : List Value} {t : List (List Value)} (h : Sized sz (c :: t)) : c.length = sz := (h c (by simp)).1
theorem Sized.flat : ∀ {css : List (List Value)} {sz : Nat}, Sized sz css → css.flatten.length = css.length * sz
  | [], _, _ => by simp
  | c :: t, sz, h => by rw [List.flatten_cons, List.length_append, h.tail.flat, h.head, List.length_cons, Nat.succ_mul]; omega
theorem Sized.get : ∀ {css : List (List Value)} {sz : Nat} (i : Nat) (c : List Value), Sized sz css → css[i]? = some c → ∀ (j : Nat) (v : Value), c[j]? = some v → css.flatten[i * sz + j]? = some v
  | [], _, i, c, _, h, _, _, _ => by simp at h
  | d :: t, sz, 0, c, h16, h, j, v, hv => by
    simp only [List.getElem?_cons_zero, Option.some.injEq] at h
    subst h
    rw [List.flatten_cons, Nat.zero_mul, Nat.zero_add, List.getElem?_append_left (List.getElem?_eq_some_iff.1 hv).1, hv]
  | d :: t, sz, i + 1, c, h16, h, j, v, hv => by
    have hd := h16.head
    rw [List.getElem?_cons_succ] at h
    rw [List.flatten_cons, List.getElem?_append_right (by rw [Nat.succ_mul]; omega), hd, Nat.succ_mul, show i * sz + sz + j - sz = i * sz + j by omega]
    exact Sized.get i c h16.tail h j v hv
theorem splice_left {cs rest vs : List Value} {o : Nat} (h : o + vs.length ≤ cs.length) : splice (cs ++ rest) o vs = splice cs o vs ++ rest := by
  unfold splice
  rw [List.take_append_of_le_length (by omega), List.drop_append_of_le_length h]
  simp
theorem Sized.splice : ∀ {css : List (List Value)} {sz : Nat} (i : Nat) (c : List Value), Sized sz css → c.length = sz → i < css.length → splice css.flatten (i * sz) c = (css.set i c).flatten
  | [], _, i, c, _, _, h => by simp at h
  | d :: t, sz, 0, c, h16, hc, h => by
    have hd := h16.head
    rw [List.set_cons_zero, List.flatten_cons, List.flatten_cons, Nat.zero_mul]
    unfold Proofs.Ytkdbbdlkfpjdfaa.splice
    rw [List.take_zero, List.nil_append, Nat.zero_add, List.drop_append_of_le_length (by omega), List.drop_of_length_le (by omega), List.nil_append]
  | d :: t, sz, i + 1, c, h16, hc, h => by
    have hd := h16.head
    have hf := h16.tail.flat
    have hl : i * sz + sz ≤ t.length * sz := by
      have h1 : i + 1 ≤ t.length := by simp at h; omega
      have := Nat.mul_le_mul_right sz h1
      rwa [Nat.succ_mul] at this
    rw [List.set_cons_succ, List.flatten_cons, List.flatten_cons, ← Sized.splice i c h16.tail hc (by simpa using h)]
    unfold Proofs.Ytkdbbdlkfpjdfaa.splice
    rw [Nat.succ_mul, show i * sz + sz = d.length + i * sz by omega, List.take_length_add_append, List.append_assoc, List.append_assoc, Nat.add_assoc, List.drop_length_add_append, List.append_assoc]
theorem Sized.set {sz : Nat} {css : List (List Value)} (h : Sized sz css) (i : Nat) {c : List Value} (hc : c.length = sz) (h1 : ∀ u ∈ c, u.oneCell' = true) : Sized sz (css.set i c) := by
  intro x hx
  rcases List.mem_or_eq_of_mem_set hx with h' | rfl
  · exact h x h'
  · exact ⟨hc, h1⟩
theorem Sized.append {sz : Nat} {css dss : List (List Value)} (h : Sized sz css) (k : Sized sz dss) : Sized sz (css ++ dss) := fun x hx => (List.mem_append.1 hx).elim (h x) (k x)
theorem Sized.one {sz : Nat} {css : List (List Value)} (h : Sized sz css) : ∀ u ∈ css.flatten, u.oneCell' = true := by
  intro u hu
  obtain ⟨c, hc, hu⟩ := List.mem_flatten.1 hu
  exact (h c hc).2 u hu
theorem Sized.nil (sz : Nat) : Sized sz [] := fun c h => by cases h
theorem Sized.take {sz : Nat} {css : List (List Value)} (h : Sized sz css) (k : Nat) : Sized sz (css.take k) := fun x hx => h x (List.mem_of_mem_take hx)
theorem Sized.drop {sz : Nat} {css : List (List Value)} (h : Sized sz css) (k : Nat) : Sized sz (css.drop k) := fun x hx => h x (List.mem_of_mem_drop hx)
/-! ### Slices that are read -/
def SlV (sz : Nat) (w : World) (v : Value) (css : List (List Value)) : Prop :=
  ∃ p cap, v = .slice p css.length cap ∧ css.length ≤ cap ∧ ∀ i c, css[i]? = some c → ∃ g o, p = some ⟨g, o, none⟩ ∧ g < w.heap.size ∧ w.rangeAt g (o + i * sz) c
theorem range_kept {g o : Nat} {cs : List Value} {X Y : World} (h : X.rangeAt g o cs) (hg : Y.heap[g]? = X.heap[g]?) : Y.rangeAt g o cs := fun j v hv => by
  have := h j v hv
  rw [← this]
  simp only [World.cell?, hg]
theorem SlV.kept {sz : Nat} {w w' : World} {v : Value} {l : List (List Value)} (h : SlV sz w v l) (hB : ∀ k, v.ownBlock = some k → k < w.heap.size → w'.heap[k]? = w.heap[k]?) (hz : w.heap.size ≤ w'.heap.size) : SlV sz w' v l := by
  obtain ⟨p, cap, rfl, hc, hf⟩ := h
  refine ⟨p, cap, rfl, hc, fun i c hi => ?_⟩
  obtain ⟨g, o, rfl, hg, hr⟩ := hf i c hi
  exact ⟨g, o, rfl, Nat.lt_of_lt_of_le hg hz, range_kept hr (hB g rfl hg)⟩
theorem SlV.below {sz : Nat} {w w' : World} {v : Value} {l : List (List Value)} (h : SlV sz w v l) (hB : Below w.heap.size w w') : SlV sz w' v l :=
  h.kept (fun k _ hk => hB.block k hk) hB.size
theorem SlV.lt {sz : Nat} {w : World} {v : Value} {l : List (List Value)} (h : SlV sz w v l) (h0 : 0 < l.length) : ∃ k, v.ownBlock = some k ∧ k < w.heap.size := by
  obtain ⟨p, cap, rfl, hc, hf⟩ := h
  obtain ⟨g, o, rfl, hg, _⟩ := hf 0 l[0] (List.getElem?_eq_getElem h0)
  exact ⟨g, rfl, hg⟩
theorem SlV.none (sz : Nat) (w : World) (p : Option Addr) (c : Nat) : SlV sz w (.slice p 0 c) [] := ⟨p, c, rfl, Nat.zero_le _, fun i c hi => by simp at hi⟩
theorem SlV.take {sz : Nat} {w : World} {p : Option Addr} {n cap : Nat} {cs : List (List Value)} (h : SlV sz w (.slice p n cap) cs) (k : Nat) (hk : k ≤ cs.length) : SlV sz w (.slice p k cap) (cs.take k) := by
  obtain ⟨q, cap', e, hc, hf⟩ := h
  cases e
  have hl : (cs.take k).length = k := by simp; omega
  refine ⟨p, cap, by rw [hl], by omega, fun i c hi => ?_⟩
  have hik : i < k := by have := (List.getElem?_eq_some_iff.1 hi).1; omega
  exact hf i c (by rw [List.getElem?_take, if_pos hik] at hi; exact hi)
theorem SlV.drop {sz : Nat} {w : World} {p : Option Addr} {n cap : Nat} {cs : List (List Value)} (h : SlV sz w (.slice p n cap) cs) (k : Nat) (hk : k ≤ cs.length) : SlV sz w (.slice (if cap = k then p else p.map (fun x => x.add (k * sz))) (cs.length - k) (cap - k)) (cs.drop k) := by
  obtain ⟨q, cap', e, hc, hf⟩ := h
  cases e
  have hl : (cs.drop k).length = cs.length - k := by simp
  refine ⟨_, cap - k, by rw [hl], by omega, fun i c hi => ?_⟩
  have hik : i < cs.length - k := by have := (List.getElem?_eq_some_iff.1 hi).1; omega
  rw [List.getElem?_drop] at hi
  obtain ⟨g, o, rfl, hg, hr⟩ := hf (k + i) c hi
  rw [if_neg (by omega), Option.map_some, add_plain]
  exact ⟨g, o + k * sz, rfl, hg, by rw [show o + k * sz + i * sz = o + (k + i) * sz by rw [Nat.add_mul]; omega]; exact hr⟩
/-- All its cells in a row. -/
theorem SlV.cells {sz : Nat} {w : World} {g : Addr} {n cap : Nat} {l : List (List Value)} (h : SlV sz w (.slice (some g) n cap) l) (hs : Sized sz l) : ∀ j u, l.flatten[j]? = some u → w.cell? (g.add j) = some u := by
  obtain ⟨p, cap', e, hc, hf⟩ := h
  cases e
  intro j u hu
  have hj : j < l.length * sz := by rw [← hs.flat]; exact (List.getElem?_eq_some_iff.1 hu).1
  have hz : 0 < sz := Nat.pos_of_ne_zero (fun e => by subst e; simp at hj)
  have hi : j / sz < l.length := Nat.div_lt_of_lt_mul (by rw [Nat.mul_comm]; exact hj)
  have hm : j % sz < sz := Nat.mod_lt _ hz
  have hl := (hs _ (List.getElem_mem hi)).1
  obtain ⟨g', o, e, _, hr⟩ := hf (j / sz) _ (List.getElem?_eq_getElem hi)
  cases e
  have h1 := hr (j % sz) _ (List.getElem?_eq_getElem (by omega))
  have h2 := hs.get (j / sz) _ (List.getElem?_eq_getElem hi) (j % sz) _ (List.getElem?_eq_getElem (by omega))
  have ej : j / sz * sz + j % sz = j := Nat.div_add_mod' j sz
  rw [ej, hu] at h2
  rw [add_plain, show o + j = o + j / sz * sz + j % sz by omega, h1, h2]
/-! ### Slices that are owned -/
def OwnV (E : TypeId) (sz : Nat) (w : World) (v : Value) (css : List (List Value)) : Prop := Sized sz css ∧ w.ownsRow 0 E sz v css.length css.flatten
theorem OwnV.nil (E : TypeId) (sz : Nat) (w : World) : OwnV E sz w (.slice none 0 0) [] := ⟨Sized.nil _, World.ownsRow_nil _ _ _ _⟩
theorem OwnV.kept {E : TypeId} {sz : Nat} {w w' : World} {v : Value} {l : List (List Value)} (h : OwnV E sz w v l) (hg : ∀ g, v.ownBlock = some g → w'.heap[g]? = w.heap[g]?) : OwnV E sz w' v l := ⟨h.1, row_kept h.2 hg⟩
theorem OwnV.lt {E : TypeId} {sz : Nat} {w : World} {v : Value} {l : List (List Value)} (h : OwnV E sz w v l) {k : Nat} (hk : v.ownBlock = some k) : k < w.heap.size := (World.ownsRow.lt h.2 k hk).2
theorem OwnV.below {E : TypeId} {sz : Nat} {w w' : World} {v : Value} {l : List (List Value)} (h : OwnV E sz w v l) (hB : Below w.heap.size w w') : OwnV E sz w' v l := h.kept (fun g hg => hB.block g (h.lt hg))
theorem OwnV.shape {E : TypeId} {sz : Nat} {w : World} {v : Value} {l : List (List Value)} (h : OwnV E sz w v l) : ∃ p c, v = .slice p l.length c ∧ l.length ≤ c ∧ (p = .none → l = [] ∧ c = 0) ∧ ∀ a, p = some a → ∃ g, a = ⟨g, 0, .none⟩ := by
  rcases h.2.2 with ⟨rfl, h0⟩ | ⟨g, cap, cur, rfl, _, hg, hc, _⟩
  · exact ⟨.none, 0, by rw [h0], by omega, fun _ => ⟨List.eq_nil_of_length_eq_zero h0, rfl⟩, fun a e => by cases e⟩
  · exact ⟨_, cap, rfl, hc, fun e => by (cases e), fun a e => by cases e; exact ⟨g, rfl⟩⟩
theorem OwnV.at {E : TypeId} {sz : Nat} {w : World} {v : Value} {l : List (List Value)} (h : OwnV E sz w v l) : SlV sz w v l := by
  rcases h.2.2 with ⟨rfl, h0⟩ | ⟨g, cap, cur, rfl, _, hg, hc, _, hs, ht⟩
  · obtain rfl := List.eq_nil_of_length_eq_zero h0
    exact SlV.none _ _ _ _
  · refine ⟨_, cap, rfl, hc, fun i c hi => ⟨g, 0, rfl, blk_lt hg, fun j v hv => ?_⟩⟩
    have := h.2.cells (g := g) rfl (i * sz + j) v (h.1.get i c hi j v hv)
    rw [add_plain] at this
    rw [show 0 + i * sz + j = 0 + (i * sz + j) by omega]
    exact this
/-- An element of it, written whole. -/
theorem OwnV.store {E : TypeId} {sz : Nat} {w : World} {v : Value} {l : List (List Value)} (h : OwnV E sz w v l) {g o n cap : Nat} (hv : v = .slice (some ⟨g, o, none⟩) n cap) {i : Nat} (hi : i < l.length) {c : List Value} (hc : c.length = sz) (h1 : ∀ u ∈ c, u.oneCell' = true) :
    o = 0 ∧ g < w.heap.size ∧ w.there g (i * sz) sz ∧ OwnV E sz (w.setCells g (i * sz) c) v (l.set i c) := by
  rcases h.2.2 with ⟨rfl, h0⟩ | ⟨g', cap', cur, rfl, hb, hg, hcap, hm, hs, ht⟩
  · cases hv
  · cases hv
    have hfl := h.1.flat
    have hle : i * sz + sz ≤ l.length * sz := by
      have := Nat.mul_le_mul_right sz (show i + 1 ≤ l.length from hi)
      rwa [Nat.succ_mul] at this
    have hcl : l.length * sz ≤ cap * sz := Nat.mul_le_mul_right sz hcap
    obtain ⟨cl⟩ := cur
    have hsz : cl.length = cap * sz := by simpa using hs
    refine ⟨rfl, blk_lt hg, blk_there hg _ _ (by omega), h.1.set i hc h1, by rw [(h.1.set i hc h1).flat, List.length_set], .inr ⟨g, cap, (Proofs.Ytkdbbdlkfpjdfaa.splice cl (i * sz) c).toArray, by rw [List.length_set], hb, heap_setCells g E (0, 0) c (i * sz) cl w hg (by omega), by rw [List.length_set]; exact hcap, hm, ?_, ?_⟩⟩
    · rw [List.size_toArray, splice_length (by omega), hsz]
    · have hcl' : cl = l.flatten ++ cl.drop (l.length * sz) := by
        have := List.take_append_drop (l.length * sz) cl
        rw [show cl.take (l.length * sz) = l.flatten from ht] at this
        exact this.symm
      rw [List.length_set, ← h.1.splice i c hc hi]
      show (Proofs.Ytkdbbdlkfpjdfaa.splice cl (i * sz) c).take (l.length * sz) = _
      rw [hcl', splice_left (by omega), List.take_append_of_le_length (by rw [splice_length (by omega)]; omega), List.take_of_length_le (by rw [splice_length (by omega)]; omega)]
theorem OwnV.mk {E : TypeId} {sz base n : Nat} {w : World} {v : Value} {css dss : List (List Value)} (h : w.ownsRow base E sz v n (css.flatten ++ dss.flatten)) (hc : Sized sz css) (hd : Sized sz dss) (hn : n = css.length + dss.length) : OwnV E sz w v (css ++ dss) := by
  refine ⟨hc.append hd, ?_⟩
  rw [List.flatten_append, List.length_append, ← hn]
  exact row_base h (Nat.zero_le _)
/-- A row that was just made. -/
theorem OwnV.made (E : TypeId) (sz : Nat) (w : World) (css : List (List Value)) (h : Sized sz css) (hm : css.length ≤ maxLen) : OwnV E sz (w.alloc (.cells css.flatten.toArray E)) (.slice (some ⟨w.heap.size, 0, none⟩) css.length css.length) css := by
  refine ⟨h, h.flat, .inr ⟨w.heap.size, css.length, css.flatten.toArray, rfl, Nat.zero_le _, World.alloc_heap_new _ _, Nat.le_refl _, hm, by rw [List.size_toArray, h.flat], ?_⟩⟩
  show css.flatten.take _ = _
  rw [List.take_of_length_le (by rw [h.flat]; exact Nat.le_refl _)]
end Go.Proofs.Ytkdbbdlkfpjdfaa

/- Slices that are made.
   Conditions: those that each theorem names. -/
namespace Go.Proofs.Ytkdbbdlkfpjdfaa
set_option maxRecDepth 100000
set_option linter.unusedVariables false
set_option linter.unusedSimpArgs false
open Go.RowKit Go.Rg
theorem wpList_msl_at {P : Program} {ops : Array Oper} {rest : List Oper} {o : Oper} {a : Act} {w w' : World} {Q : Exit → Act → World → Prop} {v vx vy : Value} {ty : TypeId} {x y : Operand} (hgd : o.guard = none) (ho : o.op = .makeSlice ty x y) (hx : a.eval x = vx) (hy : a.eval y = vy) (h : (Instr.makeSlice ty vx vy).run P w = .ok v w')
    (k : wpList P ops Q rest (a.put o.dst v) w') : wpList P ops Q (o :: rest) a w := by
  refine wpList_plain hgd fun _ hK => ?_
  unfold Oper.wp execOp
  simp only [ho, hx, hy, Sem.run_bind, h, Result.andThen_ok, Sem.run_pure]
  exact hK _ _ k
theorem made_one (v : Value) (n : Nat) : madeCells #[v] (n * 1) = (List.replicate n v).toArray := by
  apply Array.ext
  · rw [size_madeCells, List.size_toArray, List.length_replicate, Nat.mul_one]
  · intro k h1 h2
    simp [madeCells, Nat.mod_one]
theorem make_one (T E : TypeId) (z : Value) (bytes : Nat) (hb0 : bytes ≤ 32) (hz0 : z.cells = #[z]) (hT : Try.prog.underlying T = some (.slice E)) (hi : (Try.prog.info? E).map (fun i => (i.zero, i.size, i.bytes)) = some (some z, 1, bytes)) (n : Nat) (hn : n ≤ 1000000000) (w : World) :
    (Instr.makeSlice T (.int .i64 (n : Int)) (.int .i64 (n : Int))).run Try.prog w = .ok (.slice (some ⟨w.heap.size, 0, none⟩) n n) (w.alloc (.cells (List.replicate n z).toArray E)) := by
  obtain ⟨i, hi, hz, hs, hb⟩ := info_parts hi
  have hle : n * bytes ≤ 1000000000 * 32 := Nat.mul_le_mul hn hb0
  have hbi : (i.bytes : Int) * (n : Int) ≤ 281474976710656 := by
    rw [hb, ← Int.natCast_mul, Nat.mul_comm]; omega
  have := run_make w T E i z hT hi hz .i64 .i64 (n : Int) (n : Int) (by omega) (Int.le_refl _) hbi (by omega)
  rw [Int.toNat_natCast, hs, hz0, made_one] at this
  exact this
theorem make_bytes (n : Nat) (hn : n ≤ 1000000000) (w : World) :
    (Instr.makeSlice 41 (.int .i64 (n : Int)) (.int .i64 (n : Int))).run Try.prog w = .ok (.slice (some ⟨w.heap.size, 0, none⟩) n n) (w.alloc (.cells ((List.replicate n (0 : UInt8)).map byteV).toArray 5)) := by
  rw [List.map_replicate]
  exact make_one 41 5 (.int .u8 0) 1 (by omega) rfl Try.underlying41 infoC n hn w
theorem own_made (n : Nat) (l : List UInt8) (w : World) (hl : l.length = n) (hn : n ≤ 1000000000) : OwnB (w.alloc (.cells (l.map byteV).toArray 5)) (.slice (some ⟨w.heap.size, 0, none⟩) n n) l := by
  subst hl
  exact ⟨by simp, .inr ⟨w.heap.size, l.length, _, rfl, Nat.zero_le _, World.alloc_heap_new _ _, Nat.le_refl _, by unfold maxLen; omega, by simp, by show (l.map byteV).take _ = _; rw [List.take_of_length_le (by simp)]⟩⟩
/-- A byte of an owned row, written. -/
theorem OwnB.set {w : World} {l : List UInt8} {g o n cap : Nat} (h : OwnB w (.slice (some ⟨g, o, none⟩) n cap) l) (i : Nat) {y : UInt8} (hy : l[i]? = some y) (x : UInt8) :
    o = 0 ∧ n = l.length ∧ g < w.heap.size ∧ w.cell? ⟨g, i, none⟩ = some (byteV y) ∧ w.frozen? ⟨g, i, none⟩ = false ∧ OwnB (w.setCell ⟨g, i, none⟩ (byteV x)) (.slice (some ⟨g, o, none⟩) n cap) (l.set i x) := by
  have hi : i < l.length := (List.getElem?_eq_some_iff.1 hy).1
  obtain ⟨p, c, e, _, _, hp⟩ := h.shape
  obtain ⟨g', e'⟩ := hp ⟨g, o, none⟩ (by cases e; rfl)
  cases e'
  have hn : n = l.length := by cases e; rfl
  subst hn
  have hst := World.ownsRow.stored h i (byteV x)
  rw [← List.map_set] at hst
  refine ⟨rfl, rfl, h.lt rfl, ?_, World.ownsRow.frozenAt h i, ?_⟩
  · rw [World.ownsRow.cellAt h i (by omega), List.getElem?_map, hy]; rfl
  · unfold OwnB
    rw [List.length_set]
    exact hst.1
end Go.Proofs.Ytkdbbdlkfpjdfaa

/- Operations in a fence whose run is known.
   Conditions: those that each theorem names. -/
namespace Go.Proofs.Ytkdbbdlkfpjdfaa
set_option maxRecDepth 100000
set_option linter.unusedVariables false
set_option linter.unusedSimpArgs false
open Go.RowKit Go.Shelf Go.Rg
theorem wpListIn_load_at {F : Fence} {n : Nat} {P : Program} {ops : Array Oper} {rest : List Oper} {o : Oper} {a : Act} {w : World} {Q : Exit → Act → World → Prop} {v p : Value} (hgd : o.guard = none) (ty : TypeId) (x : Operand) (ho : o.op = .load ty x) (hx : a.eval x = p) (h : (Instr.loadAt ty p).run P w = .ok v w)
    (k : wpListIn F n P ops Q rest (a.put o.dst v) w) : wpListIn F n P ops Q (o :: rest) a w := by
  subst hx
  refine wpListIn_plain hgd fun K hK => ?_
  unfold Oper.wpIn
  refine ⟨?_, ?_⟩
  · simp [Oper.about, ho, Sem.run_pure]
  · rw [Oper.semAt_plain F _ _ (by rw [ho]; intro c hc'; cases hc')]
    unfold execOp
    simp only [ho]
    rw [Sem.run_bind, h]
    exact hK _ _ k
theorem wpListIn_store_at {F : Fence} {n : Nat} {P : Program} {ops : Array Oper} {rest : List Oper} {o : Oper} {a : Act} {w w' : World} {Q : Exit → Act → World → Prop} {v p : Value} (hgd : o.guard = none) (ty : TypeId) (x y : Operand) (ho : o.op = .store ty x y) (hx : a.eval x = p) (hy : a.eval y = v) (h : (Instr.storeAt ty p v).run P w = .ok () w')
    (k : wpListIn F n P ops Q rest (a.put o.dst undef) w') : wpListIn F n P ops Q (o :: rest) a w := by
  subst hx hy
  refine wpListIn_plain hgd fun K hK => ?_
  unfold Oper.wpIn
  refine ⟨?_, ?_⟩
  · simp [Oper.about, ho, Sem.run_pure]
  · rw [Oper.semAt_plain F _ _ (by rw [ho]; intro c hc'; cases hc')]
    unfold execOp
    simp only [ho]
    rw [Sem.run_bind, h]
    exact hK _ _ k
theorem wpListIn_build_at {F : Fence} {n : Nat} {P : Program} {ops : Array Oper} {rest : List Oper} {o : Oper} {a : Act} {w : World} {Q : Exit → Act → World → Prop} {v : Value} {ps : Array (Nat × Operand)} {qs : Array (Nat × Value)} (hgd : o.guard = none) (ty : TypeId) (ho : o.op = .build ty ps) (hx : ps.map (fun (i, x) => (i, a.eval x)) = qs) (h : (Instr.build ty qs).run P w = .ok v w)
    (k : wpListIn F n P ops Q rest (a.put o.dst v) w) : wpListIn F n P ops Q (o :: rest) a w := by
  subst hx
  refine wpListIn_plain hgd fun K hK => ?_
  unfold Oper.wpIn
  refine ⟨?_, ?_⟩
  · simp [Oper.about, ho, Sem.run_pure]
  · rw [Oper.semAt_plain F _ _ (by rw [ho]; intro c hc'; cases hc')]
    unfold execOp
    simp only [ho]
    rw [Sem.run_bind, h]
    exact hK _ _ k
theorem wpListIn_msl_at {F : Fence} {n : Nat} {P : Program} {ops : Array Oper} {rest : List Oper} {o : Oper} {a : Act} {w w' : World} {Q : Exit → Act → World → Prop} {v : Value} {ty : TypeId} {m : Nat} {ps : Array (Nat × Operand)} {qs : Array (Nat × Value)} (hgd : o.guard = none) (ho : o.op = .buildSlice ty m ps) (hx : ps.map (fun (i, x) => (i, a.eval x)) = qs) (h : (Instr.buildSlice ty m qs).run P w = .ok v w')
    (k : wpListIn F n P ops Q rest (a.put o.dst v) w') : wpListIn F n P ops Q (o :: rest) a w := by
  subst hx
  refine wpListIn_plain hgd fun K hK => ?_
  unfold Oper.wpIn
  refine ⟨?_, ?_⟩
  · simp [Oper.about, ho, Sem.run_pure]
  · rw [Oper.semAt_plain F _ _ (by rw [ho]; intro c hc'; cases hc')]
    unfold execOp
    simp only [ho]
    rw [Sem.run_bind, h]
    exact hK _ _ k
/-- A whole value in a box of one block: reading and writing it. -/
theorem wpListIn_bin_at {F : Fence} {n : Nat} {P : Program} {ops : Array Oper} {rest : List Oper} {o : Oper} {a : Act} {w : World} {Q : Exit → Act → World → Prop} {v vx vy : Value} {op : BinOp} {t ty : TypeId} {x y : Operand} (hgd : o.guard = none) (ho : o.op = .binOp op t x y ty) (hx : a.eval x = vx) (hy : a.eval y = vy) (h : (do eqGuard op t x y vx vy; binOp op t vx vy : Sem Value).run P w = .ok v w)
    (k : wpListIn F n P ops Q rest (a.put o.dst v) w) : wpListIn F n P ops Q (o :: rest) a w := by
  subst hx hy
  refine wpListIn_plain hgd fun K hK => ?_
  unfold Oper.wpIn
  refine ⟨?_, ?_⟩
  · simp [Oper.about, ho, Sem.run_pure]
  · rw [Oper.semAt_plain F _ _ (by rw [ho]; intro c hc'; cases hc')]
    unfold execOp
    simp only [ho]
    rw [Sem.run_bind, h]
    exact hK _ _ k
end Go.Proofs.Ytkdbbdlkfpjdfaa

/- A drawn region that makes boxes and fills them: what each box holds behind it.
   Conditions: each box is filled once, behind its making. -/
namespace Go.Proofs.Ytkdbbdlkfpjdfaa
set_option maxRecDepth 100000
set_option linter.unusedVariables false
set_option linter.unusedSimpArgs false
open Go.RowKit Go.Rg
structure Ent where
  a : Nat
  s : Nat
  T : TypeId
  old : List Value
  new : List Value
def BJ (lo : Nat) (L : List Ent) (done : Nat → Prop) (vs : Nat → Value) (X : World) : Prop :=
  ∀ e ∈ L, (done e.s → done e.a) ∧ (done e.a → ∃ b, vs e.a = ptr b ∧ lo ≤ b ∧ (done e.s → X.heap[b]? = some (.cells e.new.toArray e.T (0, 0))) ∧ (¬ done e.s → X.heap[b]? = some (.cells e.old.toArray e.T (0, 0))) ∧
    ∀ e' ∈ L, done e'.a → vs e'.a = ptr b → e'.a = e.a)
def BG (lo : Nat) (L : List Ent) (i : Nat) (vs : Nat → Value) (v : Value) (X Y : World) : Prop :=
  Below lo X Y ∧ (∀ e ∈ L, e.a = i → v = ptr X.heap.size ∧ Y.heap[X.heap.size]? = some (.cells e.old.toArray e.T (0, 0))) ∧
  (∀ e ∈ L, e.s = i → ∃ b, vs e.a = ptr b ∧ Y.heap[b]? = some (.cells e.new.toArray e.T (0, 0)) ∧ ∀ k, k ≠ b → Y.heap[k]? = X.heap[k]?) ∧ ((∀ e ∈ L, e.s ≠ i) → Below X.heap.size X Y)
theorem BJ.start (lo : Nat) (L : List Ent) (vs : Nat → Value) (X : World) : BJ lo L (fun _ => False) vs X := fun e _ => ⟨fun h => h.elim, fun h => h.elim⟩
theorem BJ.lt {lo : Nat} {L : List Ent} {done : Nat → Prop} {vs : Nat → Value} {X : World} (h : BJ lo L done vs X) {e : Ent} (he : e ∈ L) (hd : done e.a) {b : Nat} (hb : vs e.a = ptr b) : b < X.heap.size := by
  obtain ⟨b', h1, _, h2, h3, _⟩ := (h e he).2 hd
  rw [hb] at h1
  cases h1
  by_cases hs : done e.s
  · exact blk_lt (h2 hs)
  · exact blk_lt (h3 hs)
theorem BJ.step {lo : Nat} {L : List Ent} {pre : List (List Nat)} (h1 : ∀ e ∈ L, ∀ e' ∈ L, e.a ≠ e'.s ∧ (e.a = e'.a → e.s = e'.s)) (h2 : ∀ e ∈ L, e.a ∈ pre.getD e.s []) {i : Nat} {done : Nat → Prop} {vs : Nat → Value} {v : Value} {X Y : World}
    (hd : ¬ done i) (hp : ∀ j ∈ pre.getD i [], done j) (hJ : BJ lo L done vs X) (hlo : lo ≤ X.heap.size) (hG : BG lo L i vs v X Y) : BJ lo L (fun j => done j ∨ j = i) (upd vs i v) Y := by
  obtain ⟨g0, g1, g2, g3⟩ := hG
  intro e he
  refine ⟨?_, ?_⟩
  · rintro (h | h)
    · exact .inl ((hJ e he).1 h)
    · subst h; exact .inl (hp _ (h2 e he))
  · intro hde
    by_cases hi : e.a = i
    · obtain ⟨hv, hY⟩ := g1 e he hi
      refine ⟨X.heap.size, by rw [hi, upd_self]; exact hv, hlo, ?_, fun _ => hY, ?_⟩
      · rintro (h | h)
        · exact absurd (hi ▸ (hJ e he).1 h) hd
        · exact absurd (hi.trans h.symm) (h1 e he e he).1
      · intro e' he' hd' hv'
        by_cases hi' : e'.a = i
        · rw [hi', hi]
        · rw [upd_ne _ _ _ hi'] at hv'
          rcases hd' with hd' | hd'
          · exact absurd (hJ.lt he' hd' hv') (Nat.lt_irrefl _)
          · exact absurd hd' hi'
    · have hde' : done e.a := hde.resolve_right hi
      obtain ⟨b, hb, hbl, hn, ho, hu⟩ := (hJ e he).2 hde'
      have hbX := hJ.lt he hde' hb
      have huniq : ∀ e' ∈ L, (done e'.a ∨ e'.a = i) → upd vs i v e'.a = ptr b → e'.a = e.a := by
        intro e' he' hd' hv'
        by_cases hi' : e'.a = i
        · rw [hi', upd_self] at hv'
          obtain ⟨hv, _⟩ := g1 e' he' hi'
          rw [hv] at hv'
          have : X.heap.size = b := by cases hv'; rfl
          omega
        · rw [upd_ne _ _ _ hi'] at hv'
          exact hu e' he' (hd'.resolve_right hi') hv'
      refine ⟨b, by rw [upd_ne _ _ _ hi]; exact hb, hbl, ?_, ?_, huniq⟩
      · intro hs
        by_cases hsi : e.s = i
        · obtain ⟨b2, e2, hY, _⟩ := g2 e he hsi
          rw [hb] at e2; cases e2
          exact hY
        · have hs' := hs.resolve_right hsi
          by_cases hst : ∀ e2 ∈ L, e2.s ≠ i
          · exact ((g3 hst).block b hbX).trans (hn hs')
          · obtain ⟨e2, he2⟩ := Classical.not_forall.1 hst
            obtain ⟨he2, hs2⟩ := Classical.not_imp.1 he2
            have hs2 := Classical.not_not.1 hs2
            obtain ⟨b2, q2, _, hk⟩ := g2 e2 he2 hs2
            have hd2 : done e2.a := hp _ (hs2 ▸ h2 e2 he2)
            refine (hk b ?_).trans (hn hs')
            rintro rfl
            have := hu e2 he2 hd2 q2
            exact hsi ((h1 e2 he2 e he).2 this ▸ hs2)
      · intro hs
        have hs' : ¬ done e.s := fun h => hs (.inl h)
        have hsi : e.s ≠ i := fun h => hs (.inr h)
        by_cases hst : ∀ e2 ∈ L, e2.s ≠ i
        · exact ((g3 hst).block b hbX).trans (ho hs')
        · obtain ⟨e2, he2⟩ := Classical.not_forall.1 hst
          obtain ⟨he2, hs2⟩ := Classical.not_imp.1 he2
          have hs2 := Classical.not_not.1 hs2
          obtain ⟨b2, q2, _, hk⟩ := g2 e2 he2 hs2
          have hd2 : done e2.a := hp _ (hs2 ▸ h2 e2 he2)
          refine (hk b ?_).trans (ho hs')
          rintro rfl
          have := hu e2 he2 hd2 q2
          exact hsi ((h1 e2 he2 e he).2 this ▸ hs2)
theorem BG.none {lo : Nat} {L : List Ent} {i : Nat} {vs : Nat → Value} {v : Value} {X Y : World} (Lp : List (Nat × Nat)) (hL : L.map (fun e => (e.a, e.s)) = Lp) (h : (Lp.all fun p => p.1 != i && p.2 != i) = true) (hX : lo ≤ X.heap.size) (hB : Below X.heap.size X Y) : BG lo L i vs v X Y := by
  have hne : ∀ e ∈ L, e.a ≠ i ∧ e.s ≠ i := by
    intro e he
    have hm : (e.a, e.s) ∈ Lp := hL ▸ List.mem_map.2 ⟨e, he, rfl⟩
    have := List.all_eq_true.1 h _ hm
    simpa using this
  exact ⟨hB.mono hX, fun e he h => absurd h (hne e he).1, fun e he h => absurd h (hne e he).2, fun _ => hB⟩
theorem BG.alloc {lo : Nat} {L : List Ent} {i : Nat} {vs : Nat → Value} {X : World} (Lp : List (Nat × Nat)) (hL : L.map (fun e => (e.a, e.s)) = Lp) (h : (Lp.all fun p => p.2 != i) = true) (T : TypeId) (old : List Value) (hT : ∀ e ∈ L, e.a = i → e.T = T ∧ e.old = old) (hX : lo ≤ X.heap.size) :
    BG lo L i vs (ptr X.heap.size) X (X.alloc (.cells old.toArray T)) := by
  have hne : ∀ e ∈ L, e.s ≠ i := by
    intro e he
    have hm : (e.a, e.s) ∈ Lp := hL ▸ List.mem_map.2 ⟨e, he, rfl⟩
    have := List.all_eq_true.1 h _ hm
    simpa using this
  have hB : Below X.heap.size X (X.alloc (.cells old.toArray T)) := (Below.refl _ _).alloc (Nat.le_refl _) _
  refine ⟨hB.mono hX, fun e he hi => ⟨rfl, ?_⟩, fun e he h => absurd h (hne e he), fun _ => hB⟩
  obtain ⟨h1, h2⟩ := hT e he hi
  rw [h1, h2]
  exact World.alloc_heap_new _ _
theorem BG.store {lo : Nat} {L : List Ent} {i b : Nat} {vs : Nat → Value} {v : Value} {X : World} {T : TypeId} {old new : List Value} (Lp : List (Nat × Nat)) (hL : L.map (fun e => (e.a, e.s)) = Lp) (a : Nat) (h : (Lp.all fun p => p.1 != i && (p.2 != i || p.1 == a)) = true) (hT : ∀ e ∈ L, e.s = i → e.T = T ∧ e.new = new)
    (hv : vs a = ptr b) (hb : lo ≤ b) (hX : X.heap[b]? = some (.cells old.toArray T (0, 0))) (hl : new.length = old.length) (hi : (∃ e ∈ L, e.s = i)) : BG lo L i vs v X (X.setCells b 0 new) := by
  have hne : ∀ e ∈ L, e.a ≠ i ∧ (e.s = i → e.a = a) := by
    intro e he
    have hm : (e.a, e.s) ∈ Lp := hL ▸ List.mem_map.2 ⟨e, he, rfl⟩
    have := List.all_eq_true.1 h _ hm
    simp only [Bool.and_eq_true, bne_iff_ne, Bool.or_eq_true, beq_iff_eq] at this
    exact ⟨this.1, fun hs => this.2.resolve_left (fun hn => hn hs)⟩
  have hblk := heap_setCells b T (0, 0) new 0 old X hX (by omega)
  rw [splice_all hl] at hblk
  refine ⟨Below.setCells (Below.refl _ _) b 0 new hb, fun e he h => absurd h (hne e he).1, fun e he hs => ⟨b, by rw [(hne e he).2 hs]; exact hv, ?_, fun k hk => heap_setCells_ne b new 0 X k hk⟩, fun hno => ?_⟩
  · obtain ⟨h1, h2⟩ := hT e he hs
    rw [h1, h2]; exact hblk
  · obtain ⟨e, he, hs⟩ := hi
    exact absurd hs (hno e he)
end Go.Proofs.Ytkdbbdlkfpjdfaa

/- Rows that are appended to: one rule for every kind of element.
   Conditions: those that each theorem names. -/
namespace Go.Proofs.Ytkdbbdlkfpjdfaa
set_option maxRecDepth 100000
set_option linter.unusedVariables false
set_option linter.unusedSimpArgs false
open Go.RowKit Go.Rg
set_option linter.unusedVariables false
/-- What is known of an element's type. -/
def InfoE (E : TypeId) (sz bytes : Nat) : Prop := ∃ i z, Try.prog.info? E = some i ∧ i.zero = some z ∧ i.size = sz ∧ i.bytes = bytes ∧ z.cells.size = sz
/-- A row of its own, made since. -/
structure RowF (lo : Nat) (E : TypeId) (sz : Nat) (w : World) (v : Value) (css : List (List Value)) : Prop where
  own : OwnV E sz w v css
  fresh : ∀ g, v.ownBlock = some g → lo ≤ g
theorem RowF.nil (lo : Nat) (E : TypeId) (sz : Nat) (w : World) : RowF lo E sz w (.slice none 0 0) [] := ⟨OwnV.nil _ _ _, fun g h => by cases h⟩
theorem RowF.below {lo : Nat} {E : TypeId} {sz : Nat} {w w' : World} {v : Value} {l : List (List Value)} (h : RowF lo E sz w v l) (hB : Below w.heap.size w w') : RowF lo E sz w' v l := ⟨h.own.below hB, h.fresh⟩
theorem RowF.lower {lo lo' : Nat} {E : TypeId} {sz : Nat} {w : World} {v : Value} {l : List (List Value)} (h : RowF lo E sz w v l) (hl : lo' ≤ lo) : RowF lo' E sz w v l := ⟨h.own, fun g hg => Nat.le_trans hl (h.fresh g hg)⟩
theorem RowF.at {lo : Nat} {E : TypeId} {sz : Nat} {w : World} {v : Value} {l : List (List Value)} (h : RowF lo E sz w v l) : SlV sz w v l := h.own.at
theorem RowF.shape {lo : Nat} {E : TypeId} {sz : Nat} {w : World} {v : Value} {l : List (List Value)} (h : RowF lo E sz w v l) : ∃ p c, v = .slice p l.length c ∧ l.length ≤ c := by
  obtain ⟨p, c, rfl, hc, _⟩ := h.own.shape
  exact ⟨p, c, rfl, hc⟩
theorem RowF.kept {lo : Nat} {E : TypeId} {sz : Nat} {w w' : World} {v : Value} {l : List (List Value)} (h : RowF lo E sz w v l) (hg : ∀ g, v.ownBlock = some g → w'.heap[g]? = w.heap[g]?) : RowF lo E sz w' v l := ⟨h.own.kept hg, h.fresh⟩
theorem RowF.of {E : TypeId} {sz : Nat} {lo : Nat} {w : World} {v : Value} {l : List (List Value)} (h : OwnV E sz w v l) (hf : ∀ g, v.ownBlock = some g → lo ≤ g) : RowF lo E sz w v l := ⟨h, hf⟩
theorem SlV.lit {sz g n : Nat} {E : TypeId} {f : Nat × Nat} {c : List Value} {w : World} (h : w.heap[g]? = some (.cells c.toArray E f)) (hn : 1 ≤ n) : SlV sz w (.slice (some ⟨g, 0, Option.none⟩) 1 n) [c] := by
  refine ⟨_, n, rfl, hn, fun i x hi => ⟨g, 0, rfl, blk_lt h, ?_⟩⟩
  match i, hi with
  | 0, hi =>
    cases hi
    exact blk_range h _ _ (fun j v hv => by rw [show 0 + 0 * sz + j = j by omega, hv])
theorem SlV.src {sz : Nat} {w : World} {v : Value} {l : List (List Value)} (h : SlV sz w v l) : (l = [] ∧ ∃ c, v = .slice Option.none 0 c) ∨ ∃ ad c, v = .slice (some ad) l.length c := by
  obtain ⟨p, cap, rfl, hc, hf⟩ := h
  cases p with
  | none =>
    left
    cases l with
    | nil => exact ⟨rfl, cap, rfl⟩
    | cons x t => obtain ⟨g, o, e, _⟩ := hf 0 x rfl; cases e
  | some a => exact .inr ⟨a, cap, rfl⟩
theorem wpList_appV {w : World} {ops : Array Oper} {rest : List Oper} {o : Oper} {a : Act} {Q : Exit → Act → World → Prop}
    (hg : o.guard = none) (s x : Operand) (t : TypeId) (hop : o.op = Op.call { callee := Callee.builtin Builtin.append, args := #[s, x], argTypes := #[t, t] })
    (E : TypeId) (sz bytes : Nat) (h1 : Try.prog.underlying t = some (.slice E)) (hi : InfoE E sz bytes) (h7 : 0 < sz) {lo : Nat} {v : Value} {css : List (List Value)} (hs : a.eval s = v) (hown : RowF lo E sz w v css)
    {xv : Value} {dss : List (List Value)} (hx : a.eval x = xv) (hsl : SlV sz w xv dss) (hd : Sized sz dss) (b1 : css.length + dss.length ≤ maxLen) (b2 : (css.length + dss.length) * bytes ≤ 140737488355328) (hlo : lo ≤ w.heap.size)
    (hK : ∀ v' w', RowF lo E sz w' v' (css ++ dss) → Below lo w w' → w.grownBy w' v.ownBlock → (v'.ownBlock = v.ownBlock ∨ v'.ownBlock = some w.heap.size) → wpList Try.prog ops Q rest (a.put o.dst v') w') :
    wpList Try.prog ops Q (o :: rest) a w := by
  obtain ⟨i, z, i2, i3, i4, i5, i6⟩ := hi
  rcases hsl.src with ⟨rfl, c, rfl⟩ | ⟨ad, c, rfl⟩
  · refine wpList_append_own_none w hg s x t hop 0 E i sz h1 i2 i4 v css.length c css.flatten hs hown.own.2 hx ?_
    exact hK v w (by rw [List.append_nil]; exact hown) (Below.refl _ _) (World.grownBy.refl _ _) (.inl rfl)
  · refine wpList_append_own_at w hg s x t hop 0 E i z sz bytes h1 i2 i3 i4 i5 i6 h7 v css.length css.flatten hs hown.own.2 ad dss.length c dss.flatten hx hd.flat (hsl.cells hd) hd.one b1 b2 (Nat.zero_le _) ?_
    intro v' w' ho hgr _ hat
    refine hK v' w' ⟨OwnV.mk ho hown.own.1 hd rfl, fun g hg' => ?_⟩ ((Below.refl lo w).grown hgr hlo (fun k hk => hown.fresh k hk)) hgr hat
    rcases hat with e | e
    · exact hown.fresh g (e ▸ hg')
    · rw [e] at hg'; cases hg'; exact hlo
end Go.Proofs.Ytkdbbdlkfpjdfaa

/- Rows of elements of one cell each (numbers, Booleans, strings, pointers, slices): owned, read, written, appended to.
   Conditions: those that each theorem names. -/
namespace Go.Proofs.Ytkdbbdlkfpjdfaa
set_option maxRecDepth 100000
set_option linter.unusedVariables false
set_option linter.unusedSimpArgs false
open Go.RowKit Go.Rg
set_option linter.unusedVariables false
structure RowL (lo : Nat) (E : TypeId) (w : World) (v : Value) (vs : List Value) : Prop where
  own : w.ownsRow 0 E 1 v vs.length vs
  fresh : ∀ g, v.ownBlock = some g → lo ≤ g
theorem RowL.nil (lo : Nat) (E : TypeId) (w : World) : RowL lo E w (.slice none 0 0) [] := ⟨World.ownsRow_nil _ _ _ _, fun g h => by cases h⟩
theorem RowL.kept {lo : Nat} {E : TypeId} {w w' : World} {v : Value} {l : List Value} (h : RowL lo E w v l) (hg : ∀ g, v.ownBlock = some g → w'.heap[g]? = w.heap[g]?) : RowL lo E w' v l := ⟨row_kept h.own hg, h.fresh⟩
theorem RowL.lt {lo : Nat} {E : TypeId} {w : World} {v : Value} {l : List Value} (h : RowL lo E w v l) {g : Nat} (hg : v.ownBlock = some g) : g < w.heap.size := (World.ownsRow.lt h.own g hg).2
theorem RowL.below {lo : Nat} {E : TypeId} {w w' : World} {v : Value} {l : List Value} (h : RowL lo E w v l) (hB : Below w.heap.size w w') : RowL lo E w' v l := h.kept (fun g hg => hB.block g (h.lt hg))
theorem RowL.lower {lo lo' : Nat} {E : TypeId} {w : World} {v : Value} {l : List Value} (h : RowL lo E w v l) (hl : lo' ≤ lo) : RowL lo' E w v l := ⟨h.own, fun g hg => Nat.le_trans hl (h.fresh g hg)⟩
theorem RowL.shape {lo : Nat} {E : TypeId} {w : World} {v : Value} {l : List Value} (h : RowL lo E w v l) : ∃ p c, v = .slice p l.length c ∧ l.length ≤ c ∧ (p = .none → l = [] ∧ c = 0) ∧ ∀ a, p = some a → ∃ g, a = ⟨g, 0, .none⟩ := by
  rcases h.own.2 with ⟨rfl, h0⟩ | ⟨g, cap, cur, rfl, _, hg, hc, _⟩
  · exact ⟨.none, 0, by rw [h0], by omega, fun _ => ⟨List.eq_nil_of_length_eq_zero h0, rfl⟩, fun a e => by cases e⟩
  · exact ⟨_, cap, rfl, hc, fun e => by (cases e), fun a e => by cases e; exact ⟨g, rfl⟩⟩
theorem RowL.shape0 {lo : Nat} {E : TypeId} {w : World} {v : Value} {l : List Value} (h : RowL lo E w v l) (h0 : 0 < l.length) : ∃ g c, v = .slice (some ⟨g, 0, .none⟩) l.length c ∧ l.length ≤ c := by
  obtain ⟨p, c, rfl, hc, hn, hp⟩ := h.shape
  cases p with
  | none => rw [(hn rfl).1] at h0; simp at h0
  | some a => obtain ⟨g, rfl⟩ := hp a rfl; exact ⟨g, c, rfl, hc⟩
/-- An element, read. -/
theorem RowL.get {lo : Nat} {E : TypeId} {w : World} {l : List Value} {g o n c : Nat} (h : RowL lo E w (.slice (some ⟨g, o, .none⟩) n c) l) {i : Nat} {u : Value} (hi : l[i]? = some u) : w.cell? ⟨g, i, .none⟩ = some u := by
  have hil := (List.getElem?_eq_some_iff.1 hi).1
  obtain ⟨p, c', e, _, _, hp⟩ := h.shape
  obtain ⟨g', e'⟩ := hp ⟨g, o, .none⟩ (by cases e; rfl)
  cases e'
  have hn : n = l.length := by cases e; rfl
  subst hn
  have hx := World.ownsRow.cellAt h.own i (by omega)
  rw [hi] at hx
  exact hx
theorem RowL.free {lo : Nat} {E : TypeId} {w : World} {l : List Value} {g o n c : Nat} (h : RowL lo E w (.slice (some ⟨g, o, .none⟩) n c) l) (i : Nat) : w.frozen? ⟨g, i, .none⟩ = false := by
  obtain ⟨p, c', e, _, _, hp⟩ := h.shape
  obtain ⟨g', e'⟩ := hp ⟨g, o, .none⟩ (by cases e; rfl)
  cases e'
  have hn : n = l.length := by cases e; rfl
  subst hn
  exact World.ownsRow.frozenAt h.own i
/-- .. written. -/
theorem RowL.set {lo : Nat} {E : TypeId} {w : World} {l : List Value} {g o n c : Nat} (h : RowL lo E w (.slice (some ⟨g, o, .none⟩) n c) l) (i : Nat) (x : Value) : RowL lo E (w.setCell ⟨g, i, .none⟩ x) (.slice (some ⟨g, o, .none⟩) n c) (l.set i x) := by
  obtain ⟨p, c', e, _, _, hp⟩ := h.shape
  obtain ⟨g', e'⟩ := hp ⟨g, o, .none⟩ (by cases e; rfl)
  cases e'
  have hn : n = l.length := by cases e; rfl
  subst hn
  exact ⟨by rw [List.length_set]; exact (World.ownsRow.stored h.own i x).1, h.fresh⟩
theorem RowL.made (lo : Nat) (E : TypeId) (w : World) (vs : List Value) (hm : vs.length ≤ maxLen) (hlo : lo ≤ w.heap.size) : RowL lo E (w.alloc (.cells vs.toArray E)) (.slice (some ⟨w.heap.size, 0, .none⟩) vs.length vs.length) vs :=
  ⟨⟨by simp, .inr ⟨w.heap.size, vs.length, _, rfl, Nat.zero_le _, World.alloc_heap_new _ _, Nat.le_refl _, hm, by simp, by show vs.take _ = _; rw [List.take_of_length_le (by simp)]⟩⟩, fun g hg => by cases hg; exact hlo⟩
/-! ### Slices that are read -/
def SlL (w : World) (v : Value) (vs : List Value) : Prop :=
  ∃ p cap, v = .slice p vs.length cap ∧ vs.length ≤ cap ∧ ∀ i u, vs[i]? = some u → ∃ g o, p = some ⟨g, o, none⟩ ∧ g < w.heap.size ∧ w.cell? ⟨g, o + i, none⟩ = some u
theorem SlL.below {w w' : World} {v : Value} {l : List Value} (h : SlL w v l) (hB : Below w.heap.size w w') : SlL w' v l := by
  obtain ⟨p, cap, rfl, hc, hf⟩ := h
  refine ⟨p, cap, rfl, hc, fun i c hi => ?_⟩
  obtain ⟨g, o, e, hg, hr⟩ := hf i c hi
  exact ⟨g, o, e, Nat.lt_of_lt_of_le hg hB.size, (hB.cell (p := ⟨g, o + i, .none⟩) hg).trans hr⟩
theorem RowL.at {lo : Nat} {E : TypeId} {w : World} {v : Value} {l : List Value} (h : RowL lo E w v l) : SlL w v l := by
  obtain ⟨p, c, rfl, hc, hn, hp⟩ := h.shape
  refine ⟨p, c, rfl, hc, fun i u hi => ?_⟩
  cases p with
  | none => rw [(hn rfl).1] at hi; simp at hi
  | some a =>
    obtain ⟨g, rfl⟩ := hp a rfl
    exact ⟨g, 0, rfl, h.lt rfl, by rw [Nat.zero_add]; exact h.get hi⟩
theorem SlL.get {w : World} {p : Option Addr} {n c : Nat} {l : List Value} (h : SlL w (.slice p n c) l) {i : Nat} {u : Value} (hi : l[i]? = some u) : ∃ g o, p = some ⟨g, o, .none⟩ ∧ g < w.heap.size ∧ ∀ X, Below w.heap.size w X → X.cell? ⟨g, o + i, .none⟩ = some u := by
  obtain ⟨p', cap, e, hc, hf⟩ := h
  cases e
  obtain ⟨g, o, e, hg, hr⟩ := hf i u hi
  exact ⟨g, o, e, hg, fun X hX => (hX.cell (p := ⟨g, o + i, .none⟩) hg).trans hr⟩
theorem SlL.src {w : World} {v : Value} {l : List Value} (h : SlL w v l) : (l = [] ∧ ∃ c, v = .slice .none 0 c) ∨ ∃ ad c, v = .slice (some ad) l.length c ∧ ∀ j u, l[j]? = some u → w.cell? (ad.add j) = some u := by
  obtain ⟨p, cap, rfl, hc, hf⟩ := h
  cases p with
  | none =>
    left
    cases l with
    | nil => exact ⟨rfl, cap, rfl⟩
    | cons x t => obtain ⟨g, o, e, _⟩ := hf 0 x rfl; cases e
  | some a =>
    refine .inr ⟨a, cap, rfl, fun j u hj => ?_⟩
    obtain ⟨g, o, e, hg, hr⟩ := hf j u hj
    cases e
    rw [add_plain]
    exact hr
theorem SlL.lit {g n : Nat} {E : TypeId} {f : Nat × Nat} {u : Value} {w : World} (h : w.heap[g]? = some (.cells #[u] E f)) (hn : 1 ≤ n) : SlL w (.slice (some ⟨g, 0, .none⟩) 1 n) [u] := by
  refine ⟨_, n, rfl, hn, fun i x hi => ⟨g, 0, rfl, blk_lt h, ?_⟩⟩
  match i, hi with
  | 0, hi =>
    cases hi
    exact cell_at (cs := [u]) h 0
theorem wpList_appL {w : World} {ops : Array Oper} {rest : List Oper} {o : Oper} {a : Act} {Q : Exit → Act → World → Prop}
    (hg : o.guard = none) (s x : Operand) (t : TypeId) (hop : o.op = Op.call { callee := Callee.builtin Builtin.append, args := #[s, x], argTypes := #[t, t] })
    (E : TypeId) (bytes : Nat) (h1 : Try.prog.underlying t = some (.slice E)) (hi : InfoE E 1 bytes) {lo : Nat} {v : Value} {css : List Value} (hs : a.eval s = v) (hown : RowL lo E w v css)
    {xv : Value} {dss : List Value} (hx : a.eval x = xv) (hsl : SlL w xv dss) (hd : ∀ u ∈ dss, u.oneCell' = true) (b1 : css.length + dss.length ≤ maxLen) (b2 : (css.length + dss.length) * bytes ≤ 140737488355328) (hlo : lo ≤ w.heap.size)
    (hK : ∀ v' w', RowL lo E w' v' (css ++ dss) → Below lo w w' → w.grownBy w' v.ownBlock → (v'.ownBlock = v.ownBlock ∨ v'.ownBlock = some w.heap.size) → wpList Try.prog ops Q rest (a.put o.dst v') w') :
    wpList Try.prog ops Q (o :: rest) a w := by
  obtain ⟨i, z, i2, i3, i4, i5, i6⟩ := hi
  rcases hsl.src with ⟨rfl, c, rfl⟩ | ⟨ad, c, rfl, hc⟩
  · refine wpList_append_own_none w hg s x t hop 0 E i 1 h1 i2 i4 v css.length c css hs hown.own hx ?_
    exact hK v w (by rw [List.append_nil]; exact hown) (Below.refl _ _) (World.grownBy.refl _ _) (.inl rfl)
  · refine wpList_append_own_at w hg s x t hop 0 E i z 1 bytes h1 i2 i3 i4 i5 i6 (by omega) v css.length css hs hown.own ad dss.length c dss hx (by omega) hc hd b1 b2 (Nat.zero_le _) ?_
    intro v' w' ho hgr _ hat
    refine hK v' w' ⟨by rw [List.length_append]; exact ho, fun g hg' => ?_⟩ ((Below.refl lo w).grown hgr hlo (fun k hk => hown.fresh k hk)) hgr hat
    rcases hat with e | e
    · exact hown.fresh g (e ▸ hg')
    · rw [e] at hg'; cases hg'; exact hlo
end Go.Proofs.Ytkdbbdlkfpjdfaa

