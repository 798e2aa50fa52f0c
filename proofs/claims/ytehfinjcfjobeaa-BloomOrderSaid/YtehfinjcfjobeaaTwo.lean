/- Two slices appended to in one statement, in a round of a range over a function: 'a, b = append(a, x), append(b, y)', whatever the order.
   Conditions: a and b are variables of their own, their rows apart. -/
import Derived.Test.YtehfinjcfjobeaaRg
import Derived.RangeFuncBox
import Derived.RangeFuncWrites
import Derived.Maps.AppendAt
import Derived.OwnWalk
namespace Go.Rg
set_option maxRecDepth 100000
set_option linter.unusedVariables false
set_option linter.unusedSimpArgs false
open Go Go.RowKit

/-- The built-in append in a fence, with the place of what comes back. -/
theorem wpListIn_append_own_at {F : Fence} {n : Nat} {P : Program} (w : World) {ops : Array Oper} {rest : List Oper} {o : Oper} {a : Act} {Q : Exit → Act → World → Prop}
    (hg : o.guard = none) (s x : Operand) (t : TypeId) (hop : o.op = Op.call { callee := Callee.builtin Builtin.append, args := #[s, x], argTypes := #[t, t] })
    (base : Nat) (e : TypeId) (i : TypeInfo) (z : Value) (size bytes : Nat) (h1 : P.underlying t = some (.slice e)) (h2 : P.info? e = some i) (h3 : i.zero = some z) (h4 : i.size = size) (h5 : i.bytes = bytes) (h6 : z.cells.size = size) (h7 : 0 < size)
    (v : Value) (k : Nat) (xs : List Value) (hs : a.eval s = v) (hown : w.ownsRow base e size v k xs) (ad : Addr) (m c : Nat) (news : List Value) (hx : a.eval x = .slice (some ad) m c) (hn : news.length = m * size)
    (hc : ∀ j u, news[j]? = some u → w.cell? (ad.add j) = some u) (h1c : ∀ u ∈ news, u.oneCell' = true) (b1 : k + m ≤ maxLen) (b2 : (k + m) * bytes ≤ 140737488355328) (b3 : base ≤ w.heap.size)
    (hK : ∀ v' w', w'.ownsRow base e size v' (k + m) (xs ++ news) → w.grownBy w' v.ownBlock → (v' = .slice none 0 0 ↔ v = .slice none 0 0 ∧ m = 0) → (v'.ownBlock = v.ownBlock ∨ v'.ownBlock = some w.heap.size) → wpListIn F n P ops Q rest (a.put o.dst v') w') :
    wpListIn F n P ops Q (o :: rest) a w := by
  refine wpListIn_plain hg fun K hK' => ?_
  obtain ⟨v', w', hrun, r1, r2, r3, r4⟩ := run_append_own_at (P := P) w base t o.type e i z size bytes h1 h2 h3 h4 h5 h6 h7 v k xs hown ad m c news hn hc h1c b1 b2 b3
  unfold Oper.wpIn
  refine ⟨?_, ?_⟩
  · simp [Oper.about, hop, resolve, Target.leads, Sem.run_pure]
  · rw [Oper.semAt_plain F _ _ (by rw [hop]; intro c hc'; cases hc')]
    simp [execOp, hop, resolve, invoke, builtin, hs, hx, hrun, Result.andThen]
    exact hK' _ _ (hK v' w' r1 r2 r3 r4)

/-- What stands when such a round begins. -/
structure Two where
  lo : Nat
  n₀ : Nat
  Ba : Nat
  Bb : Nat
  Ta : TypeId
  Tb : TypeId
  ea : TypeId
  eb : TypeId
  sa : Nat
  sb : Nat
  va : Value
  vb : Value
  ka : Nat
  kb : Nat
  xs : List Value
  ys : List Value
  na : List Value
  nb : List Value
  u1 : Value
  u5 : Value
  W : World

/-- The slice of one element that append is handed. -/
def Lit1 (B e : Nat) (news : List Value) (v : Value) (X : World) : Prop := ∃ g, v = .slice (some ⟨g, 0, none⟩) 1 1 ∧ B ≤ g ∧ X.heap[g]? = some (.cells news.toArray e (0, 0))

def Two.row (t : Two) : Nat → Option Nat
  | 3 => t.va.ownBlock
  | 7 => t.vb.ownBlock
  | 8 => some t.Ba
  | 9 => some t.Bb
  | _ => none
def Two.R (t : Two) (k : Nat) (X Y : World) : Prop := X.grownBy Y (t.row k)
/-- What is none of the two variables, and none of their rows, is as it was. -/
structure Two.Base (t : Two) (X : World) : Prop where
  size : t.W.heap.size ≤ X.heap.size
  os : X.os = t.W.os
  tape : X.tape = t.W.tape
  output : X.output = t.W.output
  block : ∀ k : Nat, k < t.W.heap.size → (∀ j, t.row j ≠ some k) → X.heap[k]? = t.W.heap[k]?
def Two.B (t : Two) (i : Nat) (X : World) : Prop :=
  t.Base X ∧ (i ≠ 9 → Boxed X t.Ba t.Ta t.va) ∧ Boxed X t.Bb t.Tb t.vb ∧ (i = 3 → X.ownsRow t.n₀ t.ea t.sa t.va t.ka t.xs) ∧ (i = 7 → X.ownsRow t.n₀ t.eb t.sb t.vb t.kb t.ys)
def Two.Fin (t : Two) (vs : Nat → Value) (X : World) : Prop :=
  t.Base X ∧ Boxed X t.Ba t.Ta (vs 3) ∧ Boxed X t.Bb t.Tb (vs 7) ∧ X.ownsRow t.n₀ t.ea t.sa (vs 3) (t.ka + 1) (t.xs ++ t.na) ∧ X.ownsRow t.n₀ t.eb t.sb (vs 7) (t.kb + 1) (t.ys ++ t.nb) ∧ (vs 3).ownBlock ≠ (vs 7).ownBlock
def Two.A (t : Two) (i : Nat) (vs : Nat → Value) (X : World) : Prop :=
  match i with
  | 0 => vs 0 = t.va
  | 1 => vs 1 = t.u1
  | 2 => Lit1 t.W.heap.size t.ea t.na (vs 2) X
  | 3 => X.ownsRow t.n₀ t.ea t.sa (vs 3) (t.ka + 1) (t.xs ++ t.na) ∧ (vs 3).ownBlock ≠ t.vb.ownBlock
  | 4 => vs 4 = t.vb
  | 5 => vs 5 = t.u5
  | 6 => Lit1 t.W.heap.size t.eb t.nb (vs 6) X
  | 7 => X.ownsRow t.n₀ t.eb t.sb (vs 7) (t.kb + 1) (t.ys ++ t.nb) ∧ (vs 7).ownBlock ≠ (vs 3).ownBlock
  | 8 => Boxed X t.Ba t.Ta (vs 3)
  | _ => t.Fin vs X

def Two.pre : List (List Nat) := [[], [], [1], [0, 1, 2], [], [], [5], [0, 1, 2, 3, 4, 5, 6], [0, 1, 2, 3, 4, 5, 6, 7], [0, 1, 2, 3, 4, 5, 6, 7, 8]]

structure Two.Ok (t : Two) : Prop where
  size : t.n₀ ≤ t.W.heap.size
  low : t.lo ≤ t.n₀
  ba : t.lo ≤ t.Ba
  bb : t.lo ≤ t.Bb
  apart : t.Ba ≠ t.Bb
  boxA : Boxed t.W t.Ba t.Ta t.va
  boxB : Boxed t.W t.Bb t.Tb t.vb
  rowA : t.W.ownsRow t.n₀ t.ea t.sa t.va t.ka t.xs
  rowB : t.W.ownsRow t.n₀ t.eb t.sb t.vb t.kb t.ys
  rows : t.va.ownBlock = none ∨ t.va.ownBlock ≠ t.vb.ownBlock
  tA : t.Ta ≠ t.ea
  tB : t.Ta ≠ t.eb
  tC : t.Tb ≠ t.ea
  tD : t.Tb ≠ t.eb

section
variable {t : Two} (h : t.Ok)

theorem some_ne {v : Value} {b : Nat} (h : some b ≠ v.ownBlock) : v.ownBlock = none ∨ v.ownBlock ≠ some b := .inr (fun e => h e.symm)

theorem Lit1.kept {B e : Nat} {news : List Value} {v : Value} {X Y : World} (hl : Lit1 B e news v X) {row : Option Nat} (hg : X.grownBy Y row) (hr : ∀ k, row = some k → k < B) : Lit1 B e news v Y := by
  obtain ⟨g, rfl, hB, hc⟩ := hl
  exact ⟨g, rfl, hB, (hg.block g (Array.getElem?_eq_some_iff.1 hc).1 (fun e' => by have := hr g e'.symm; omega)).trans hc⟩

include h in
theorem Two.row_lt (k b : Nat) (hk : t.row k = some b) : b < t.W.heap.size ∧ t.lo ≤ b := by
  unfold Two.row at hk
  split at hk
  · exact ⟨(h.rowA.lt b hk).2, Nat.le_trans h.low (h.rowA.lt b hk).1⟩
  · exact ⟨(h.rowB.lt b hk).2, Nat.le_trans h.low (h.rowB.lt b hk).1⟩
  · cases hk; exact ⟨h.boxA.lt, h.ba⟩
  · cases hk; exact ⟨h.boxB.lt, h.bb⟩
  · cases hk

theorem row_cells {w : World} {base : Nat} {e : TypeId} {size : Nat} {v : Value} {k : Nat} {xs : List Value} (hr : w.ownsRow base e size v k xs) {b : Nat} (hb : v.ownBlock = some b) : ∃ c f, w.heap[b]? = some (.cells c e f) := by
  rcases hr.2 with ⟨rfl, _⟩ | ⟨g, cap, cur, rfl, _, hg, _⟩
  · cases hb
  · cases hb; exact ⟨_, _, hg⟩

include h in
theorem Two.row_cells (k b : Nat) (hk : t.row k = some b) : ∃ c e f, t.W.heap[b]? = some (.cells c e f) := by
  unfold Two.row at hk
  split at hk
  · obtain ⟨c, f, hc⟩ := Rg.row_cells h.rowA hk; exact ⟨c, _, f, hc⟩
  · obtain ⟨c, f, hc⟩ := Rg.row_cells h.rowB hk; exact ⟨c, _, f, hc⟩
  · cases hk; exact ⟨_, _, _, h.boxA⟩
  · cases hk; exact ⟨_, _, _, h.boxB⟩
  · cases hk

theorem Two.base_step {k : Nat} {X Y : World} (hb : t.Base X) (hr : t.R k X Y) : t.Base Y :=
  ⟨Nat.le_trans hb.size hr.size, hr.os.trans hb.os, hr.tape.trans hb.tape, hr.output.trans hb.output,
    fun b h1 h2 => (hr.block b (Nat.lt_of_lt_of_le h1 hb.size) (fun e => h2 k e.symm)).trans (hb.block b h1 h2)⟩

include h in
theorem Two.Base.below {X : World} (hb : t.Base X) : Below t.lo t.W X :=
  ⟨hb.os, hb.tape, hb.output, hb.size, fun k hk => hb.block k (Nat.lt_of_lt_of_le hk (Nat.le_trans h.low h.size)) (fun j e => by have := (t.row_lt h j k e).2; omega)⟩
include h in
theorem Two.Base.others {X : World} (hb : t.Base X) : KeepsOthers t.W X :=
  ⟨hb.size, fun k o ho hn => (hb.block k (Array.getElem?_eq_some_iff.1 ho).1 (fun j e => by
    obtain ⟨c, e', f, hc⟩ := t.row_cells h j k e
    rw [ho] at hc; cases hc; cases hn)).trans ho⟩
theorem Two.Base.keeps {X : World} (hb : t.Base X) {M : Nat → Prop} (hM : ∀ k, M k → k < t.W.heap.size ∧ ∀ j, t.row j ≠ some k) : ∀ k, M k → X.heap[k]? = t.W.heap[k]? :=
  fun k hk => hb.block k (hM k hk).1 (hM k hk).2
/-- None of the four. -/
theorem Two.row_ne {k : Nat} (h1 : k ≠ t.Ba) (h2 : k ≠ t.Bb) (h3 : some k ≠ t.va.ownBlock) (h4 : some k ≠ t.vb.ownBlock) (j : Nat) : t.row j ≠ some k := by
  unfold Two.row
  split
  · exact fun e => h3 e.symm
  · exact fun e => h4 e.symm
  · exact fun e => h1 (Option.some.inj e).symm
  · exact fun e => h2 (Option.some.inj e).symm
  · simp

include h in
theorem Two.lit_step {k e : Nat} {news : List Value} {v : Value} {X Y : World} (hl : Lit1 t.W.heap.size e news v X) (hr : t.R k X Y) : Lit1 t.W.heap.size e news v Y :=
  hl.kept hr (fun b hb => (t.row_lt h k b hb).1)

/-- The variables are no row. -/
theorem box_ne {w : World} {b : Nat} {T e : TypeId} {u v : Value} {base size k : Nat} {xs : List Value} (hb : Boxed w b T u) (hT : T ≠ e) (hr : w.ownsRow base e size v k xs) : some b ≠ v.ownBlock := hb.not_row hT hr

include h in
theorem Two.boxA_step {k : Nat} {X Y : World} {u : Value} (hb : Boxed X t.Ba t.Ta u) (hr : t.R k X Y) (hk : k ≠ 8) : Boxed Y t.Ba t.Ta u := by
  refine hb.kept hr (fun e => ?_)
  unfold Two.row at e
  split at e
  · exact box_ne h.boxA h.tA h.rowA e
  · exact box_ne h.boxA h.tB h.rowB e
  · exact hk rfl
  · exact h.apart (Option.some.inj e)
  · cases e

include h in
theorem Two.boxB_step {k : Nat} {X Y : World} {u : Value} (hb : Boxed X t.Bb t.Tb u) (hr : t.R k X Y) (hk : k ≠ 9) : Boxed Y t.Bb t.Tb u := by
  refine hb.kept hr (fun e => ?_)
  unfold Two.row at e
  split at e
  · exact box_ne h.boxB h.tC h.rowA e
  · exact box_ne h.boxB h.tD h.rowB e
  · exact h.apart (Option.some.inj e).symm
  · exact hk rfl
  · cases e

include h in
theorem Two.stB (i k : Nat) (X Y : World) (hi : i < 10) (hk : k < 10) (hki : k ≠ i) (hn : i ∉ Two.pre.getD k []) (_ : t.B k X) (hr : t.R k X Y) (hb : t.B i X) : t.B i Y := by
  obtain ⟨b1, b2, b3, b4, b5⟩ := hb
  refine ⟨t.base_step b1 hr, fun hi9 => t.boxA_step h (b2 hi9) hr (fun e => ?_), t.boxB_step h b3 hr (fun e => ?_), fun e => (b4 e).kept hr ?_, fun e => (b5 e).kept hr ?_⟩
  · subst e
    have : i ∈ Two.pre.getD 8 [] := by
      obtain h | h | h | h | h | h | h | h : i = 0 ∨ i = 1 ∨ i = 2 ∨ i = 3 ∨ i = 4 ∨ i = 5 ∨ i = 6 ∨ i = 7 := by omega
      all_goals (subst h; decide)
    exact hn this
  · subst e
    have : i ∈ Two.pre.getD 9 [] := by
      obtain h | h | h | h | h | h | h | h | h : i = 0 ∨ i = 1 ∨ i = 2 ∨ i = 3 ∨ i = 4 ∨ i = 5 ∨ i = 6 ∨ i = 7 ∨ i = 8 := by omega
      all_goals (subst h; decide)
    exact hn this
  · subst e
    -- k is none of 3, 7, 8, 9
    have hk' : t.row k = none := by
      obtain h | h | h | h | h | h | h | h | h | h : k = 0 ∨ k = 1 ∨ k = 2 ∨ k = 3 ∨ k = 4 ∨ k = 5 ∨ k = 6 ∨ k = 7 ∨ k = 8 ∨ k = 9 := by omega
      all_goals (subst h; first | rfl | exact absurd rfl hki | exact absurd (by decide) hn)
    rw [hk']
    cases t.va.ownBlock <;> simp
  · subst e
    by_cases h3 : k = 3
    · subst h3
      rcases h.rows with h0 | h0
      · show t.vb.ownBlock = none ∨ t.vb.ownBlock ≠ t.va.ownBlock
        rw [h0]
        cases t.vb.ownBlock <;> simp
      · right; exact fun e' => h0 e'.symm
    · have hk' : t.row k = none := by
        obtain h | h | h | h | h | h | h | h | h | h : k = 0 ∨ k = 1 ∨ k = 2 ∨ k = 3 ∨ k = 4 ∨ k = 5 ∨ k = 6 ∨ k = 7 ∨ k = 8 ∨ k = 9 := by omega
        all_goals (subst h; first | rfl | exact absurd rfl hki | exact absurd rfl h3 | exact absurd (by decide) hn)
      rw [hk']
      cases t.vb.ownBlock <;> simp

include h in
theorem Two.stA (i k : Nat) (vs : Nat → Value) (X Y : World) (hi : i < 10) (hk : k < 10) (hki : k ≠ i) (hn : k ∉ Two.pre.getD i []) (hbk : t.B k X) (hr : t.R k X Y) (ha : t.A i vs X) : t.A i vs Y := by
  have hk10 : k = 0 ∨ k = 1 ∨ k = 2 ∨ k = 3 ∨ k = 4 ∨ k = 5 ∨ k = 6 ∨ k = 7 ∨ k = 8 ∨ k = 9 := by omega
  obtain e | e | e | e | e | e | e | e | e | e : i = 0 ∨ i = 1 ∨ i = 2 ∨ i = 3 ∨ i = 4 ∨ i = 5 ∨ i = 6 ∨ i = 7 ∨ i = 8 ∨ i = 9 := by omega
  all_goals subst e
  · exact ha
  · exact ha
  · exact t.lit_step h ha hr
  · refine ⟨ha.1.kept hr ?_, ha.2⟩
    obtain e | e | e | e | e | e | e | e | e | e := hk10 <;> subst e
    · exact absurd (by decide) hn
    · exact absurd (by decide) hn
    · exact absurd (by decide) hn
    · exact absurd rfl hki
    · cases hv : (vs 3).ownBlock <;> simp [Two.row]
    · cases hv : (vs 3).ownBlock <;> simp [Two.row]
    · cases hv : (vs 3).ownBlock <;> simp [Two.row]
    · exact .inr ha.2
    · exact some_ne (box_ne (hbk.2.1 (by decide)) h.tA ha.1)
    · exact some_ne (box_ne hbk.2.2.1 h.tC ha.1)
  · exact ha
  · exact ha
  · exact t.lit_step h ha hr
  · refine ⟨ha.1.kept hr ?_, ha.2⟩
    obtain e | e | e | e | e | e | e | e | e | e := hk10 <;> subst e <;> first | exact absurd rfl hki | exact absurd (by decide) hn | skip
    · exact some_ne (box_ne (hbk.2.1 (by decide)) h.tB ha.1)
    · exact some_ne (box_ne hbk.2.2.1 h.tD ha.1)
  · exact t.boxA_step h ha hr (fun e => hki e)
  · exfalso
    obtain e | e | e | e | e | e | e | e | e | e := hk10 <;> subst e <;> first | exact hki rfl | exact hn (by decide)

include h in
theorem Two.b0 (i : Nat) : t.B i t.W.drew :=
  ⟨⟨Nat.le_refl _, rfl, rfl, rfl, fun _ _ _ => rfl⟩, fun _ => h.boxA, h.boxB, fun _ => h.rowA, fun _ => h.rowB⟩

theorem Two.dep (i : Nat) (vs us : Nat → Value) (X : World) (hd : ∀ j, j = i ∨ j ∈ Two.pre.getD i [] → vs j = us j) (ha : t.A i vs X) (hi : i < 10) : t.A i us X := by
  obtain e | e | e | e | e | e | e | e | e | e : i = 0 ∨ i = 1 ∨ i = 2 ∨ i = 3 ∨ i = 4 ∨ i = 5 ∨ i = 6 ∨ i = 7 ∨ i = 8 ∨ i = 9 := by omega
  all_goals subst e
  · have := hd 0 (.inl rfl); simp only [Two.A] at ha ⊢; rw [← this]; exact ha
  · have := hd 1 (.inl rfl); simp only [Two.A] at ha ⊢; rw [← this]; exact ha
  · have := hd 2 (.inl rfl); simp only [Two.A] at ha ⊢; rw [← this]; exact ha
  · have := hd 3 (.inl rfl); simp only [Two.A] at ha ⊢; rw [← this]; exact ha
  · have := hd 4 (.inl rfl); simp only [Two.A] at ha ⊢; rw [← this]; exact ha
  · have := hd 5 (.inl rfl); simp only [Two.A] at ha ⊢; rw [← this]; exact ha
  · have := hd 6 (.inl rfl); simp only [Two.A] at ha ⊢; rw [← this]; exact ha
  · have h7 := hd 7 (.inl rfl); have h3 := hd 3 (.inr (by decide)); simp only [Two.A] at ha ⊢; rw [← h7, ← h3]; exact ha
  · have h3 := hd 3 (.inr (by decide)); simp only [Two.A] at ha ⊢; rw [← h3]; exact ha
  · have h7 := hd 7 (.inr (by decide)); have h3 := hd 3 (.inr (by decide)); simp only [Two.A, Two.Fin] at ha ⊢; rw [← h7, ← h3]; exact ha

/-- **TWO APPENDS IN A ROUND.** -/
theorem two_appends {F : Fence} {n : Nat} {P : Program} {id : Nat} {ops : Array Oper} {a : Act} {Q : Exit → Act → World → Prop} (h : t.Ok) (hsz : ops.size = 10)
    (hm : P.follows .mixedOrders = true) (hF : ∀ f, F.fn f) (hc : okPre ops Two.pre = true)
    (hop : ∀ (i : Nat) (vs : Nat → Value) (X : World) (o : Oper), ops[i]? = some o → t.B i X → (∀ j ∈ Two.pre.getD i [], t.A j vs X) →
      wpListIn F n P ops (Post (putL ops vs (Two.pre.getD i []) a) o.dst (fun v Y => t.R i X Y ∧ t.A i (upd vs i v) Y)) [o] (putL ops vs (Two.pre.getD i []) a) X)
    (hend : ∀ (vs : Nat → Value) (X : World), t.Fin vs X → Q .normal (putL ops vs (List.range 10) a) X) :
    (Code.region id ops true).wpIn F n P Q a t.W := by
  refine region_rg Two.pre t.A t.B t.R hm hF hc (fun i vs us X hi hd ha => t.dep i vs us X hd ha (hsz ▸ hi)) (fun i _ => t.b0 h i)
    (fun i k vs X Y hi hk => t.stA h i k vs X Y (hsz ▸ hi) (hsz ▸ hk)) (fun i k X Y hi hk => t.stB h i k X Y (hsz ▸ hi) (hsz ▸ hk)) hop (fun vs X hA => ?_)
  rw [hsz]
  exact hend vs X (hA 9 (by rw [hsz]; decide))

end
end Go.Rg
