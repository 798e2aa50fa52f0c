/- Words: the numbers in bytes, with their places, one by one.
   Conditions: those that each theorem names. -/
import Derived.Test.YtfmgkllnncibaaaG
import Derived.Test.YtfmgkllnncibaaaTwo
import Derived.Deep.QuietTactic
import Derived.BigQuiet
namespace Go.Proofs.Ytfmgkllnncibaaa
set_option linter.unusedVariables false
set_option linter.unusedSimpArgs false
open Go.RowKit Go.Shelf Go.Rg
attribute [local go_sem] Oper.semAt_some
/-! ### The plain list -/
def wrdsFrom : Nat → List UInt8 → Nat → List (Nat × UInt64)
  | 0, _, _ => []
  | f + 1, l, i => if (parse l).2.2 = 0 then (i, UInt64.ofNat (parse l).1) :: wrdsFrom f (l.drop (parse l).2.1) (i + (parse l).2.1) else []
def wrds (b : List UInt8) : List (Nat × UInt64) := wrdsFrom (b.length + 1) b 0
theorem parse_pos {l : List UInt8} (h : (parse l).2.2 = 0) : 1 ≤ (parse l).2.1 ∧ (parse l).2.1 ≤ l.length := by
  refine ⟨?_, (parse_lt l).2.1⟩
  cases l with
  | nil => simp [parse] at h
  | cons c t =>
    rw [parse_cons] at h ⊢
    split
    · exact Nat.le_refl _
    · rename_i h1
      rw [if_neg h1] at h
      split
      · rename_i h2
        rw [if_pos h2] at h; simp at h
      · rename_i h2
        rw [if_neg h2] at h
        split
        · rename_i h3
          rw [if_pos h3] at h; simp at h
        · show 1 ≤ c.toNat - 246
          omega
theorem wrdsFrom_len : ∀ (f : Nat) (l : List UInt8) (i : Nat), (wrdsFrom f l i).length ≤ l.length
  | 0, l, i => Nat.zero_le _
  | f + 1, l, i => by
    unfold wrdsFrom
    split
    · rename_i h
      have h1 := parse_pos h
      have h2 := wrdsFrom_len f (l.drop (parse l).2.1) (i + (parse l).2.1)
      rw [List.length_drop] at h2
      rw [List.length_cons]
      omega
    · exact Nat.zero_le _
theorem wrds_len (b : List UInt8) : (wrds b).length ≤ b.length := wrdsFrom_len _ _ _
/-- So far the words 'pre' were met, up to the place 'i'. -/
def Met (b : List UInt8) (pre : List (Nat × UInt64)) (i : Nat) : Prop := i ≤ b.length ∧ ∃ f, (b.drop i).length < f ∧ wrds b = pre ++ wrdsFrom f (b.drop i) i
theorem Met.start (b : List UInt8) : Met b [] 0 := ⟨Nat.zero_le _, b.length + 1, by simp, rfl⟩
theorem Met.stop {b : List UInt8} {pre : List (Nat × UInt64)} {i : Nat} (h : Met b pre i) (he : (parse (b.drop i)).2.2 ≠ 0) : pre = wrds b := by
  obtain ⟨_, f, hf, hw⟩ := h
  cases f with
  | zero => omega
  | succ f =>
    rw [hw]
    unfold wrdsFrom
    rw [if_neg he, List.append_nil]
theorem Met.more {b : List UInt8} {pre : List (Nat × UInt64)} {i : Nat} (h : Met b pre i) (he : (parse (b.drop i)).2.2 = 0) : Met b (pre ++ [(i, UInt64.ofNat (parse (b.drop i)).1)]) (i + (parse (b.drop i)).2.1) := by
  obtain ⟨hi, f, hf, hw⟩ := h
  have hp := parse_pos he
  cases f with
  | zero => omega
  | succ f =>
    have hl : (b.drop i).length = b.length - i := List.length_drop
    refine ⟨by omega, f, ?_, ?_⟩
    · rw [List.length_drop]; omega
    · rw [hw, List.append_assoc]
      conv => lhs; unfold wrdsFrom
      rw [if_pos he, List.drop_drop]
      rfl
theorem Met.pre {b : List UInt8} {pre : List (Nat × UInt64)} {i : Nat} (h : Met b pre i) : pre <+: wrds b := by
  obtain ⟨_, f, _, hw⟩ := h
  exact ⟨_, hw.symm⟩
theorem Met.lt {b : List UInt8} {pre : List (Nat × UInt64)} {i : Nat} (h : Met b pre i) (he : (parse (b.drop i)).2.2 = 0) : pre.length < (wrds b).length := by
  have h1 := (h.more he).pre.length_le
  simp at h1
  omega
abbrev encW : Nat × UInt64 → Array Value := fun x => #[.int .i64 (x.1 : Int), .int .u64 (U x.2)]
theorem BytesAt.kept2 {w w' : World} {v : Value} {l : List UInt8} (h : BytesAt w v l) (hB : ∀ k, v.ownBlock = some k → k < w.heap.size → w'.heap[k]? = w.heap[k]?) : BytesAt w' v l := by
  obtain ⟨p, cap, rfl, hf⟩ := h
  refine ⟨p, cap, rfl, fun i hi => ?_⟩
  obtain ⟨g, o, rfl, hg, hc⟩ := hf i hi
  have he := hB g rfl hg
  have hlt : g < w'.heap.size := by
    rw [Array.getElem?_eq_getElem hg] at he
    exact (Array.getElem?_eq_some_iff.1 he).1
  exact ⟨g, o, rfl, hlt, (World.cell?_of_block (w := w) (a := ⟨g, o + i, .none⟩) he).trans hc⟩
set_option maxRecDepth 100000 in
set_option maxHeartbeats 2000000 in
theorem words_in (m l Bn B0 : Nat) (p : Option Addr) (cap : Nat) (b : List UInt8) (J Jx : List (Nat × UInt64) → World → Prop) (hcap : b.length ≤ cap) (hn : b.length ≤ 2000)
    (hY : ∀ pre x W, J pre W → pre.length < (wrds b).length → YieldAt Fence.wide (m - 1) Try.prog l (encW x) W fun e W' =>
      (e = .returned (.bool true) ∧ J (pre ++ [x]) W' ∧ Keeps (fun k => k = Bn ∨ k < B0) W W') ∨ (e = .returned (.bool false) ∧ Jx (pre ++ [x]) W'))
    (W : World) (hc : W.cell? ⟨Bn, 0, none⟩ = some (.slice p b.length cap)) (hb : BytesAt W (.slice p b.length cap) b) (hlow : ∀ a, p = some a → 0 < b.length → a.block < B0) (h0 : J [] W) :
    CallsIn Fence.wide m Try.prog 42 #[.func (.yield l) #[] #[], .pointer (some ⟨Bn, 0, none⟩)] W fun e W' => (∃ v, e = .returned v) ∧
      ((∃ ys, ys = wrds b ∧ J ys W') ∨ (∃ pre, pre <+: wrds b ∧ Jx pre W')) := by
  refine callsIn_of_wp Try.func42 rfl trivial ?_ rfl
  simp only [Try.ntmps42, List.size_toArray, List.length_cons, List.length_nil, Nat.reduceAdd, Nat.reduceSub, Array.replicate_succ, Array.replicate_zero, List.push_toArray, List.append_toArray, List.nil_append, List.cons_append]
  have HB := Lib.hid hb
  clear hb
  gi_wp2_with fail
  gi_loopw [3, 4, 5, 6] (fun c _ _ _ wr => ∃ (i : Nat) (pre : List (Nat × UInt64)), c = .int .i64 i ∧ Hid (Met b pre i) ∧ J pre wr ∧ wr.cell? ⟨Bn, 0, none⟩ = some (.slice p b.length cap) ∧ Hid (BytesAt wr (.slice p b.length cap) b)) (fun c _ _ _ _ => b.length - (intOf c).toNat)
  case atStart => exact ⟨0, [], rfl, Lib.hid (Met.start b), h0, hc, HB⟩
  case round =>
    obtain ⟨i, pre, rfl, HM, hJ, hc, HB⟩ := hrel
    by_cases hil : i < b.length
    · have e1 : ((i : Int) < (b.length : Int)) := by omega
      have hdl : (b.drop i).length = b.length - i := List.length_drop
      have hs := HB.out.sub i (b.length - i) (cap - i) (by omega)
      rw [List.take_of_length_le (by omega)] at hs
      have hpa := parse_any _ (b.drop i) wr hs (by rintro p' n' c' e; cases e; omega) (by omega)
      have HQ : Hid (parse_pos (l := b.drop i) = parse_pos (l := b.drop i)) := Lib.hid rfl
      have hplt := (parse_lt (b.drop i)).1
      gi_wp2_with fail
      refine ⟨trivial, wide_d, ?_⟩
      refine (callsIn_wide.2 hpa).mono ?_
      rintro e w' ⟨rfl, rfl⟩
      clear hpa hs HQ
      by_cases he : (parse (b.drop i)).2.2 = 0
      · have hml := HM.out.lt he
        have hmm := Lib.hid (HM.out.more he)
        have hpp := parse_pos he
        obtain ⟨fn, tmps, assign, body, hy, hR⟩ := hY pre (i, UInt64.ofNat (parse (b.drop i)).1) wr hJ hml
        rw [he]
        generalize (parse (b.drop i)).1 = u at *
        generalize (parse (b.drop i)).2.1 = n at *
        obtain ⟨z, hz⟩ : ∃ z, UInt64.ofNat u = z := ⟨_, rfl⟩
        rw [hz] at hy hR hmm ⊢
        clear hz
        try dsimp only at hy
        gi_wp2_with fail
        refine ⟨wide_d, ?_⟩
        refine hR.mono ?_
        rintro e W3 (⟨rfl, hJ3, hk3⟩ | ⟨rfl, hJx3⟩)
        · have hc3 : W3.cell? ⟨Bn, 0, none⟩ = some (.slice p b.length cap) := (hk3.cell (.inl rfl) 0 none).trans hc
          have HB3 := Lib.hid (HB.out.kept2 (w' := W3) (fun k hk _ => by
            cases p with
            | none => cases hk
            | some a => cases hk; exact hk3 _ (.inr (hlow a rfl (by omega)))))
          gi_wp2_with fail
          go_roundw
          case rel => exact ⟨i + n, _, by go_num, hmm, hJ3, hc3, HB3⟩
          case measure => simp [intOf]; omega
        · gi_wp2_with fail
          refine bodyPost_ret (results_none rfl _ _ _) rfl ?_
          exact ⟨⟨_, rfl⟩, .inr ⟨_, hmm.out.pre, hJx3⟩⟩
      · have hee : (((parse (b.drop i)).2.2 : Int) == 0) = false := by simp; omega
        have hst := HM.out.stop he
        gi_wp2_with fail
        refine ⟨fun f h => (by cases h), ?_⟩
        gi_wp2_with fail
        refine bodyPost_ret (results_none rfl _ _ _) rfl ?_
        first | exact ⟨⟨_, rfl⟩, .inl (hst ▸ hJ)⟩ | exact ⟨⟨_, rfl⟩, .inl ⟨_, hst, hJ⟩⟩
    · have e1 : ¬ ((i : Int) < (b.length : Int)) := by omega
      have hst : pre = wrds b := HM.out.stop (by rw [List.drop_eq_nil_of_le (by omega)]; simp [parse])
      gi_wp2_with fail
      go_end0
      first | exact ⟨⟨_, rfl⟩, .inl (hst ▸ hJ)⟩ | exact ⟨⟨_, rfl⟩, .inl ⟨_, rfl, hst ▸ hJ⟩⟩
theorem words_stops (m Bn B0 : Nat) (p : Option Addr) (cap : Nat) (b : List UInt8) (w : World) (hb : Bn < w.heap.size) (hB0 : B0 ≤ w.heap.size) (hc : w.cell? ⟨Bn, 0, none⟩ = some (.slice p b.length cap)) (hB : BytesAt w (.slice p b.length cap) b) (hlow : ∀ a, p = some a → 0 < b.length → a.block < B0)
    (hcap : b.length ≤ cap) (hn : b.length ≤ 2000) :
    SeqStopsK Fence.wide m Try.prog 42 #[.pointer (some ⟨Bn, 0, none⟩)] encW (Keeps (fun k => k = Bn ∨ k < B0)) (fun ys => ys = wrds b) (fun pre => pre <+: wrds b) (wrds b).length w := by
  intro l J Jx W hW _ _ hY h0
  have hc' := (hW.cell (p := ⟨Bn, 0, none⟩) hb).trans hc
  exact words_in m l Bn B0 p cap b J Jx hcap hn hY W hc' (hB.below hW) hlow h0
theorem words_any (p : Option Addr) (n c : Nat) (w : World) : Calls Try.prog 41 #[.slice p n c] w fun e w' => e = .returned (.func (.func 42) #[] #[.pointer (some ⟨w.heap.size, 0, none⟩)]) ∧ w' = w.alloc (.cells #[.slice p n c] 29) := by
  go_enter Try.func41, Try.ntmps41
  go_wp2
  go_ret
  exact ⟨rfl, rfl⟩
theorem info23 : (Try.prog.info? 23).map (fun i => (i.zero, i.size, i.bytes)) = some (some (.int .u64 0), 1, 8) := by kernel_rfl
theorem info3 : (Try.prog.info? 3).map (fun i => (i.zero, i.size, i.bytes)) = some (some (.int .i64 0), 1, 8) := by kernel_rfl

set_option maxRecDepth 100000 in
set_option maxHeartbeats 1000000 in
theorem found_any (p : Option Addr) (cap : Nat) (b : List UInt8) (most : Int) (w : World) (hb : BytesAt w (.slice p b.length cap) b) (hcap : b.length ≤ cap) (hn : b.length ≤ 2000) :
    Calls Try.prog 36 #[.slice p b.length cap, .int .i64 most] w fun e w' => ∃ va vb, e = .returned (.tuple #[va, vb]) ∧
    w'.ownsRow w.heap.size 3 1 va ((wrds b).take most.toNat).length (((wrds b).take most.toNat).map fun x => .int .i64 (x.1 : Int)) ∧
    w'.ownsRow w.heap.size 23 1 vb ((wrds b).take most.toNat).length (((wrds b).take most.toNat).map fun x => .int .u64 (U x.2)) ∧ Below w.heap.size w w' := by
  have hlow : ∀ a, p = some a → 0 < b.length → a.block < w.heap.size := by
    intro a ha h0
    obtain ⟨p', c', e, hf⟩ := id hb
    cases e
    obtain ⟨g, o, e, hg, _⟩ := hf 0 h0
    rw [ha] at e
    cases e
    exact hg
  obtain ⟨i0', hi0', hz0', hz1', hz2'⟩ := info_parts info23
  obtain ⟨i0, hi0, hz0, hz1, hz2⟩ := info_parts info3
  refine (callsIn_wide (n := 5)).1 ?_
  refine callsIn_of_wp_marks Try.func36 rfl trivial ?_ rfl
  simp only [Try.ntmps36, List.size_toArray, List.length_cons, List.length_nil, Nat.reduceAdd, Nat.reduceSub, Array.replicate_succ, Array.replicate_zero, List.push_toArray, List.append_toArray, List.nil_append, List.cons_append]
  have heq : ∀ (b : Nat) (w : World), (binOp BinOp.eql 75 (.func (.func 42) #[] #[.pointer (some ⟨b, 0, none⟩)]) .nilFunc).run Try.prog w = .ok (.bool false) w := fun _ _ => by kernel_rfl
  gi_wp2_with (refine ⟨trivial, ?_⟩; gi_at_call 41; refine (callsIn_wide.2 (words_any _ _ _ _)).mono ?_; rintro e w' ⟨rfl, rfl⟩)
  clear heq
  have bM := Boxed.new w 3 (.int .i64 most)
  have bA := Boxed.new (w.alloc (.cells #[.int .i64 most] 3)) 61 (.slice none 0 0)
  have bB := Boxed.new ((w.alloc (.cells #[.int .i64 most] 3)).alloc (.cells #[.slice none 0 0] 61)) 62 (.slice none 0 0)
  have bN := Boxed.new (((w.alloc (.cells #[.int .i64 most] 3)).alloc (.cells #[.slice none 0 0] 61)).alloc (.cells #[.slice none 0 0] 62)) 29 (.slice p b.length cap)
  have hB0 : Below w.heap.size w ((((w.alloc (.cells #[.int .i64 most] 3)).alloc (.cells #[.slice none 0 0] 61)).alloc (.cells #[.slice none 0 0] 62)).alloc (.cells #[.slice p b.length cap] 29)) := ((((Below.refl _ w).alloc (Nat.le_refl _) _).alloc (by simp) _).alloc (by simp; omega) _).alloc (by simp; omega) _
  simp only [World.size_alloc] at bM bA bB bN
  replace bM := ((bM.alloc (.cells #[.slice none 0 0] 61)).alloc (.cells #[.slice none 0 0] 62)).alloc (.cells #[.slice p b.length cap] 29)
  replace bA := (bA.alloc (.cells #[.slice none 0 0] 62)).alloc (.cells #[.slice p b.length cap] 29)
  replace bB := bB.alloc (.cells #[.slice p b.length cap] 29)
  have hsz : ((((w.alloc (.cells #[.int .i64 most] 3)).alloc (.cells #[.slice none 0 0] 61)).alloc (.cells #[.slice none 0 0] 62)).alloc (.cells #[.slice p b.length cap] 29)).heap.size = w.heap.size + 4 := by simp
  generalize (((w.alloc (.cells #[.int .i64 most] 3)).alloc (.cells #[.slice none 0 0] 61)).alloc (.cells #[.slice none 0 0] 62)).alloc (.cells #[.slice p b.length cap] 29) = w1 at *
  have hplen : (wrds b).length ≤ 2000 := Nat.le_trans (wrds_len b) hn
  let St : List (Nat × UInt64) → World → Prop := fun pre W => (∃ va vb, Boxed W (w.heap.size + 1) 61 va ∧ Boxed W (w.heap.size + 1 + 1) 62 vb ∧ W.ownsRow (w.heap.size + 4) 3 1 va pre.length (pre.map fun x => .int .i64 (x.1 : Int)) ∧ W.ownsRow (w.heap.size + 4) 23 1 vb pre.length (pre.map fun x => .int .u64 (U x.2)) ∧ (va.ownBlock = none ∨ va.ownBlock ≠ vb.ownBlock)) ∧ Boxed W w.heap.size 3 (.int .i64 most) ∧ pre.length ≤ most.toNat ∧ w.heap.size + 4 ≤ W.heap.size ∧ Below w.heap.size w W
  have hSt : ∀ pre W W', Stays (w.heap.size + 4) W W' → St pre W → St pre W' := by
    rintro pre W W' h ⟨⟨va, vb, h1, h2, h3, h4, h5⟩, h6, h7, h9, h8⟩
    exact ⟨⟨va, vb, h.boxed h1, h.boxed h2, h.row h3, h.row h4, h5⟩, h.boxed h6, h7, Nat.le_trans h9 h.size, h.below h8 (by omega) (Nat.le_refl _)⟩
  refine wpIn_rangeFunc_ownG (n := 5) (w0 := w1) rfl (by omega) (gf := 42) (lb := #[.pointer (some ⟨w.heap.size + 1 + 1 + 1, 0, none⟩)]) rfl trivial (enters_of Try.func42 (by kernel_rfl) rfl)
    (words_stops 4 (w.heap.size + 1 + 1 + 1) w.heap.size p cap b w1 (by omega) (by omega) bN.cell (hb.below hB0) hlow hcap hn) keeps_t (keeps_b (by intro k hk; have hk' : k = w.heap.size + 1 + 1 + 1 ∨ k < w.heap.size := hk; omega)) (Below.refl _ _) (fun _ => rfl)
    St (fun c pre W => c = .exit 0 ∧ St pre.dropLast W ∧ most.toNat < pre.length)
    (hsz ▸ ownFrom_of_stays hSt) (fun c => hsz ▸ ownFrom_of_stays (fun s W W' h hs => ⟨hs.1, hSt _ _ _ h hs.2.1, hs.2.2⟩))
    ⟨⟨_, _, bA, bB, World.ownsRow_nil _ _ _ _, World.ownsRow_nil _ _ _ _, .inl rfl⟩, bM, Nat.zero_le _, Nat.le_of_eq hsz.symm, hB0⟩
    ?a1 ?assign ?body ?done ?stop
  case assign =>
    intro l x W K hK
    gi_wp2
    exact hK
  case body =>
    rintro l pre x W ⟨⟨va, vb, b1, b2, r1, r2, hap⟩, b3, hpl, hB4, hB⟩ hlt
    obtain ⟨pa, ca, rfl⟩ := row_shape r1
    obtain ⟨pb, cb, rfl⟩ := row_shape r2
    have c1 := b1.cell
    have c3 := b3.cell
    gi_wp2_with fail
    · have hmost : most ≤ (pre.length : Int) := by assumption
      exact ⟨KeepsFrom.refl _ _, rfl, by rw [List.dropLast_concat]; exact ⟨⟨_, _, b1, b2, r1, r2, hap⟩, b3, hpl, hB4, hB⟩, by simp; omega⟩
    · have hmost : (pre.length : Int) < most := by assumption
      have hWz : w.heap.size + 4 ≤ W.heap.size := hB4
      have hok : Two.Ok { lo := w.heap.size, n₀ := w.heap.size + 4, Ba := w.heap.size + 1, Bb := w.heap.size + 1 + 1, Ta := 61, Tb := 62, ea := 3, eb := 23, sa := 1, sb := 1, va := .slice pa pre.length ca, vb := .slice pb pre.length cb, ka := pre.length, kb := pre.length, xs := pre.map fun x => .int .i64 (x.1 : Int), ys := pre.map fun x => .int .u64 (U x.2), na := [.int .i64 (x.1 : Int)], nb := [.int .u64 (U x.2)], u1 := .int .i64 (x.1 : Int), u5 := .int .u64 (U x.2), W := W } :=
        ⟨hWz, by simp, by simp, by simp; omega, by simp, b1, b2, r1, r2, hap, show (61 : Nat) ≠ 3 by decide, show (61 : Nat) ≠ 23 by decide, show (62 : Nat) ≠ 3 by decide, show (62 : Nat) ≠ 23 by decide⟩
      refine two_appends hok rfl (by kernel_rfl) (fun _ => trivial) (by kernel_rfl) ?hop ?hend
      case hop =>
        intro i vs X o ho hb hA
        have hi : i < 10 := (Array.getElem?_eq_some_iff.1 ho).1
        have hsz' : W.heap.size ≤ X.heap.size := hb.1.size
        have hlX : w.heap.size + 4 ≤ X.heap.size := Nat.le_trans hB4 hsz'
        have bA' : i ≠ 9 → Boxed X (w.heap.size + 1) 61 (.slice pa pre.length ca) := hb.2.1
        have bB' : Boxed X (w.heap.size + 1 + 1) 62 (.slice pb pre.length cb) := hb.2.2.1
        obtain e | e | e | e | e | e | e | e | e | e : i = 0 ∨ i = 1 ∨ i = 2 ∨ i = 3 ∨ i = 4 ∨ i = 5 ∨ i = 6 ∨ i = 7 ∨ i = 8 ∨ i = 9 := by omega
        all_goals subst e
        all_goals
          simp only [List.getElem?_toArray, List.getElem?_cons_zero, List.getElem?_cons_succ, Option.some.injEq] at ho
          subst ho
          simp only [Two.pre, List.getD_cons_zero, List.getD_cons_succ, putL, dstOf, List.foldl_nil, List.foldl_cons, List.getElem?_toArray, List.getElem?_cons_zero, List.getElem?_cons_succ, Option.bind_some, Act.put, List.setIfInBounds_toArray, List.set_cons_zero, List.set_cons_succ]
        · have c := (bA' (by decide)).cell
          gi_wp2_with fail
          exact ⟨_, rfl, World.grownBy.refl _ _, upd_self _ _ _⟩
        · gi_wp2_with fail
          exact ⟨_, rfl, World.grownBy.refl _ _, upd_self _ _ _⟩
        · have h1 : vs 1 = .int .i64 (x.1 : Int) := hA 1 (by decide)
          rw [h1]
          gi_wp2_with fail
          exact ⟨_, rfl, World.grownBy_alloc _ _ _, ⟨X.heap.size, upd_self _ _ _, hsz', World.alloc_heap_new _ _⟩⟩
        · have h0 : vs 0 = .slice pa pre.length ca := hA 0 (by decide)
          obtain ⟨g, h2, hg, hgc⟩ := hA 2 (by decide)
          rw [h0, h2]
          have hr : X.ownsRow (w.heap.size + 4) 3 1 (.slice pa pre.length ca) pre.length (pre.map fun x => .int .i64 (x.1 : Int)) := hb.2.2.2.1 rfl
          refine wpListIn_append_own_at _ rfl _ _ 61 rfl (w.heap.size + 4) 3 i0 (.int .i64 0) 1 8 Try.underlying61 hi0 hz0 hz1 hz2 rfl (by decide) _ _ _ rfl hr ⟨g, 0, none⟩ 1 1 [.int .i64 (x.1 : Int)] rfl rfl (cell_of_lit hgc) (by simp [Value.oneCell']) (by unfold maxLen; omega) (by omega) (by omega) ?_
          intro v' w' ho' hg' _ hat
          refine ⟨v', rfl, hg', ?_⟩
          have e3 : upd vs 3 v' 3 = v' := upd_self _ _ _
          show _ ∧ _
          rw [e3]
          refine ⟨ho', ?_⟩
          show v'.ownBlock ≠ (Value.slice pb pre.length cb).ownBlock
          rcases hat with e | e
          · obtain ⟨ga, cap, rfl⟩ := ownsRow_succ ho'
            have e' : (Value.slice (some ⟨ga, 0, none⟩) (pre.length + 1) cap).ownBlock = (Value.slice pa pre.length ca).ownBlock := e
            rw [e']
            rcases hap with h0 | h0
            · rw [h0] at e'; cases e'
            · exact h0
          · rw [e]
            intro h0
            have := (r2.lt _ h0.symm).2
            omega
        · have c := bB'.cell
          gi_wp2_with fail
          exact ⟨_, rfl, World.grownBy.refl _ _, upd_self _ _ _⟩
        · gi_wp2_with fail
          exact ⟨_, rfl, World.grownBy.refl _ _, upd_self _ _ _⟩
        · have h1 : vs 5 = .int .u64 (U x.2) := hA 5 (by decide)
          rw [h1]
          gi_wp2_with fail
          exact ⟨_, rfl, World.grownBy_alloc _ _ _, ⟨X.heap.size, upd_self _ _ _, hsz', World.alloc_heap_new _ _⟩⟩
        · have h0 : vs 4 = .slice pb pre.length cb := hA 4 (by decide)
          obtain ⟨g, h2, hg, hgc⟩ := hA 6 (by decide)
          obtain ⟨h3, h3'⟩ := hA 3 (by decide)
          rw [h0, h2]
          have hr : X.ownsRow (w.heap.size + 4) 23 1 (.slice pb pre.length cb) pre.length (pre.map fun x => .int .u64 (U x.2)) := hb.2.2.2.2 rfl
          refine wpListIn_append_own_at _ rfl _ _ 62 rfl (w.heap.size + 4) 23 i0' (.int .u64 0) 1 8 Try.underlying62 hi0' hz0' hz1' hz2' rfl (by decide) _ _ _ rfl hr ⟨g, 0, none⟩ 1 1 [.int .u64 (U x.2)] rfl rfl (cell_of_lit hgc) (by simp [Value.oneCell']) (by unfold maxLen; omega) (by omega) (by omega) ?_
          intro v' w' ho' hg' _ hat
          refine ⟨v', rfl, hg', ?_⟩
          have e3 : upd vs 7 v' 7 = v' := upd_self _ _ _
          have e4 : upd vs 7 v' 3 = vs 3 := upd_ne _ _ _ (by decide)
          show _ ∧ _
          rw [e3, e4]
          refine ⟨ho', ?_⟩
          rcases hat with e | e
          · rw [e]; exact fun h => h3' h.symm
          · rw [e]
            intro h0
            have := (h3.lt _ h0.symm).2
            omega
        · have h3 := (hA 3 (by decide)).1
          obtain ⟨g3, cap3, e3⟩ := ownsRow_succ h3
          have b := bA' (by decide)
          have c := b.cell
          have f := b.frozen
          rw [e3]
          gi_wp2_with fail
          refine ⟨undef, rfl, grownBy_setCell' X (w.heap.size + 1) (.slice (some ⟨g3, 0, none⟩) (pre.length + 1) cap3), ?_⟩
          have e8 : upd vs 8 undef 3 = vs 3 := upd_ne _ _ _ (by decide)
          show Boxed (X.setCell ⟨w.heap.size + 1, 0, none⟩ (.slice (some ⟨g3, 0, none⟩) (pre.length + 1) cap3)) (w.heap.size + 1) 61 (upd vs 8 undef 3)
          rw [e8, e3]
          exact b.set _
        · have h3 := hA 3 (by decide)
          have h7 := hA 7 (by decide)
          have h8 : Boxed X (w.heap.size + 1) 61 (vs 3) := hA 8 (by decide)
          obtain ⟨g7, cap7, e7⟩ := ownsRow_succ h7.1
          have c := bB'.cell
          have f := bB'.frozen
          rw [e7]
          gi_wp2_with fail
          refine ⟨undef, rfl, grownBy_setCell' X (w.heap.size + 1 + 1) (.slice (some ⟨g7, 0, none⟩) (pre.length + 1) cap7), ?_⟩
          show Two.Fin _ _ _
          unfold Two.Fin
          rw [upd_ne _ _ _ (show 3 ≠ 9 by decide), upd_ne _ _ _ (show 7 ≠ 9 by decide)]
          have hs := grownBy_setCell' X (w.heap.size + 1 + 1) (.slice (some ⟨g7, 0, none⟩) (pre.length + 1) cap7)
          refine ⟨Two.base_step (k := 9) hb.1 hs, h8.other (by omega) _, ?_, h3.1.kept hs (some_ne (box_ne bB' (show (62 : Nat) ≠ 3 by decide) h3.1)), h7.1.kept hs (some_ne (box_ne bB' (show (62 : Nat) ≠ 23 by decide) h7.1)), fun e => h7.2 e.symm⟩
          rw [e7]
          exact bB'.set _
      case hend =>
        intro vs X hX
        obtain ⟨fb, f4, f5, f6, f7, f8⟩ := hX
        have f1 : W.heap.size ≤ X.heap.size := fb.size
        have f2 : Below w.heap.size W X := fb.below hok
        have f3 : KeepsOthers W X := fb.others hok
        have keep : ∀ k, k < w.heap.size + 4 → k ≠ w.heap.size + 1 → k ≠ w.heap.size + 1 + 1 → X.heap[k]? = W.heap[k]? := fun k h1 h2 h3 =>
          fb.block k (show k < W.heap.size by omega) (Two.row_ne h2 h3 (fun e => by have := (r1.lt k e.symm).1; omega) (fun e => by have := (r2.lt k e.symm).1; omega))
        gi_wp2_with fail
        have kM : Boxed X w.heap.size 3 (.int .i64 most) := (keep w.heap.size (by omega) (by omega) (by omega)).trans b3
        refine ⟨f3.from _, fun k hk => (have hk' : k = w.heap.size + 1 + 1 + 1 ∨ k < w.heap.size := hk; keep k (by omega) (by omega) (by omega)), ⟨⟨_, _, f4, f5, ?_, ?_, .inr f8⟩, kM, by simp; omega, by omega, hB.trans f2⟩⟩
        · simpa using f6
        · simpa using f7
  case done =>
    intro D ys W hD hys hI hK
    subst hys
    obtain ⟨⟨va, vb, b1, b2, r1, r2, hap⟩, b3, hpl, hB4, hB⟩ := hI
    have c1 := b1.cell
    have c2 := b2.cell
    gi_wp2_with fail
    refine wpIn_wide.2 ?_
    go_quiet (fail)
    gi_wp2_with fail
    refine ⟨by simp, .inl ⟨_, _, rfl, run_takeDeferred hK, ?_⟩⟩
    have hst : Stays (w.heap.size + 4) W ((W.drewN nq).putObj D (.deferred none)) := (Stays.drewN _ W nq).trans (Stays.putObj _ hK rfl (by omega))
    rw [List.take_of_length_le hpl]
    exact ⟨_, results_tmp2 rfl _ _ _, va, vb, rfl, row_base (hst.row r1) (by omega), row_base (hst.row r2) (by omega), hst.below hB (by omega) (Nat.le_refl _)⟩
  case stop =>
    rintro D c pre W hD hp ⟨rfl, hI, hlt⟩ hK
    obtain ⟨⟨va, vb, b1, b2, r1, r2, hap⟩, b3, hpl, hB4, hB⟩ := hI
    have c1 := b1.cell
    have c2 := b2.cell
    gi_wp2_with fail
    refine wpIn_wide.2 ?_
    go_quiet (fail)
    gi_wp2_with fail
    refine ⟨by simp, .inl ⟨_, _, rfl, run_takeDeferred hK, ?_⟩⟩
    have hst : Stays (w.heap.size + 4) W ((W.drewN nq).putObj D (.deferred none)) := (Stays.drewN _ W nq).trans (Stays.putObj _ hK rfl (by omega))
    have e : (wrds b).take most.toNat = pre.dropLast := by
      have hl : pre.dropLast.length = most.toNat := by simp at hpl ⊢; omega
      rw [← hl]
      exact (List.prefix_iff_eq_take.1 ((List.dropLast_prefix pre).trans hp)).symm
    rw [e]
    exact ⟨_, results_tmp2 rfl _ _ _, va, vb, rfl, row_base (hst.row r1) (by omega), row_base (hst.row r2) (by omega), hst.below hB (by omega) (Nat.le_refl _)⟩
end Go.Proofs.Ytfmgkllnncibaaa
