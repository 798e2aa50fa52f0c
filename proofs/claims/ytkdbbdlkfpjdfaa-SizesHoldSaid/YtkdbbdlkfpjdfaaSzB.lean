/- The iterator sizes.Rounds, and the law's own loop over it.
   Conditions: none. -/
import Derived.Test.YtkdbbdlkfpjdfaaSzA
import Derived.Test.YtkdbbdlkfpjdfaaBs
import Derived.Deep.QuietTactic
import Derived.BigQuiet
namespace Go.Proofs.Ytkdbbdlkfpjdfaa
set_option maxRecDepth 100000
set_option linter.unusedVariables false
set_option linter.unusedSimpArgs false
open Go.RowKit Go.Shelf Go.Rg
attribute [local go_sem] Oper.semAt_some

/-- The size of round i. -/
def sizeAt (g : Int) : Nat → Int
  | 0 => cellsV g
  | i + 1 => nextV (sizeAt g i)
def rup (g : Int) (m : Nat) : List (Int × Int) := (List.range m).map fun (i : Nat) => ((i : Int), sizeAt g i)
theorem rup_succ (g : Int) (m : Nat) : rup g (m + 1) = rup g m ++ [((m : Int), sizeAt g m)] := by simp [rup, List.range_succ]
theorem rup_len (g : Int) (m : Nat) : (rup g m).length = m := by simp [rup]
theorem rup_pre {g : Int} {m k : Nat} (h : m ≤ k) : rup g m <+: rup g k := by
  unfold rup
  obtain ⟨d, rfl⟩ := Nat.exists_eq_add_of_le h
  rw [List.range_add, List.map_append]
  exact List.prefix_append _ _
def rnds (g : Int) : List (Int × Int) := rup g 4
theorem rnds_len (g : Int) : (rnds g).length ≤ 56 := by unfold rnds; rw [rup_len]; omega
abbrev encP : Int × Int → Array Value := fun x => #[.int .i64 x.1, .int .i64 x.2]

set_option maxRecDepth 100000 in
set_option maxHeartbeats 1000000 in
theorem round1_in (m : Nat) (l Bn : Nat) (g : Int) (J Jx : List (Int × Int) → World → Prop)
    (hY : ∀ pre x W, J pre W → pre.length < 4 → YieldAt Fence.wide (m - 1) Try.prog l (encP x) W fun e W' =>
      (e = .returned (.bool true) ∧ J (pre ++ [x]) W' ∧ Keeps (· = Bn) W W') ∨ (e = .returned (.bool false) ∧ Jx (pre ++ [x]) W'))
    (W : World) (hn : W.cell? ⟨Bn, 0, none⟩ = some (.int .i64 g)) (h0 : J [] W) :
    CallsIn Fence.wide m Try.prog 101 #[.func (.yield l) #[] #[], .pointer (some ⟨Bn, 0, none⟩)] W fun e W' => (∃ v, e = .returned v) ∧
      ((∃ ys, ys = rnds g ∧ J ys W') ∨ (∃ pre, pre <+: rnds g ∧ Jx pre W')) := by
  refine callsIn_of_wp Try.func101 rfl trivial ?_ rfl
  simp only [Try.ntmps101, List.size_toArray, List.length_cons, List.length_nil, Nat.reduceAdd, Nat.reduceSub, Array.replicate_succ, Array.replicate_zero, List.push_toArray, List.append_toArray, List.nil_append, List.cons_append]
  refine wpIn_scope_wide ?_
  gi_wp2_with (refine ⟨trivial, wide_d, ?_⟩; gi_at_call 87; refine (callsIn_wide.2 (szcells_any _ _)).mono ?_; rintro e w' ⟨rfl, rfl⟩)
  refine wpIn_label ?_
  gi_wp2_with fail
  gi_loopw [3, 4, 7] (fun s _ c wr => ∃ i : Nat, i ≤ 4 ∧ c = .int .i64 i ∧ s = .int .i64 (sizeAt g i) ∧ J (rup g i) wr) (fun _ _ c _ => 4 - (intOf c).toNat)
  case atStart => exact ⟨0, by omega, rfl, rfl, by simpa [rup] using h0⟩
  case round =>
    obtain ⟨i, hi, rfl, rfl, hJ⟩ := hrel
    by_cases hil : i < 4
    · have e1 : (i : Int) < 4 := by omega
      obtain ⟨fn, tmps, assign, body, hy, hR⟩ := hY _ ((i : Int), sizeAt g i) wr hJ (by rw [rup_len]; exact hil)
      rw [← rup_succ] at hR
      gi_wp2_with fail
      refine ⟨wide_d, ?_⟩
      refine hR.mono ?_
      rintro e W3 (⟨rfl, hJ3, hk3⟩ | ⟨rfl, hJx3⟩)
      · gi_wp2_with (refine ⟨trivial, wide_d, ?_⟩; gi_at_call 88; refine (callsIn_wide.2 (sznext_any _ _)).mono ?_; rintro e w' ⟨rfl, rfl⟩)
        go_roundw
        case rel => exact ⟨i + 1, by omega, by go_num, rfl, hJ3⟩
        case measure => simp [intOf]; omega
      · gi_wp2_with fail
        simp only [Exit.noGoto_normal]
        gi_wp2_with fail
        go_end0
        exact ⟨⟨_, rfl⟩, .inr ⟨_, rup_pre (by omega), hJx3⟩⟩
    · have e1 : ¬ (i : Int) < 4 := by omega
      obtain rfl : i = 4 := by omega
      gi_wp2_with fail
      try (simp only [Exit.noGoto_normal]; gi_wp2_with fail)
      go_end0
      first | exact ⟨⟨_, rfl⟩, .inl hJ⟩ | exact ⟨⟨_, rfl⟩, .inl ⟨_, rfl, hJ⟩⟩

theorem rnds_stops (m : Nat) (Bn : Nat) (n : Int) (w : World) (hb : Bn < w.heap.size) (hc : w.cell? ⟨Bn, 0, none⟩ = some (.int .i64 n)) :
    SeqStopsK Fence.wide m Try.prog 101 #[.pointer (some ⟨Bn, 0, none⟩)] encP (Keeps (· = Bn)) (fun ys => ys = rnds n) (fun pre => pre <+: rnds n) (rnds n).length w := by
  intro l J Jx W hW _ _ hY h0
  have hc' := (hW.cell (p := ⟨Bn, 0, none⟩) hb).trans hc
  rw [show (rnds n).length = 4 from rup_len n 4] at hY
  exact round1_in m l Bn n J Jx hY W hc' h0

theorem Round_any (n : Int) (w : World) : Calls Try.prog 89 #[.int .i64 n] w fun e w' => e = .returned (.func (.func 101) #[] #[.pointer (some ⟨w.heap.size, 0, none⟩)]) ∧ w' = w.alloc (.cells #[.int .i64 n] 3) := by
  go_enter Try.func89, Try.ntmps89
  go_wp2
  go_ret
  exact ⟨rfl, rfl⟩

theorem szinfo3 : (Try.prog.info? 3).map (fun i => (i.zero, i.size, i.bytes)) = some (some (.int .i64 0), 1, 8) := by kernel_rfl

set_option maxRecDepth 100000 in
set_option maxHeartbeats 1000000 in
theorem lawround_any (n most : Int) (w : World) : Calls Try.prog 55 #[.int .i64 n, .int .i64 most] w fun e w' => ∃ va vb, e = .returned (.tuple #[va, vb]) ∧
    w'.ownsRow w.heap.size 3 1 va ((rnds n).take most.toNat).length (((rnds n).take most.toNat).map fun x => .int .i64 x.1) ∧
    w'.ownsRow w.heap.size 3 1 vb ((rnds n).take most.toNat).length (((rnds n).take most.toNat).map fun x => .int .i64 x.2) ∧ Below w.heap.size w w' := by
  obtain ⟨i0, hi0, hz0, hz1, hz2⟩ := info_parts szinfo3
  refine (callsIn_wide (n := 5)).1 ?_
  refine callsIn_of_wp_marks Try.func55 rfl trivial ?_ rfl
  simp only [Try.ntmps55, List.size_toArray, List.length_cons, List.length_nil, Nat.reduceAdd, Nat.reduceSub, Array.replicate_succ, Array.replicate_zero, List.push_toArray, List.append_toArray, List.nil_append, List.cons_append]
  have heq : ∀ (b : Nat) (w : World), (binOp BinOp.eql 128 (.func (.func 101) #[] #[.pointer (some ⟨b, 0, none⟩)]) .nilFunc).run Try.prog w = .ok (.bool false) w := fun _ _ => by kernel_rfl
  gi_wp2_with (refine ⟨trivial, ?_⟩; gi_at_call 89; refine (callsIn_wide.2 (Round_any _ _)).mono ?_; rintro e w' ⟨rfl, rfl⟩)
  clear heq
  have bM := Boxed.new w 3 (.int .i64 most)
  have bA := Boxed.new (w.alloc (.cells #[.int .i64 most] 3)) 88 (.slice none 0 0)
  have bB := Boxed.new ((w.alloc (.cells #[.int .i64 most] 3)).alloc (.cells #[.slice none 0 0] 88)) 88 (.slice none 0 0)
  have bN := Boxed.new (((w.alloc (.cells #[.int .i64 most] 3)).alloc (.cells #[.slice none 0 0] 88)).alloc (.cells #[.slice none 0 0] 88)) 3 (.int .i64 n)
  have hB0 : Below w.heap.size w ((((w.alloc (.cells #[.int .i64 most] 3)).alloc (.cells #[.slice none 0 0] 88)).alloc (.cells #[.slice none 0 0] 88)).alloc (.cells #[.int .i64 n] 3)) := ((((Below.refl _ w).alloc (Nat.le_refl _) _).alloc (by simp) _).alloc (by simp; omega) _).alloc (by simp; omega) _
  simp only [World.size_alloc] at bM bA bB bN
  replace bM := ((bM.alloc (.cells #[.slice none 0 0] 88)).alloc (.cells #[.slice none 0 0] 88)).alloc (.cells #[.int .i64 n] 3)
  replace bA := (bA.alloc (.cells #[.slice none 0 0] 88)).alloc (.cells #[.int .i64 n] 3)
  replace bB := bB.alloc (.cells #[.int .i64 n] 3)
  have hsz : ((((w.alloc (.cells #[.int .i64 most] 3)).alloc (.cells #[.slice none 0 0] 88)).alloc (.cells #[.slice none 0 0] 88)).alloc (.cells #[.int .i64 n] 3)).heap.size = w.heap.size + 4 := by simp
  generalize (((w.alloc (.cells #[.int .i64 most] 3)).alloc (.cells #[.slice none 0 0] 88)).alloc (.cells #[.slice none 0 0] 88)).alloc (.cells #[.int .i64 n] 3) = w1 at *
  have hplen : (rnds n).length ≤ 56 := rnds_len n
  let St : List (Int × Int) → World → Prop := fun pre W => (∃ va vb, Boxed W (w.heap.size + 1) 88 va ∧ Boxed W (w.heap.size + 1 + 1) 88 vb ∧ W.ownsRow (w.heap.size + 4) 3 1 va pre.length (pre.map fun x => .int .i64 x.1) ∧ W.ownsRow (w.heap.size + 4) 3 1 vb pre.length (pre.map fun x => .int .i64 x.2) ∧ (va.ownBlock = none ∨ va.ownBlock ≠ vb.ownBlock)) ∧ Boxed W w.heap.size 3 (.int .i64 most) ∧ pre.length ≤ most.toNat ∧ w.heap.size + 4 ≤ W.heap.size ∧ Below w.heap.size w W
  have hSt : ∀ pre W W', Stays (w.heap.size + 4) W W' → St pre W → St pre W' := by
    rintro pre W W' h ⟨⟨va, vb, h1, h2, h3, h4, h5⟩, h6, h7, h9, h8⟩
    exact ⟨⟨va, vb, h.boxed h1, h.boxed h2, h.row h3, h.row h4, h5⟩, h.boxed h6, h7, Nat.le_trans h9 h.size, h.below h8 (by omega) (Nat.le_refl _)⟩
  refine wpIn_rangeFunc_ownG (n := 5) (w0 := w1) rfl (by omega) (gf := 101) (lb := #[.pointer (some ⟨w.heap.size + 1 + 1 + 1, 0, none⟩)]) rfl trivial (enters_of Try.func101 (by kernel_rfl) rfl)
    (rnds_stops 4 (w.heap.size + 1 + 1 + 1) n w1 (by omega) bN.cell) keeps_t (keeps_b (by intro k hk; omega)) (Below.refl _ _) (fun _ => rfl)
    St (fun c pre W => c = .exit 0 ∧ St pre.dropLast W ∧ most.toNat < pre.length)
    (hsz ▸ ownFrom_of_stays hSt) (fun c => hsz ▸ ownFrom_of_stays (fun s W W' h hs => ⟨hs.1, hSt _ _ _ h hs.2.1, hs.2.2⟩))
    ⟨⟨_, _, bA, bB, World.ownsRow_nil _ _ _ _, World.ownsRow_nil _ _ _ _, .inl rfl⟩, bM, Nat.zero_le _, Nat.le_of_eq hsz.symm, hB0⟩
    ?a1 ?assign ?body ?done ?stop
  case assign =>
    intro l x W K hK
    gi_wp2
    exact hK
  case body =>
    rintro l pre x W ⟨⟨va, vb, b1, b2, r1, r2, hap⟩, b3, hpl, hB4, hB⟩ hlt
    obtain ⟨pa, ca, rfl⟩ := row_shape r1
    obtain ⟨pb, cb, rfl⟩ := row_shape r2
    have c1 := b1.cell
    have c3 := b3.cell
    gi_wp2_with fail
    · have hmost : most ≤ (pre.length : Int) := by assumption
      exact ⟨KeepsFrom.refl _ _, rfl, by rw [List.dropLast_concat]; exact ⟨⟨_, _, b1, b2, r1, r2, hap⟩, b3, hpl, hB4, hB⟩, by simp; omega⟩
    · have hmost : (pre.length : Int) < most := by assumption
      have hWz : w.heap.size + 4 ≤ W.heap.size := hB4
      have hok : Two.Ok { lo := w.heap.size, n₀ := w.heap.size + 4, Ba := w.heap.size + 1, Bb := w.heap.size + 1 + 1, Ta := 88, Tb := 88, ea := 3, eb := 3, sa := 1, sb := 1, va := .slice pa pre.length ca, vb := .slice pb pre.length cb, ka := pre.length, kb := pre.length, xs := pre.map fun x => .int .i64 x.1, ys := pre.map fun x => .int .i64 x.2, na := [.int .i64 x.1], nb := [.int .i64 x.2], u1 := .int .i64 x.1, u5 := .int .i64 x.2, W := W } :=
        ⟨hWz, by simp, by simp, by simp; omega, by simp, b1, b2, r1, r2, hap, show (88 : Nat) ≠ 3 by decide, show (88 : Nat) ≠ 3 by decide, show (88 : Nat) ≠ 3 by decide, show (88 : Nat) ≠ 3 by decide⟩
      refine two_appends hok rfl (by kernel_rfl) (fun _ => trivial) (by kernel_rfl) ?hop ?hend
      case hop =>
        intro i vs X o ho hb hA
        have hi : i < 10 := (Array.getElem?_eq_some_iff.1 ho).1
        have hsz' : W.heap.size ≤ X.heap.size := hb.1.size
        have hlX : w.heap.size + 4 ≤ X.heap.size := Nat.le_trans hB4 hsz'
        have bA' : i ≠ 9 → Boxed X (w.heap.size + 1) 88 (.slice pa pre.length ca) := hb.2.1
        have bB' : Boxed X (w.heap.size + 1 + 1) 88 (.slice pb pre.length cb) := hb.2.2.1
        obtain e | e | e | e | e | e | e | e | e | e : i = 0 ∨ i = 1 ∨ i = 2 ∨ i = 3 ∨ i = 4 ∨ i = 5 ∨ i = 6 ∨ i = 7 ∨ i = 8 ∨ i = 9 := by omega
        all_goals subst e
        all_goals
          simp only [List.getElem?_toArray, List.getElem?_cons_zero, List.getElem?_cons_succ, Option.some.injEq] at ho
          subst ho
          simp only [Two.pre, List.getD_cons_zero, List.getD_cons_succ, putL, dstOf, List.foldl_nil, List.foldl_cons, List.getElem?_toArray, List.getElem?_cons_zero, List.getElem?_cons_succ, Option.bind_some, Act.put, List.setIfInBounds_toArray, List.set_cons_zero, List.set_cons_succ]
        · have c := (bA' (by decide)).cell
          gi_wp2_with fail
          exact ⟨_, rfl, World.grownBy.refl _ _, upd_self _ _ _⟩
        · gi_wp2_with fail
          exact ⟨_, rfl, World.grownBy.refl _ _, upd_self _ _ _⟩
        · have h1 : vs 1 = .int .i64 x.1 := hA 1 (by decide)
          rw [h1]
          gi_wp2_with fail
          exact ⟨_, rfl, World.grownBy_alloc _ _ _, ⟨X.heap.size, upd_self _ _ _, hsz', World.alloc_heap_new _ _⟩⟩
        · have h0 : vs 0 = .slice pa pre.length ca := hA 0 (by decide)
          obtain ⟨g, h2, hg, hgc⟩ := hA 2 (by decide)
          rw [h0, h2]
          have hr : X.ownsRow (w.heap.size + 4) 3 1 (.slice pa pre.length ca) pre.length (pre.map fun x => .int .i64 x.1) := hb.2.2.2.1 rfl
          refine wpListIn_append_own_at _ rfl _ _ 88 rfl (w.heap.size + 4) 3 i0 (.int .i64 0) 1 8 Try.underlying88 hi0 hz0 hz1 hz2 rfl (by decide) _ _ _ rfl hr ⟨g, 0, none⟩ 1 1 [.int .i64 x.1] rfl rfl (cell_of_lit hgc) (by simp [Value.oneCell']) (by unfold maxLen; omega) (by omega) (by omega) ?_
          intro v' w' ho' hg' _ hat
          refine ⟨v', rfl, hg', ?_⟩
          have e3 : upd vs 3 v' 3 = v' := upd_self _ _ _
          show _ ∧ _
          rw [e3]
          refine ⟨ho', ?_⟩
          show v'.ownBlock ≠ (Value.slice pb pre.length cb).ownBlock
          rcases hat with e | e
          · obtain ⟨ga, cap, rfl⟩ := ownsRow_succ ho'
            have e' : (Value.slice (some ⟨ga, 0, none⟩) (pre.length + 1) cap).ownBlock = (Value.slice pa pre.length ca).ownBlock := e
            rw [e']
            rcases hap with h0 | h0
            · rw [h0] at e'; cases e'
            · exact h0
          · rw [e]
            intro h0
            have := (r2.lt _ h0.symm).2
            omega
        · have c := bB'.cell
          gi_wp2_with fail
          exact ⟨_, rfl, World.grownBy.refl _ _, upd_self _ _ _⟩
        · gi_wp2_with fail
          exact ⟨_, rfl, World.grownBy.refl _ _, upd_self _ _ _⟩
        · have h1 : vs 5 = .int .i64 x.2 := hA 5 (by decide)
          rw [h1]
          gi_wp2_with fail
          exact ⟨_, rfl, World.grownBy_alloc _ _ _, ⟨X.heap.size, upd_self _ _ _, hsz', World.alloc_heap_new _ _⟩⟩
        · have h0 : vs 4 = .slice pb pre.length cb := hA 4 (by decide)
          obtain ⟨g, h2, hg, hgc⟩ := hA 6 (by decide)
          obtain ⟨h3, h3'⟩ := hA 3 (by decide)
          rw [h0, h2]
          have hr : X.ownsRow (w.heap.size + 4) 3 1 (.slice pb pre.length cb) pre.length (pre.map fun x => .int .i64 x.2) := hb.2.2.2.2 rfl
          refine wpListIn_append_own_at _ rfl _ _ 88 rfl (w.heap.size + 4) 3 i0 (.int .i64 0) 1 8 Try.underlying88 hi0 hz0 hz1 hz2 rfl (by decide) _ _ _ rfl hr ⟨g, 0, none⟩ 1 1 [.int .i64 x.2] rfl rfl (cell_of_lit hgc) (by simp [Value.oneCell']) (by unfold maxLen; omega) (by omega) (by omega) ?_
          intro v' w' ho' hg' _ hat
          refine ⟨v', rfl, hg', ?_⟩
          have e3 : upd vs 7 v' 7 = v' := upd_self _ _ _
          have e4 : upd vs 7 v' 3 = vs 3 := upd_ne _ _ _ (by decide)
          show _ ∧ _
          rw [e3, e4]
          refine ⟨ho', ?_⟩
          rcases hat with e | e
          · rw [e]; exact fun h => h3' h.symm
          · rw [e]
            intro h0
            have := (h3.lt _ h0.symm).2
            omega
        · have h3 := (hA 3 (by decide)).1
          obtain ⟨g3, cap3, e3⟩ := ownsRow_succ h3
          have b := bA' (by decide)
          have c := b.cell
          have f := b.frozen
          rw [e3]
          gi_wp2_with fail
          refine ⟨undef, rfl, grownBy_setCell' X (w.heap.size + 1) (.slice (some ⟨g3, 0, none⟩) (pre.length + 1) cap3), ?_⟩
          have e8 : upd vs 8 undef 3 = vs 3 := upd_ne _ _ _ (by decide)
          show Boxed (X.setCell ⟨w.heap.size + 1, 0, none⟩ (.slice (some ⟨g3, 0, none⟩) (pre.length + 1) cap3)) (w.heap.size + 1) 88 (upd vs 8 undef 3)
          rw [e8, e3]
          exact b.set _
        · have h3 := hA 3 (by decide)
          have h7 := hA 7 (by decide)
          have h8 : Boxed X (w.heap.size + 1) 88 (vs 3) := hA 8 (by decide)
          obtain ⟨g7, cap7, e7⟩ := ownsRow_succ h7.1
          have c := bB'.cell
          have f := bB'.frozen
          rw [e7]
          gi_wp2_with fail
          refine ⟨undef, rfl, grownBy_setCell' X (w.heap.size + 1 + 1) (.slice (some ⟨g7, 0, none⟩) (pre.length + 1) cap7), ?_⟩
          show Two.Fin _ _ _
          unfold Two.Fin
          rw [upd_ne _ _ _ (show 3 ≠ 9 by decide), upd_ne _ _ _ (show 7 ≠ 9 by decide)]
          have hs := grownBy_setCell' X (w.heap.size + 1 + 1) (.slice (some ⟨g7, 0, none⟩) (pre.length + 1) cap7)
          refine ⟨Two.base_step (k := 9) hb.1 hs, h8.other (by omega) _, ?_, h3.1.kept hs (some_ne (box_ne bB' (show (88 : Nat) ≠ 3 by decide) h3.1)), h7.1.kept hs (some_ne (box_ne bB' (show (88 : Nat) ≠ 3 by decide) h7.1)), fun e => h7.2 e.symm⟩
          rw [e7]
          exact bB'.set _
      case hend =>
        intro vs X hX
        obtain ⟨fb, f4, f5, f6, f7, f8⟩ := hX
        have f1 : W.heap.size ≤ X.heap.size := fb.size
        have f2 : Below w.heap.size W X := fb.below hok
        have f3 : KeepsOthers W X := fb.others hok
        have keep : ∀ k, k < w.heap.size + 4 → k ≠ w.heap.size + 1 → k ≠ w.heap.size + 1 + 1 → X.heap[k]? = W.heap[k]? := fun k h1 h2 h3 =>
          fb.block k (show k < W.heap.size by omega) (Two.row_ne h2 h3 (fun e => by have := (r1.lt k e.symm).1; omega) (fun e => by have := (r2.lt k e.symm).1; omega))
        gi_wp2_with fail
        have kM : Boxed X w.heap.size 3 (.int .i64 most) := (keep w.heap.size (by omega) (by omega) (by omega)).trans b3
        refine ⟨f3.from _, fun k hk => keep k (by omega) (by omega) (by omega), ⟨⟨_, _, f4, f5, ?_, ?_, .inr f8⟩, kM, by simp; omega, by omega, hB.trans f2⟩⟩
        · simpa using f6
        · simpa using f7
  case done =>
    intro D ys W hD hys hI hK
    subst hys
    obtain ⟨⟨va, vb, b1, b2, r1, r2, hap⟩, b3, hpl, hB4, hB⟩ := hI
    have c1 := b1.cell
    have c2 := b2.cell
    gi_wp2_with fail
    refine wpIn_wide.2 ?_
    go_quiet (fail)
    gi_wp2_with fail
    refine ⟨by simp, .inl ⟨_, _, rfl, run_takeDeferred hK, ?_⟩⟩
    have hst : Stays (w.heap.size + 4) W ((W.drewN nq).putObj D (.deferred none)) := (Stays.drewN _ W nq).trans (Stays.putObj _ hK rfl (by omega))
    rw [List.take_of_length_le hpl]
    exact ⟨_, results_tmp2 rfl _ _ _, va, vb, rfl, row_base (hst.row r1) (by omega), row_base (hst.row r2) (by omega), hst.below hB (by omega) (Nat.le_refl _)⟩
  case stop =>
    rintro D c pre W hD hp ⟨rfl, hI, hlt⟩ hK
    obtain ⟨⟨va, vb, b1, b2, r1, r2, hap⟩, b3, hpl, hB4, hB⟩ := hI
    have c1 := b1.cell
    have c2 := b2.cell
    gi_wp2_with fail
    refine wpIn_wide.2 ?_
    go_quiet (fail)
    gi_wp2_with fail
    refine ⟨by simp, .inl ⟨_, _, rfl, run_takeDeferred hK, ?_⟩⟩
    have hst : Stays (w.heap.size + 4) W ((W.drewN nq).putObj D (.deferred none)) := (Stays.drewN _ W nq).trans (Stays.putObj _ hK rfl (by omega))
    have e : (rnds n).take most.toNat = pre.dropLast := by
      have hl : pre.dropLast.length = most.toNat := by simp at hpl ⊢; omega
      rw [← hl]
      exact (List.prefix_iff_eq_take.1 ((List.dropLast_prefix pre).trans hp)).symm
    rw [e]
    exact ⟨_, results_tmp2 rfl _ _ _, va, vb, rfl, row_base (hst.row r1) (by omega), row_base (hst.row r2) (by omega), hst.below hB (by omega) (Nat.le_refl _)⟩


end Go.Proofs.Ytkdbbdlkfpjdfaa
