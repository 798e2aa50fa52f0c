/- Sketches: the law's list of their cells.
   Conditions: those that each theorem names. -/
import Derived.Test.YtkdbbdlkfpjdfaaIbE
namespace Go.Proofs.Ytkdbbdlkfpjdfaa
set_option maxRecDepth 100000
set_option linter.unusedVariables false
set_option linter.unusedSimpArgs false
open Go.RowKit Go.Shelf Go.Rg
attribute [local go_sem] Oper.semAt_some cellV
theorem mk_cells1 (a : Ce) (ha : a.m.length = 16) (w : World) : (Instr.buildSlice 27 1 #[(0, cellV a)]).run Try.prog w = .ok (.slice (some ⟨w.heap.size, 0, none⟩) 1 1) (w.alloc (.cells a.vals.toArray 26)) := by
  obtain ⟨n, m, h⟩ := a
  obtain ⟨a0, a1, a2, a3, a4, a5, a6, a7, a8, a9, b0, b1, b2, b3, b4, b5, rfl⟩ := list16 ha
  kernel_rfl
theorem rawC_snoc (l : List Ce) (c : Ce) : (rawC (l ++ [c])).flatten = (rawC l).flatten ++ c.vals := by simp [rawC]
theorem Stays.of_below (B : Nat) {W W' : World} (h : Below W.heap.size W W') : Stays B W W' :=
  ⟨h.os, h.tape, h.output, h.size, fun k c e f hk => (h.block k (blk_lt hk)).trans hk, fun k _ hk => h.block k hk⟩
theorem KeepsOthers.of_below {W W' : World} (h : Below W.heap.size W W') : KeepsOthers W W' := ⟨h.size, fun k o ho _ => (h.block k (blk_lt ho)).trans ho⟩
def CelStop (most : Int) (pre : List (Nat × Ck)) : Prop := most.toNat < pre.length ∨ ∃ x, pre[pre.length - 1]? = some x ∧ x.1 ≠ pre.length - 1
/-- The law's list: what was collected so far. -/
structure CelSt (w : World) (N4 : Nat) (most : Int) (pre : List (Nat × Ck)) (vb : Value) (W : World) : Prop where
  b : Boxed W (w.heap.size + 1) 27 vb
  rb : W.ownsRow N4 26 18 vb pre.length (rawC (pre.map fun x => x.2.1)).flatten
  m : Boxed W w.heap.size 3 (.int .i64 most)
  le : pre.length ≤ most.toNat
  sz : N4 ≤ W.heap.size
  low : Below w.heap.size w W
theorem CelSt.stays {w : World} {N4 : Nat} {most : Int} {pre : List (Nat × Ck)} {vb : Value} {W W' : World} (hN : w.heap.size ≤ N4) (hs : Stays N4 W W') (h : CelSt w N4 most pre vb W) : CelSt w N4 most pre vb W' :=
  ⟨hs.boxed h.b, hs.row h.rb, hs.boxed h.m, h.le, Nat.le_trans h.sz hs.size, hs.below h.low hN (Nat.le_refl _)⟩
set_option maxRecDepth 100000 in
set_option maxHeartbeats 4000000 in
theorem lawcells_gen (pv : Value) (cs : List Ck) (most : Int) (w : World) (hn : cs.length ≤ 1000000)
    (hcall : ∀ W, Below w.heap.size w W → Calls Try.prog 83 #[pv] W fun e w' => ∃ bl vm, e = .returned (.func (.func 100) #[] #[ptr bl]) ∧ SeqAt W.heap.size cs bl vm w' ∧ Below W.heap.size W w') :
    Calls Try.prog 44 #[pv, .int .i64 most] w fun e w' => ∃ vb, e = .returned vb ∧
    w'.ownsRow w.heap.size 26 18 vb ((seqC cs).take most.toNat).length (rawC (((seqC cs).take most.toNat).map fun x => x.2.1)).flatten ∧ Below w.heap.size w w' := by
  obtain ⟨i0', hi0', hz0', hz1', hz2'⟩ := info_parts infoCe
  refine (callsIn_wide (n := 5)).1 ?_
  refine callsIn_of_wp_marks Try.func44 rfl trivial ?_ rfl
  simp only [Try.ntmps44, List.size_toArray, List.length_cons, List.length_nil, Nat.reduceAdd, Nat.reduceSub, Array.replicate_succ, Array.replicate_zero, List.push_toArray, List.append_toArray, List.nil_append, List.cons_append]
  gi_wp2_with fail
  obtain ⟨w3, hw3⟩ : ∃ w3, w3 = (w.alloc (.cells #[.int .i64 most] 3)).alloc (.cells #[.slice none 0 0] 27) := ⟨_, rfl⟩
  rw [← hw3]
  have bM : Boxed w3 w.heap.size 3 (.int .i64 most) := by rw [hw3]; exact (Boxed.new _ _ _).alloc _
  have bB : Boxed w3 (w.heap.size + 1) 27 (.slice none 0 0) := by
    rw [hw3]
    have := Boxed.new (w.alloc (.cells #[.int .i64 most] 3)) 27 (.slice none 0 0)
    rw [World.size_alloc] at this
    exact this
  have hB3 : Below w.heap.size w w3 := by rw [hw3]; exact ((Below.refl _ _).alloc (Nat.le_refl _) _).alloc (by simp) _
  have hz3 : w3.heap.size = w.heap.size + 2 := by rw [hw3]; simp
  refine ⟨trivial, ?_⟩
  refine (callsIn_wide.2 (hcall w3 hB3)).mono ?_
  rintro e w4 ⟨bl, vm, rfl, L, hB4⟩
  have hz4 := hB4.size
  have cM := (hB4.block _ bM.lt).trans bM
  have cB := (hB4.block _ bB.lt).trans bB
  have hBw := hB3.trans (hB4.mono hB3.size)
  have st0 : CelSt w w4.heap.size most [] (.slice none 0 0) w4 := ⟨cB, World.ownsRow_nil _ _ _ _, cM, Nat.zero_le _, Nat.le_refl _, hBw⟩
  have ST0 := Lib.hid st0
  have HL := Lib.hid L
  have hN : w.heap.size + 2 ≤ w4.heap.size := by omega
  have HZ3 := Lib.hid hz3
  clear cM cB hBw st0 L hB3 hB4 bM bB hw3 hz3 hz4 hcall
  gi_wp2_with fail
  have hM0 : ∀ k, (k < w.heap.size ∨ (w3.heap.size ≤ k ∧ k < w4.heap.size)) → k < w4.heap.size := fun k hk => by omega
  refine wpIn_rangeFunc_ownH (n := 5) (w0 := w4) rfl (by omega) (gf := 100) (lb := #[ptr bl]) rfl trivial (enters_of Try.func100 (by kernel_rfl) rfl)
    (cells_stops 4 w.heap.size w3.heap.size cs bl vm w4 HL.out hn) keeps_t (keeps_b hM0) (Below.refl _ _) (fun _ => rfl)
    (fun pre W => ∃ vb, CelSt w w4.heap.size most pre vb W)
    (fun c pre W => c = .exit 0 ∧ (∃ vb, CelSt w w4.heap.size most pre.dropLast vb W) ∧ CelStop most pre)
    (ownFrom_of_stays (fun s W W' h => by rintro ⟨vb, hs⟩; exact ⟨vb, hs.stays (by omega) h⟩))
    (fun c => ownFrom_of_stays (fun s W W' h => by rintro ⟨h1, ⟨vb, hs⟩, h2⟩; exact ⟨h1, ⟨vb, hs.stays (by omega) h⟩, h2⟩))
    ⟨_, ST0.out⟩
    (fun x a' W => ∃ b vb, a' = { tmps := #[pv, .int .i64 most, undef, .pointer (some ⟨w.heap.size, 0, none⟩), .slice none 0 0, .pointer (some ⟨w.heap.size + 1, 0, none⟩), .int .i64 (x.1 : Int), ptr b, pv, .func (.func 100) #[] #[ptr bl], .int .i64 (x.1 : Int), cellV x.2.1, undef, undef, undef, undef, undef, undef, undef, undef, undef, undef, undef, undef, undef, undef, undef], defers := [] } ∧
      CellAt b 26 x.2.1 W ∧ Boxed W (w.heap.size + 1) 27 vb ∧ vb.ownBlock ≠ some b ∧ w4.heap.size ≤ b)
    (fun x a' => ownFrom_of_stays (fun _ W W' h => by rintro ⟨b, vb, h1, h2, h4, h6, h7⟩; exact ⟨b, vb, h1, h.cells _ _ _ _ h2, h.boxed h4, h6, h7⟩))
    ?assign ?body ?done ?stop
  case assign =>
    rintro l pre x W K ⟨vb, hs⟩ hK
    have bc := boxedC W x.2.1 x.2.2.m
    have a1 := bc.a1
    have hst := Stays.of_below w4.heap.size bc.B
    have hs5 := hs.stays (by omega) hst
    have hsz := hs.sz
    have hkey := hK _ _ ((KeepsOthers.of_below bc.B).from _) (Keeps.of_below (M := fun k => k < w.heap.size ∨ (w3.heap.size ≤ k ∧ k < w4.heap.size)) bc.B (fun k hk => by have := hM0 k hk; omega)) ⟨vb, hs5⟩ ⟨W.heap.size, vb, rfl, bc.b, hs5.b, fun e => by have := (hs.rb.lt _ e).2; omega, hsz⟩
    have HK := Lib.hid hkey
    clear hkey hK hs5 hst hs bc
    gi_wp2_with (first | (refine wpListIn_store_at rfl _ _ _ rfl rfl rfl (a1) ?_))
    exact HK.out
  case body =>
    rintro l pre x a' W hl hloop ⟨vb, hs⟩ ⟨b, vb', rfl, hbm, hbb, hnb, hbN⟩ hlt
    obtain rfl : vb = vb' := by
      have := hs.b.symm.trans hbb
      simpa using this
    obtain ⟨pb, cb, rfl⟩ := row_shape hs.rb
    have c2 := hs.b.cell
    have f2 := hs.b.frozen
    have c3 := hs.m.cell
    have lm := hbm.whole x.2.2.m
    have HS := Lib.hid hs
    have hlen : pre.length < 1000000 := by rw [seqC_length] at hlt; omega
    clear hs hbm hbb
    by_cases hmost : most ≤ (pre.length : Int)
    · have d1 : decide (most ≤ (pre.length : Int)) = true := decide_eq_true hmost
      gi_wp2_with fail
      exact ⟨KeepsFrom.refl _ _, rfl, by rw [List.dropLast_concat]; exact ⟨_, HS.out⟩, .inl (by simp; omega)⟩
    have d1 : decide (most ≤ (pre.length : Int)) = false := decide_eq_false hmost
    by_cases hx : x.1 = pre.length
    · have d2 : ((x.1 : Int) != (pre.length : Int)) = false := by rw [hx]; simp
      have d3 : (x.1 != pre.length) = false := by rw [hx]; simp
      have hs := HS.out
      have hWz : w4.heap.size ≤ W.heap.size := hs.sz
      have mk := mk_cells1 x.2.1 x.2.2.m W
      unfold cellV at mk
      have hr : (W.alloc (.cells x.2.1.vals.toArray 26)).ownsRow w4.heap.size 26 18 (.slice pb pre.length cb) pre.length (rawC (pre.map fun x => x.2.1)).flatten := hs.rb.alloc _
      have hgc : (W.alloc (.cells x.2.1.vals.toArray 26)).heap[W.heap.size]? = some (.cells x.2.1.vals.toArray 26 (0, 0)) := World.alloc_heap_new _ _
      have hcl := cell_of_lit hgc
      have HCL := Lib.hid hcl
      have HX := Lib.hid hx
      have HR := Lib.hid hr
      have bA := hs.b.alloc (.cells x.2.1.vals.toArray 26)
      have cA := bA.cell
      have fA := bA.frozen
      clear hcl hx hr hgc hs
      gi_wp2_with (first | (refine wpListIn_load_at rfl _ _ rfl rfl (lm) ?_) | (refine wpListIn_msl_at rfl rfl (by go_simp) (mk) ?_) | ((refine wpListIn_append_own_at _ rfl _ _ 27 rfl w4.heap.size 26 i0' (.agg zeroCells) 18 32 Try.underlying27 hi0' hz0' hz1' hz2' rfl (by decide) _ _ _ rfl HR.out ⟨W.heap.size, 0, none⟩ 1 1 x.2.1.vals rfl (by rw [x.2.1.vals_length x.2.2.m]) HCL.out x.2.1.one (by unfold maxLen; omega) (by omega) (by simp; omega) ?_)))
      intro v' w' ho hg _ hat
      obtain ⟨ga, cap, rfl⟩ := ownsRow_succ ho
      have hs := HS.out
      have hz3 := HZ3.out
      have hrow : ∀ k, (Value.slice pb pre.length cb).ownBlock = some k → w4.heap.size ≤ k := fun k hk => (hs.rb.lt k hk).1
      have bX : Boxed w' (w.heap.size + 1) 27 (.slice pb pre.length cb) := bA.kept hg (fun e => by have := hrow _ e.symm; omega)
      have cX := bX.cell
      have fX := bX.frozen
      have hga := (ho.lt ga rfl).1
      have hsz' : W.heap.size ≤ w'.heap.size := Nat.le_trans (by simp) hg.size
      have blk : ∀ k, k < W.heap.size → k ≠ w.heap.size + 1 → (∀ g, (Value.slice pb pre.length cb).ownBlock = some g → k ≠ g) → (w'.setCell ⟨w.heap.size + 1, 0, none⟩ (.slice (some ⟨ga, 0, none⟩) (pre.length + 1) cap)).heap[k]? = W.heap[k]? := fun k h1 h2 h3 =>
        (Below.heap_setCell w' ⟨w.heap.size + 1, 0, none⟩ _ k h2).trans ((hg.block k (by simp; omega) (fun e => h3 k e.symm rfl)).trans (Below.heap_alloc _ _ _ h1))
      have K1 : KeepsOthers W (w'.setCell ⟨w.heap.size + 1, 0, none⟩ (.slice (some ⟨ga, 0, none⟩) (pre.length + 1) cap)) := ((KeepsOthers.alloc W _).trans (KeepsOthers.of_grownBy hg (fun j o hj ho' => by
        obtain ⟨c, f, hc⟩ := row_cells HR.out hj
        rw [hc] at ho'; cases ho'; rfl))).trans (KeepsOthers.setCell _ _ _)
      have K2 : Keeps (fun k => k < w.heap.size ∨ (w3.heap.size ≤ k ∧ k < w4.heap.size)) W (w'.setCell ⟨w.heap.size + 1, 0, none⟩ (.slice (some ⟨ga, 0, none⟩) (pre.length + 1) cap)) := fun k hk =>
        blk k (by have := hM0 k hk; omega) (by have : k < w.heap.size ∨ (w3.heap.size ≤ k ∧ k < w4.heap.size) := hk; omega) (fun g hg' => by have := hrow g hg'; have := hM0 k hk; omega)
      have r2 : (w'.setCell ⟨w.heap.size + 1, 0, none⟩ (.slice (some ⟨ga, 0, none⟩) (pre.length + 1) cap)).ownsRow w4.heap.size 26 18 (.slice (some ⟨ga, 0, none⟩) (pre.length + 1) cap) (pre.length + 1) ((rawC (pre.map fun x => x.2.1)).flatten ++ x.2.1.vals) :=
        row_kept ho (fun g hg' => by cases hg'; exact Below.heap_setCell w' ⟨w.heap.size + 1, 0, none⟩ _ ga (by dsimp only; omega))
      have S2 : CelSt w w4.heap.size most (pre ++ [x]) (.slice (some ⟨ga, 0, none⟩) (pre.length + 1) cap) (w'.setCell ⟨w.heap.size + 1, 0, none⟩ (.slice (some ⟨ga, 0, none⟩) (pre.length + 1) cap)) :=
        ⟨bX.set _, by rw [List.map_append, List.map_cons, List.map_nil, rawC_snoc, List.length_append]; exact r2, (blk _ (by omega) (by omega) (fun g hg' => by have := hrow g hg'; omega)).trans hs.m, by simp; omega, by show w4.heap.size ≤ (w'.setCell _ _).heap.size; simp; omega,
          ((hs.low.alloc hs.low.size _).grown hg (by simp; have := hs.low.size; omega) (fun k hk => by have := hrow k hk; omega)).setCell (p := ⟨w.heap.size + 1, 0, none⟩) (by dsimp only; omega) _⟩
      have KK1 := Lib.hid K1
      have KK2 := Lib.hid K2
      have SS2 := Lib.hid S2
      clear K1 K2 S2 r2 blk ho hg hat bX bA cA fA c2 f2 c3 lm mk hs HCL HR
      gi_wp2_with fail
      exact ⟨KK1.out.from _, KK2.out, _, SS2.out⟩
    · have d2 : ((x.1 : Int) != (pre.length : Int)) = true := by simp; omega
      have d3 : (x.1 != pre.length) = true := by simpa using hx
      have HX := Lib.hid hx
      clear hx
      gi_wp2_with fail
      exact ⟨KeepsFrom.refl _ _, rfl, by rw [List.dropLast_concat]; exact ⟨_, HS.out⟩, .inr ⟨x, by simp, by have := HX.out; simp; exact this⟩⟩
  case done =>
    intro D ys W hD hys hI hK
    subst hys
    obtain ⟨vb, hs⟩ := hI
    have c2 := hs.b.cell
    have hpl := hs.le
    have hsz := hs.sz
    gi_wp2_with fail
    refine ⟨by simp, .inl ⟨_, _, rfl, run_takeDeferred hK, ?_⟩⟩
    have hst : Stays w4.heap.size W (W.putObj D (.deferred none)) := Stays.putObj _ hK rfl (by omega)
    rw [List.take_of_length_le hpl]
    exact ⟨_, results_tmp rfl _ _ _, vb, rfl, row_base (hst.row hs.rb) (by omega), hst.below hs.low (by omega) (Nat.le_refl _)⟩
  case stop =>
    rintro D c pre W hD hp ⟨rfl, ⟨vb, hs⟩, hlt⟩ hK
    have c2 := hs.b.cell
    have hpl := hs.le
    have hsz := hs.sz
    gi_wp2_with fail
    refine ⟨by simp, .inl ⟨_, _, rfl, run_takeDeferred hK, ?_⟩⟩
    have hst : Stays w4.heap.size W (W.putObj D (.deferred none)) := Stays.putObj _ hK rfl (by omega)
    have e : (seqC cs).take most.toNat = pre.dropLast := by
      have hl : pre.dropLast.length = most.toNat := by
        rcases hlt with hlt | ⟨x, hx, hne⟩
        · simp at hpl ⊢; omega
        · exfalso
          have hlt2 := (List.getElem?_eq_some_iff.1 hx).1
          have := (List.prefix_iff_getElem?.1 hp) (pre.length - 1) hlt2
          rw [List.getElem?_eq_getElem hlt2] at hx
          cases hx
          exact hne (seqC_at this)
      rw [← hl]
      exact (List.prefix_iff_eq_take.1 ((List.dropLast_prefix pre).trans hp)).symm
    rw [e]
    exact ⟨_, results_tmp rfl _ _ _, vb, rfl, row_base (hst.row hs.rb) (by omega), hst.below hs.low (by omega) (Nat.le_refl _)⟩
end Go.Proofs.Ytkdbbdlkfpjdfaa
