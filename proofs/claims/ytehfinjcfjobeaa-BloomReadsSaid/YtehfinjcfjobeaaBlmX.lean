/- What a filter that is none lacks: the law's list of it is empty.
   Conditions: those that each theorem names. -/
import Derived.Test.YtehfinjcfjobeaaBlmV
namespace Go.Proofs.Ytehfinjcfjobeaa
set_option maxRecDepth 100000
set_option linter.unusedVariables false
set_option linter.unusedSimpArgs false
open Go.RowKit Go.Shelf Go.Rg
attribute [local go_sem] Oper.semAt_some markV
set_option maxRecDepth 100000 in
set_option maxHeartbeats 4000000 in
theorem lawlacks_nil (p : Option Addr) (cap n : Nat) (most : Int) (w : World) :
    Calls Try.prog 12 #[.pointer none, .slice p n cap, .int .i64 most] w fun e w' => ∃ va vb, e = .returned (.tuple #[va, vb]) ∧ w'.ownsRow w.heap.size 3 1 va 0 [] ∧ Below w.heap.size w w' := by
  refine (callsIn_wide (n := 5)).1 ?_
  refine callsIn_of_wp_marks Try.func12 rfl trivial ?_ rfl
  simp only [Try.ntmps12, List.size_toArray, List.length_cons, List.length_nil, Nat.reduceAdd, Nat.reduceSub, Array.replicate_succ, Array.replicate_zero, List.push_toArray, List.append_toArray, List.nil_append, List.cons_append]
  have heq : ∀ (w : World), (binOp BinOp.eql 63 (.func (.func 45) #[] #[]) .nilFunc).run Try.prog w = .ok (.bool false) w := fun _ => by kernel_rfl
  gi_wp2_with fail
  obtain ⟨w3, hw3⟩ : ∃ w3, w3 = ((w.alloc (.cells #[.int .i64 most] 3)).alloc (.cells #[.slice none 0 0] 36)).alloc (.cells #[.slice none 0 0] 22) := ⟨_, rfl⟩
  rw [← hw3]
  have bM : Boxed w3 w.heap.size 3 (.int .i64 most) := by rw [hw3]; exact ((Boxed.new _ _ _).alloc _).alloc _
  have bA : Boxed w3 (w.heap.size + 1) 36 (.slice none 0 0) := by
    rw [hw3]
    have := Boxed.new (w.alloc (.cells #[.int .i64 most] 3)) 36 (.slice none 0 0)
    rw [World.size_alloc] at this
    exact this.alloc _
  have bB : Boxed w3 (w.heap.size + 2) 22 (.slice none 0 0) := by
    rw [hw3]
    have := Boxed.new ((w.alloc (.cells #[.int .i64 most] 3)).alloc (.cells #[.slice none 0 0] 36)) 22 (.slice none 0 0)
    rw [World.size_alloc, World.size_alloc] at this
    exact this
  have hB3 : Below w.heap.size w w3 := by rw [hw3]; exact (((Below.refl _ _).alloc (Nat.le_refl _) _).alloc (by simp) _).alloc (by simp; omega) _
  have hz3 : w3.heap.size = w.heap.size + 3 := by rw [hw3]; simp
  refine ⟨trivial, ?_⟩
  refine (callsIn_wide.2 (lacks_nil p n cap w3)).mono ?_
  rintro e w4 ⟨rfl, hB4⟩
  have hz4 := hB4.size
  have cM := (hB4.block _ bM.lt).trans bM
  have cA := (hB4.block _ bA.lt).trans bA
  have cB := (hB4.block _ bB.lt).trans bB
  have hBw := hB3.trans (hB4.mono hB3.size)
  have st0 : LackSt w w4.heap.size most [] (.slice none 0 0) (.slice none 0 0) w4 := ⟨cA, cB, World.ownsRow_nil _ _ _ _, World.ownsRow_nil _ _ _ _, .inl rfl, cM, Nat.zero_le _, Nat.le_refl _, hBw⟩
  have ST0 := Lib.hid st0
  have hN : w.heap.size + 3 ≤ w4.heap.size := by omega
  have HZ3 := Lib.hid hz3
  clear cM cA cB hBw st0 hB3 hB4 bM bA bB hw3 hz3 hz4
  gi_wp2_with fail
  clear heq
  refine wpIn_rangeFunc_ownH (n := 5) (w0 := w4) rfl (by omega) (gf := 45) (lb := #[]) rfl trivial (enters_of Try.func45 (by kernel_rfl) rfl)
    (lacks1_stops 4 w.heap.size w4) keeps_t (keeps_b (fun k hk => by omega)) (Below.refl _ _) (fun _ => rfl)
    (fun pre W => ∃ va vb, LackSt w w4.heap.size most pre va vb W)
    (fun c pre W => False)
    (ownFrom_of_stays (fun s W W' h => by rintro ⟨va, vb, hs⟩; exact ⟨va, vb, hs.stays (by omega) h⟩))
    (fun c => ownFrom_of_stays (fun s W W' h hf => hf))
    ⟨_, _, ST0.out⟩
    (fun x a' W => True)
    (fun x a' => ownFrom_of_stays (fun _ W W' h hf => hf))
    ?assign ?body ?done ?stop
  case assign =>
    rintro l pre x W K ⟨va, vb, hs⟩ hK
    have bm := boxedM W x.2.1 x.2.2
    have a1 := bm.a1
    have hst := Stays.of_below w4.heap.size bm.B
    have hs5 := hs.stays (by omega) hst
    have hsz := hs.sz
    have hkey := fun a' => hK a' _ ((KeepsOthers.of_below bm.B).from _) (Keeps.of_below (M := fun k => k < w.heap.size) bm.B (fun k hk => by have hk' : k < w.heap.size := hk; omega)) ⟨va, vb, hs5⟩ trivial
    have HK := Lib.hid hkey
    clear hkey hK hs5 hst hs bm
    gi_wp2_with (first | (refine wpListIn_store_at rfl _ _ _ rfl rfl rfl (a1) ?_))
    exact HK.out _
  case body =>
    rintro l pre x a' W hl hloop hs hf hlt
    exact absurd hlt (Nat.not_lt_zero _)
  case done =>
    intro D ys W hD hys hI hK
    subst hys
    obtain ⟨va, vb, hs⟩ := hI
    have c1 := hs.a.cell
    have c2 := hs.b.cell
    have hpl := hs.le
    have hsz := hs.sz
    gi_wp2_with fail
    refine wpIn_wide.2 ?_
    go_quiet (fail)
    gi_wp2_with fail
    refine ⟨by simp, .inl ⟨_, _, rfl, run_takeDeferred hK, ?_⟩⟩
    have hst : Stays w4.heap.size W ((W.drewN nq).putObj D (.deferred none)) := (Stays.drewN _ W nq).trans (Stays.putObj _ hK rfl (by omega))
    exact ⟨_, results_tmp2 rfl _ _ _, va, vb, rfl, row_base (hst.row hs.ra) (by omega), hst.below hs.low (by omega) (Nat.le_refl _)⟩
  case stop =>
    rintro D c pre W hD hp hf hK
    exact hf.elim
end Go.Proofs.Ytehfinjcfjobeaa
