/- Filters that are none: their places and what they lack; arrays of four numbers compared.
   Conditions: those that each theorem names. -/
import Derived.Test.YtehfinjcfjobeaaBlmS
import Derived.Test.YtehfinjcfjobeaaBlmT
namespace Go.Proofs.Ytehfinjcfjobeaa
set_option maxRecDepth 100000
set_option linter.unusedVariables false
set_option linter.unusedSimpArgs false
open Go.RowKit Go.Shelf Go.Rg
theorem bplaces_no (n : Int) (hn : ¬ fitsB n) (m : List UInt8) (w : World) : Calls Try.prog 19 #[.int .i64 n, markV m] w fun e w' => e = .returned (.agg #[.int .i64 0, .int .i64 0, .int .i64 0, .int .i64 0]) ∧ Below w.heap.size w w' := by
  unfold markV
  go_enter Try.func19, Try.ntmps19
  go_wp2_with fail
  refine (bfits_no n hn _).mono ?_
  rintro e w' ⟨rfl, rfl⟩
  go_wp2_with fail
  refine bodyPost_ret (v := .agg #[.int .i64 0, .int .i64 0, .int .i64 0, .int .i64 0]) (by simp [results, Try.results19, go_sem]) rfl ⟨rfl, ?_⟩
  exact (((Below.refl _ _).alloc (Nat.le_refl _) _).alloc (by simp) _).alloc (by simp; omega) _
theorem eq_ints {P : Program} (w : World) (d : Nat) (t e : TypeId) (n : Nat) (ht : P.underlying t = some (.array n e)) (he : P.underlying e = some (.int .i64)) (hsz : ∀ w, (sizeOf e).run P w = .ok 1 w)
    (xs : List Int) (hx : xs.length = n) :
    (Op.equalIn (d + 2) t (.agg (xs.map (Value.int .i64)).toArray) (.agg (xs.map (Value.int .i64)).toArray)).run P w = .ok true w := by
  rw [Op.equalIn]
  simp only [Sem.run_bind, run_underlying ht, Result.andThen_ok, hsz, Std.Legacy.Range.forIn_eq_forIn_range', Std.Legacy.Range.size, Nat.sub_zero, Nat.add_sub_cancel, Nat.div_one]
  have hl : ∀ i ∈ List.range' 0 n 1, i < n := fun i hi => by simpa using (List.mem_range'_1.1 hi).2
  generalize List.range' 0 n 1 = l at hl ⊢
  induction l with
  | nil => simp
  | cons i l ih =>
    have hi : i < n := hl i (by simp)
    have px : (part e (xs.map (Value.int .i64)).toArray (i * 1)).run P w = .ok (Value.int .i64 (xs.getD i 0)) w := by
      simp [part, isAgg, run_underlying he, List.getD, List.getElem?_eq_getElem (show i < xs.length by omega)]
    have pe : (Op.equalIn (d + 1) e (Value.int .i64 (xs.getD i 0)) (Value.int .i64 (xs.getD i 0))).run P w = .ok true w := by
      rw [run_equalIn_int w d e .i64 .i64 _ _ he]; simp
    simp only [List.forIn_cons, Sem.run_bind, px, pe, Result.andThen_ok]
    simp only [Bool.not_true, Bool.false_eq_true, if_false, Sem.run_pure, Result.andThen_ok]
    exact ih fun j hj => hl j (by simp [hj])
abbrev fourV (a b c d : Int) : Value := .agg #[.int .i64 a, .int .i64 b, .int .i64 c, .int .i64 d]
theorem eqv_four (a b c d : Int) (x y : Operand) (w : World) : (do eqGuard .eql 44 x y (fourV a b c d) (fourV a b c d); binOp .eql 44 (fourV a b c d) (fourV a b c d) : Sem Value).run Try.prog w = .ok (.bool true) w := by
  rw [Sem.run_bind, run_eqGuard_agg w .eql 44 x y _ _ (by kernel_rfl), Result.andThen_ok, run_eql_struct]
  have := eq_ints (P := Try.prog) w 9998 44 3 4 rfl rfl (fun w => by kernel_rfl) [a, b, c, d] rfl
  rw [show Op.equalIn 10000 44 (fourV a b c d) (fourV a b c d) = Op.equalIn (9998 + 2) 44 (.agg ([a, b, c, d].map (Value.int .i64)).toArray) (.agg ([a, b, c, d].map (Value.int .i64)).toArray) from rfl, this]; rfl
theorem neqv_four (a b c d : Int) (x y : Operand) (w : World) : (do eqGuard .neq 44 x y (fourV a b c d) (fourV a b c d); binOp .neq 44 (fourV a b c d) (fourV a b c d) : Sem Value).run Try.prog w = .ok (.bool false) w := by
  rw [Sem.run_bind, run_eqGuard_agg w .neq 44 x y _ _ (by kernel_rfl), Result.andThen_ok, run_neq_struct]
  have := eq_ints (P := Try.prog) w 9998 44 3 4 rfl rfl (fun w => by kernel_rfl) [a, b, c, d] rfl
  rw [show Op.equalIn 10000 44 (fourV a b c d) (fourV a b c d) = Op.equalIn (9998 + 2) 44 (.agg ([a, b, c, d].map (Value.int .i64)).toArray) (.agg ([a, b, c, d].map (Value.int .i64)).toArray) from rfl, this]; rfl
theorem CaseAt.below {b : Nat} {N Mo : Int} {av bv yv : Value} {M : List UInt8} {X Y : World} (h : CaseAt b N Mo av bv M yv X) (hB : Below X.heap.size X Y) : CaseAt b N Mo av bv M yv Y := h.kept (hB.block _ h.lt)
theorem or_addAll (n : Nat) (h0 : 0 < n) (A B : List (List UInt8)) : orL (addAll (List.replicate n 0) A) (addAll (List.replicate n 0) B) = addAll (List.replicate n 0) (A ++ B) := by
  have hz : (List.replicate n (0 : UInt8)).length = n := List.length_replicate
  have hl : ∀ l, (addAll (List.replicate n 0) l).length = n := fun l => by rw [addAll_length, hz]
  apply bits_ext
  · rw [orL_length, hl, hl]
  · intro q _
    rw [bit_or _ _ (by rw [hl, hl]), bit_addAll _ _ (by rw [hz]; exact h0), bit_addAll _ _ (by rw [hz]; exact h0), bit_addAll _ _ (by rw [hz]; exact h0), bit_zero, List.any_append]
    simp only [Bool.false_or]
/-! ### What a filter that is none lacks -/
theorem lacks1_stops (m : Nat) (N0 : Nat) (w : World) :
    SeqStopsK Fence.wide m Try.prog 45 #[] encM (Keeps (fun k => k < N0)) (fun ys => ys = []) (fun pre => pre <+: []) 0 w := by
  intro l J Jx W hW hJ _ hY h0
  refine callsIn_of_wp Try.func45 rfl trivial ?_ rfl
  simp only [Try.ntmps45, List.size_toArray, List.length_cons, List.length_nil, Nat.reduceAdd, Nat.reduceSub, Array.replicate_succ, Array.replicate_zero, List.push_toArray, List.append_toArray, List.nil_append, List.cons_append]
  gi_wp2_with fail
  go_end0
  first | exact ⟨⟨_, rfl⟩, .inl h0⟩ | exact ⟨⟨_, rfl⟩, .inl ⟨_, rfl, h0⟩⟩
end Go.Proofs.Ytehfinjcfjobeaa
