/- The walk of the law SipSums.
   Conditions: those that the theorem names. -/
import Derived.Test.YtfebfpfmjdeedaaI
import Derived.Test.YtfebfpfmjdeedaaJ
import Derived.Test.YtfebfpfmjdeedaaTail
namespace Go.Proofs.Ytfebfpfmjdeedaa
set_option linter.unusedVariables false
open Go.RowKit Go.Rg
theorem equal_key (A B : UInt64) (w : World) : (Op.equalIn 10000 24 (keyV A B) (keyV A B)).run Try.prog w = .ok true w := by
  go_simp
theorem plain_hash (A B : UInt64) (l : List UInt8) (w : World) (hn : l.length ≤ 1000000) :
    Calls Try.prog 11 #[keyV A B, str l] w fun e w' => e = .returned (.int .u64 (U (hashS A B l))) ∧ Below w.heap.size w w' := by
  rw [hash_eq]
  exact plain_hash_any A B l w hn
theorem eql_marks (xs : List UInt8) (hx : xs.length = 16) (w : World) : (binOp .eql 32 (markV xs) (markV xs)).run Try.prog w = .ok (.bool true) w := by
  have := run_eql_bytes (P := Try.prog) w 32 5 16 rfl rfl (fun w => by kernel_rfl) xs xs hx hx
  rw [beq_self_eq_true] at this
  exact this
theorem guard_marks (a b : Operand) (xs ys : List UInt8) (w : World) : (eqGuard .eql 32 a b (markV xs) (markV ys)).run Try.prog w = .ok () w := by
  unfold markV
  go_simp
theorem rows_len {w : World} {v : Value} {ls : List (List UInt8)} (h : RowsAt w v ls) : ∃ p cap, v = .slice p ls.length cap := by
  obtain ⟨p, cap, rfl, _⟩ := h
  exact ⟨p, cap, rfl⟩
set_option maxRecDepth 100000 in
set_option maxHeartbeats 2000000 in
theorem sums_walk (A B : UInt64) (n : Int) (v : Value) (ls : List (List UInt8)) (w : World) (hr : RowsAt w v ls) (hk : ls.length ≤ 1000000000000000) (hs : ∀ i : Nat, (ls[i]?.getD []).length ≤ 1000000000000000) :
    Calls Try.prog 3 #[keyV A B, .int .i64 n, v] w fun e w' => e = .returned (.bool true) ∧ Below w.heap.size w w' := by
  have HR := Lib.hid hr
  clear hr
  go_enter Try.func3, Try.ntmps3
  go_wp2_with fail
  have hk0 := World.alloc_heap_new w (.cells #[.int .u64 (U A), .int .u64 (U B)] 24)
  have hB0 : Below w.heap.size w (w.alloc (.cells #[.int .u64 (U A), .int .u64 (U B)] 24)) := (Below.refl _ _).alloc (Nat.le_refl _) _
  generalize w.alloc (.cells #[.int .u64 (U A), .int .u64 (U B)] 24) = w0 at *
  refine (first_any w0).mono ?_
  rintro e w1 ⟨rfl, hB1⟩
  have hk1 := (hB1.block _ (Array.getElem?_eq_some_iff.1 hk0).1).trans hk0
  have hB01 := hB0.trans (hB1.mono hB0.size)
  have HR1 := Lib.hid (HR.out.below hB01)
  have HK1 := Lib.hid hk1
  clear hk0 hB0 hB1 hk1 HR
  go_wp2_with fail
  refine (great_any v ls w1 HR1.out hk hs).mono ?_
  rintro e w2 ⟨rfl, rfl⟩
  by_cases hg : 3000 < tot ls
  · rw [decide_eq_true hg]
    go_wp2_with fail
    go_ret
    exact ⟨rfl, hB01⟩
  · rw [decide_eq_false hg]
    go_wp2_with fail
    refine (joined_any v ls w1 HR1.out (by omega)).mono ?_
    rintro e w2 ⟨rfl, rfl⟩
    have hfl : ls.flatten.length ≤ 3000 := by unfold tot at hg; omega
    have hkk : ∀ X, Below w1.heap.size w1 X → X.cell? ⟨w.heap.size, 0, none⟩ = some (.int .u64 (U A)) ∧ X.cell? ⟨w.heap.size, 1, none⟩ = some (.int .u64 (U B)) := by
      intro X hX
      have := (hX.block _ (Array.getElem?_eq_some_iff.1 HK1.out).1).trans HK1.out
      exact ⟨by simp [World.cell?, this], by simp [World.cell?, this]⟩
    have hh := hash_eq A B ls.flatten
    have HH := Lib.hid hh
    have hem := eql_marks (markB ls.flatten) (by simp [markB])
    have heg := fun w => guard_marks (.tmp 23) (.tmp 25) (markB ls.flatten) (markB ls.flatten) w
    have hek := fun w => equal_key (sA n) (sB n) w
    have HS := Lib.hid hs
    have hg0 : ls.length ≤ 3000 := by unfold tot at hg; omega
    clear hh hs hg
    go_wp2_with fail
    refine wp_region_calm_lit (by kernel_rfl) (by kernel_rfl) ?_
    repeat
      first
      | (apply calm_want
         · first | rfl | (go_simp; done)
         · intro X hX
           go_simp
           first
             | done
             | rfl
             | (refine ⟨trivial, ?_⟩; (first | exact calls_calm hX (hash_any A B v ls X (HR1.out.below hX) (by omega) (by omega)) | exact calls_calm hX (plain_hash A B ls.flatten X (by omega)) | exact calls_calm hX (mark_any v ls X (HR1.out.below hX) (by omega) (by omega)) | exact calls_calm hX (plain_mark_any ls.flatten X (by omega)) | exact calls_calm hX (seed_any n X) | exact calls_calm hX (plain_seed_any n X)); done)
             | ((first | exact calls_calm hX (hash_any A B v ls X (HR1.out.below hX) (by omega) (by omega)) | exact calls_calm hX (plain_hash A B ls.flatten X (by omega)) | exact calls_calm hX (mark_any v ls X (HR1.out.below hX) (by omega) (by omega)) | exact calls_calm hX (plain_mark_any ls.flatten X (by omega)) | exact calls_calm hX (seed_any n X) | exact calls_calm hX (plain_seed_any n X)); done)
         intro K hK
         go_simp
         refine hK _ ?_
         clear hK K)
      | (apply calm_skip
         · first | rfl | (go_simp; done)
         intro K hK
         go_simp
         refine hK _ ?_
         clear hK K)
    refine wpQuiet_nil ?_
    intro X hX
    go_wp2_with fail
    go_ret
    exact ⟨rfl, hB01.trans (hX.mono hB01.size)⟩
end Go.Proofs.Ytfebfpfmjdeedaa
