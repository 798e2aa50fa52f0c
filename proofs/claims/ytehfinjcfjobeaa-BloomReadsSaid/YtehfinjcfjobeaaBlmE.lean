/- Filters: the marks that are lacking, one by one.
   Conditions: those that each theorem names. -/
import Derived.Test.YtehfinjcfjobeaaBlmD
import Derived.Test.YtehfinjcfjobeaaBs
import Derived.Test.YtehfinjcfjobeaaCloneM
import Derived.Deep.QuietTactic
import Derived.BigQuiet
namespace Go.Proofs.Ytehfinjcfjobeaa
set_option maxRecDepth 100000
set_option linter.unusedVariables false
set_option linter.unusedSimpArgs false
open Go.RowKit Go.Shelf Go.Rg
attribute [local go_sem] Oper.semAt_some markV
def lackF (fl : List UInt8) (ms : List Mk) (i : Nat) : List (Nat × Mk) := (ms.zipIdx i).filterMap fun x => if mayB fl x.1.1 then none else some (x.2, x.1)
def lackL (fl : List UInt8) (ms : List Mk) : List (Nat × Mk) := lackF fl ms 0
theorem lackF_append (fl : List UInt8) (a b : List Mk) (i : Nat) : lackF fl (a ++ b) i = lackF fl a i ++ lackF fl b (i + a.length) := by
  unfold lackF
  rw [List.zipIdx_append, List.filterMap_append]
theorem lackF_one (fl : List UInt8) (m : Mk) (i : Nat) : lackF fl [m] i = if mayB fl m.1 then [] else [(i, m)] := by
  unfold lackF
  by_cases h : mayB fl m.1 = true <;> simp [h]
theorem lackL_split (fl : List UInt8) (ms : List Mk) (i : Nat) (m : Mk) (hm : ms[i]? = some m) : lackL fl ms = lackL fl (ms.take i) ++ (if mayB fl m.1 then [] else [(i, m)]) ++ lackF fl (ms.drop (i + 1)) (i + 1) := by
  have hi := (List.getElem?_eq_some_iff.1 hm).1
  have e : ms = ms.take i ++ ([m] ++ ms.drop (i + 1)) := by
    rw [List.singleton_append]
    have : m = ms[i] := (List.getElem?_eq_some_iff.1 hm).2.symm
    rw [this, ← List.drop_eq_getElem_cons hi, List.take_append_drop]
  conv => lhs; rw [e]
  unfold lackL
  rw [lackF_append, lackF_append, lackF_one, List.length_take, Nat.min_eq_left (Nat.le_of_lt hi), ← List.append_assoc, Nat.zero_add]
  rfl
theorem lackL_take (fl : List UInt8) (ms : List Mk) (i : Nat) (m : Mk) (hm : ms[i]? = some m) : lackL fl (ms.take (i + 1)) = lackL fl (ms.take i) ++ (if mayB fl m.1 then [] else [(i, m)]) := by
  have hi := (List.getElem?_eq_some_iff.1 hm).1
  rw [List.take_add_one, hm]
  unfold lackL
  show lackF fl (ms.take i ++ [m]) 0 = _
  rw [lackF_append, lackF_one, List.length_take, Nat.min_eq_left (Nat.le_of_lt hi), Nat.zero_add]
abbrev encM : Nat × Mk → Array Value := fun x => #[.int .i64 (x.1 : Int), markV x.2.1]
set_option maxRecDepth 100000 in
set_option maxHeartbeats 4000000 in
theorem lacks_in (m l bl bk kf : Nat) (vf : Value) (p : Option Addr) (cap : Nat) (fl : List UInt8) (ms : List Mk) (M : Nat → Prop) (J Jx : List (Nat × Mk) → World → Prop)
    (hM : M bl ∧ M bk ∧ M kf ∧ (∀ g, vf.ownBlock = some g → M g) ∧ ∀ a, p = some a → M a.block) (hf : fitsB ((8 * fl.length : Nat) : Int)) (hn : ms.length ≤ 1000000)
    (hJ : ∀ s A B, Below A.heap.size A B → J s A → J s B)
    (hY : ∀ pre x W, J pre W → pre.length < (lackL fl ms).length → YieldAt Fence.wide (m - 1) Try.prog l (encM x) W fun e W' =>
      (e = .returned (.bool true) ∧ J (pre ++ [x]) W' ∧ Keeps M W W') ∨ (e = .returned (.bool false) ∧ Jx (pre ++ [x]) W'))
    (W : World) (h1 : Boxed W bl 22 (.slice p ms.length cap)) (h2 : Boxed W bk 29 (ptr kf)) (h3 : FltAt kf vf fl W) (h4 : MarksAt W (.slice p ms.length cap) (vals ms)) (h0 : J [] W) :
    CallsIn Fence.wide m Try.prog 47 #[.func (.yield l) #[] #[], .pointer (some ⟨bl, 0, none⟩), .pointer (some ⟨bk, 0, none⟩)] W fun e W' => (∃ v, e = .returned v) ∧
      ((∃ ys, ys = lackL fl ms ∧ J ys W') ∨ (∃ pre, pre <+: lackL fl ms ∧ Jx pre W')) := by
  refine callsIn_of_wp Try.func47 rfl trivial ?_ rfl
  simp only [Try.ntmps47, List.size_toArray, List.length_cons, List.length_nil, Nat.reduceAdd, Nat.reduceSub, Array.replicate_succ, Array.replicate_zero, List.push_toArray, List.append_toArray, List.nil_append, List.cons_append]
  have c1 := h1.cell
  have H1 := Lib.hid h1
  have H2 := Lib.hid h2
  have H3 := Lib.hid h3
  have H4 := Lib.hid h4
  clear h1 h2 h3 h4
  refine wpIn_scope_wide ?_
  gi_wp2_with fail
  refine wpIn_label ?_
  gi_wp2_with fail
  gi_loopw [4, 5, 8] (fun _ _ cc wr => ∃ i : Nat, i ≤ ms.length ∧ cc = .int .i64 i ∧ J (lackL fl (ms.take i)) wr ∧ Hid (Boxed wr bk 29 (ptr kf)) ∧ Hid (FltAt kf vf fl wr) ∧ Hid (MarksAt wr (.slice p ms.length cap) (vals ms))) (fun _ _ cc _ => ms.length - (intOf cc).toNat)
  case atStart => exact ⟨0, by omega, rfl, h0, H2, H3, H4⟩
  case round =>
    obtain ⟨i, hi, rfl, hJi, H2, H3, H4⟩ := hrel
    by_cases hil : i < ms.length
    · have e1 : (i : Int) < (ms.length : Int) := by omega
      obtain ⟨x, hx⟩ : ∃ x, ms[i]? = some x := ⟨_, List.getElem?_eq_getElem hil⟩
      have hx16 := x.2
      obtain ⟨g, o, hpe, hgl, hld⟩ := H4.out.load (vals16 ms) (vals_get hx)
      subst hpe
      have hL := hld wr (Below.refl _ _)
      have hnew : (wr.alloc (.cells zeroMark 24)).heap[wr.heap.size]? = some (.cells ((List.replicate 16 0).map byteV).toArray 24 (0, 0)) := World.alloc_heap_new _ _
      obtain ⟨a1, a2⟩ := mark_store hnew (m := x.1) (by simp) hx16
      have hB5 : Below wr.heap.size wr ((wr.alloc (.cells zeroMark 24)).setCells wr.heap.size 0 (x.1.map byteV)) := Below.setCells ((Below.refl _ _).alloc (Nat.le_refl _) _) _ _ _ (Nat.le_refl _)
      have lm := mark_whole a2 hx16
      have b5 := (hB5.block bk H2.out.lt).trans H2.out
      have cb := Boxed.cell b5
      have f5 := H3.out.below hB5
      have m5 := H4.out.below hB5
      have j5 := hJ _ _ _ hB5 hJi
      have hx5 := (bmay_any kf vf fl x.1 _ f5 hf hx16)
      unfold markV at hx5
      have HX := Lib.hid hx
      have A2 := Lib.hid a2
      have B5 := Lib.hid b5
      have F5 := Lib.hid f5
      have M5 := Lib.hid m5
      have HB5 := Lib.hid hB5
      have HC := Lib.hid hx5
      clear hx hld hnew a2 b5 f5 m5 hB5 hx5 hJi H3 H4
      gi_wp2_with (first | (refine wpListIn_load_at rfl _ _ rfl rfl (hL) ?_) | (refine wpListIn_store_at rfl _ _ _ rfl rfl rfl (a1) ?_) | (refine wpListIn_load_at rfl _ _ rfl rfl (lm) ?_))
      refine ⟨trivial, wide_d, ?_⟩
      refine (callsIn_wide.2 HC.out).mono ?_
      rintro e w6 ⟨rfl, hB6⟩
      have hB6' := HB5.out.trans (hB6.mono HB5.out.size)
      have hZ : wr.heap.size < ((wr.alloc (.cells zeroMark 24)).setCells wr.heap.size 0 (x.1.map byteV)).heap.size := by rw [size_setCells]; simp
      have j6 := hJ _ _ _ hB6 j5
      have b6 := (hB6.block bk (blk_lt B5.out)).trans B5.out
      have f6 := F5.out.below hB6
      have m6 := M5.out.below hB6
      have l6 := mark_whole ((hB6.block _ hZ).trans A2.out) hx16
      have tk := lackL_take fl ms i x HX.out
      have sp := lackL_split fl ms i x HX.out
      have J6 := Lib.hid b6
      have F6 := Lib.hid f6
      have M6 := Lib.hid m6
      clear hL a1 lm cb hB6 b6 f6 m6 HB5 B5 F5 M5 HC j5 A2 hB6' hZ
      cases hmay : mayB fl x.1 with
      | true =>
        rw [hmay] at tk
        simp only [if_true, List.append_nil] at tk
        clear sp hmay l6
        gi_wp2_with fail
        go_roundw
        case rel => exact ⟨i + 1, by omega, by go_num, by rw [tk]; exact j6, J6, F6, M6⟩
        case measure => simp [intOf]; omega
      | false =>
        rw [hmay] at tk sp
        simp only [Bool.false_eq_true, if_false] at tk sp
        have hlt : (lackL fl (ms.take i)).length < (lackL fl ms).length := by rw [sp]; simp
        have hpre : lackL fl (ms.take i) ++ [(i, x)] <+: lackL fl ms := ⟨_, sp.symm⟩
        obtain ⟨fn, tmps, assign, body, hy, hR⟩ := hY _ (i, x) w6 j6 hlt
        have TK := Lib.hid tk
        have HP := Lib.hid hpre
        unfold encM markV at hy
        clear tk sp hmay hpre hlt
        gi_wp2_with (first | (refine wpListIn_load_at rfl _ _ rfl rfl (l6) ?_))
        refine ⟨wide_d, ?_⟩
        refine hR.mono ?_
        rintro e W3 (⟨rfl, hJ3, hk3⟩ | ⟨rfl, hJx3⟩)
        · obtain ⟨mb1, mb2, mb3, mb4, mb5⟩ := hM
          have b7 := hk3.boxed mb2 J6.out
          have f7 := F6.out.kept (Y := W3) (hk3 _ mb3) (fun g hg => hk3 _ (mb4 g hg))
          have m7 : MarksAt W3 (.slice (some ⟨g, o, none⟩) ms.length cap) (vals ms) := M6.out.keep (fun k hk => by cases hk; exact hk3 g (mb5 ⟨g, o, none⟩ rfl))
          have B7 := Lib.hid b7
          have F7 := Lib.hid f7
          have M7 := Lib.hid m7
          rw [← TK.out] at hJ3
          clear b7 f7 m7 mb1 mb2 mb3 mb4 mb5 hk3 hy hR
          gi_wp2_with fail
          go_roundw
          case rel => exact ⟨i + 1, by omega, by go_num, hJ3, B7, F7, M7⟩
          case measure => simp [intOf]; omega
        · gi_wp2_with fail
          try (simp only [Exit.noGoto_normal]; gi_wp2_with fail)
          go_end0
          exact ⟨⟨_, rfl⟩, .inr ⟨_, HP.out, hJx3⟩⟩
    · have e1 : ¬ (i : Int) < (ms.length : Int) := by omega
      obtain rfl : i = ms.length := by omega
      rw [List.take_length] at hJi
      gi_wp2_with fail
      try (simp only [Exit.noGoto_normal]; gi_wp2_with fail)
      go_end0
      first | exact ⟨⟨_, rfl⟩, .inl hJi⟩ | exact ⟨⟨_, rfl⟩, .inl ⟨_, rfl, hJi⟩⟩
end Go.Proofs.Ytehfinjcfjobeaa
