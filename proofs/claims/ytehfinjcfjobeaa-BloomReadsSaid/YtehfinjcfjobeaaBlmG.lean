/- Filters: the law's list of what is lacking.
   Conditions: those that each theorem names. -/
import Derived.Test.YtehfinjcfjobeaaBlmF
namespace Go.Proofs.Ytehfinjcfjobeaa
set_option maxRecDepth 100000
set_option linter.unusedVariables false
set_option linter.unusedSimpArgs false
open Go.RowKit Go.Shelf Go.Rg
attribute [local go_sem] Oper.semAt_some markV
theorem infoI : (Try.prog.info? 3).map (fun i => (i.zero, i.size, i.bytes)) = some (some (.int .i64 0), 1, 8) := by kernel_rfl
theorem lack_stops (m N0 lo : Nat) (fl : List UInt8) (ms : List Mk) (bl bk kf : Nat) (vf vm : Value) (w : World) (h : LackAt lo fl ms bl bk kf vf vm w) (hf : fitsB ((8 * fl.length : Nat) : Int)) (hn : ms.length ≤ 1000000) :
    SeqStopsK Fence.wide m Try.prog 47 #[ptr bl, ptr bk] encM (Keeps (fun k => k < N0 ∨ (lo ≤ k ∧ k < w.heap.size))) (fun ys => ys = lackL fl ms) (fun pre => pre <+: lackL fl ms) (lackL fl ms).length w := by
  intro l J Jx W hW hJ _ hY h0
  obtain ⟨p, cap, rfl, hc, hfr⟩ := id h.m
  rw [vals_length] at hc
  have hm := h.m.below hW
  have hlm : ∀ a, p = some a → (fun k => k < N0 ∨ (lo ≤ k ∧ k < w.heap.size)) a.block := by
    intro a ha
    exact .inr ⟨h.l5 a.block (by rw [ha]; rfl), h.l6 a.block (by rw [ha]; rfl)⟩
  rw [vals_length] at hm
  have b1 : Boxed W bl 22 (.slice p (vals ms).length cap) := (hW.block _ h.b1.lt).trans h.b1
  rw [vals_length] at b1
  exact lacks_in m l bl bk kf vf p cap fl ms _ J Jx ⟨.inr ⟨h.l1, h.b1.lt⟩, .inr ⟨h.l2, h.b2.lt⟩, .inr ⟨h.l3, h.f.lt⟩, fun g hg => .inr ⟨h.l4 g hg, h.f.2.lt hg⟩, hlm⟩ hf hn
    (fun s A B hB hs => hJ s A B none hs (grown_of_below hB none) (fun r e => by cases e)) hY W b1 ((hW.block _ h.b2.lt).trans h.b2) (h.f.below (hW)) hm h0
theorem mk_marks1 (a : List UInt8) (ha : a.length = 16) (w : World) : (Instr.buildSlice 22 1 #[(0, markV a)]).run Try.prog w = .ok (.slice (some ⟨w.heap.size, 0, none⟩) 1 1) (w.alloc (.cells (a.map byteV).toArray 24)) := by
  obtain ⟨a0, a1, a2, a3, a4, a5, a6, a7, a8, a9, b0, b1, b2, b3, b4, b5, rfl⟩ := list16 ha
  kernel_rfl
theorem rawM_snoc (l : List (List UInt8)) (m : List UInt8) : (rawM (l ++ [m])).flatten = (rawM l).flatten ++ m.map byteV := by simp [rawM]
theorem Stays.of_below (B : Nat) {W W' : World} (h : Below W.heap.size W W') : Stays B W W' :=
  ⟨h.os, h.tape, h.output, h.size, fun k c e f hk => (h.block k (blk_lt hk)).trans hk, fun k _ hk => h.block k hk⟩
theorem KeepsOthers.of_below {W W' : World} (h : Below W.heap.size W W') : KeepsOthers W W' := ⟨h.size, fun k o ho _ => (h.block k (blk_lt ho)).trans ho⟩
/-- The law's list: what was collected so far. -/
structure LackSt (w : World) (N4 : Nat) (most : Int) (pre : List (Nat × Mk)) (va vb : Value) (W : World) : Prop where
  a : Boxed W (w.heap.size + 1) 36 va
  b : Boxed W (w.heap.size + 2) 22 vb
  ra : W.ownsRow N4 3 1 va pre.length (pre.map fun x => .int .i64 (x.1 : Int))
  rb : W.ownsRow N4 24 16 vb pre.length (rawM (pre.map fun x => x.2.1)).flatten
  ap : va.ownBlock = none ∨ va.ownBlock ≠ vb.ownBlock
  m : Boxed W w.heap.size 3 (.int .i64 most)
  le : pre.length ≤ most.toNat
  sz : N4 ≤ W.heap.size
  low : Below w.heap.size w W
theorem LackSt.stays {w : World} {N4 : Nat} {most : Int} {pre : List (Nat × Mk)} {va vb : Value} {W W' : World} (hN : w.heap.size ≤ N4) (hs : Stays N4 W W') (h : LackSt w N4 most pre va vb W) : LackSt w N4 most pre va vb W' :=
  ⟨hs.boxed h.a, hs.boxed h.b, hs.row h.ra, hs.row h.rb, h.ap, hs.boxed h.m, h.le, Nat.le_trans h.sz hs.size, hs.below h.low hN (Nat.le_refl _)⟩
set_option maxRecDepth 100000 in
set_option maxHeartbeats 4000000 in
theorem lawlacks_any (k : Nat) (v : Value) (fl : List UInt8) (p : Option Addr) (cap : Nat) (ms : List Mk) (most : Int) (w : World) (h : FltAt k v fl w) (hm : MarksAt w (.slice p ms.length cap) (vals ms)) (hf : fitsB ((8 * fl.length : Nat) : Int)) (hn : ms.length ≤ 1000) (hll : (lackL fl ms).length ≤ 1000) :
    Calls Try.prog 12 #[ptr k, .slice p ms.length cap, .int .i64 most] w fun e w' => ∃ va vb, e = .returned (.tuple #[va, vb]) ∧
    w'.ownsRow w.heap.size 3 1 va ((lackL fl ms).take most.toNat).length (((lackL fl ms).take most.toNat).map fun x => .int .i64 (x.1 : Int)) ∧
    w'.ownsRow w.heap.size 24 16 vb ((lackL fl ms).take most.toNat).length (rawM (((lackL fl ms).take most.toNat).map fun x => x.2.1)).flatten ∧ Below w.heap.size w w' := by
  have hfl : fl.length ≤ 1000000 := by have := hf.2.1; omega
  obtain ⟨i0', hi0', hz0', hz1', hz2'⟩ := info_parts infoM
  obtain ⟨i0, hi0, hz0, hz1, hz2⟩ := info_parts infoI
  refine (callsIn_wide (n := 5)).1 ?_
  refine callsIn_of_wp_marks Try.func12 rfl trivial ?_ rfl
  simp only [Try.ntmps12, List.size_toArray, List.length_cons, List.length_nil, Nat.reduceAdd, Nat.reduceSub, Array.replicate_succ, Array.replicate_zero, List.push_toArray, List.append_toArray, List.nil_append, List.cons_append]
  have heq : ∀ (b1 b2 : Nat) (w : World), (binOp BinOp.eql 63 (.func (.func 47) #[] #[.pointer (some ⟨b1, 0, none⟩), .pointer (some ⟨b2, 0, none⟩)]) .nilFunc).run Try.prog w = .ok (.bool false) w := fun _ _ _ => by kernel_rfl
  gi_wp2_with fail
  obtain ⟨w3, hw3⟩ : ∃ w3, w3 = ((w.alloc (.cells #[.int .i64 most] 3)).alloc (.cells #[.slice none 0 0] 36)).alloc (.cells #[.slice none 0 0] 22) := ⟨_, rfl⟩
  rw [← hw3]
  have bM : Boxed w3 w.heap.size 3 (.int .i64 most) := by rw [hw3]; exact ((Boxed.new _ _ _).alloc _).alloc _
  have bA : Boxed w3 (w.heap.size + 1) 36 (.slice none 0 0) := by
    rw [hw3]
    have := Boxed.new (w.alloc (.cells #[.int .i64 most] 3)) 36 (.slice none 0 0)
    rw [World.size_alloc] at this
    exact this.alloc _
  have bB : Boxed w3 (w.heap.size + 2) 22 (.slice none 0 0) := by
    rw [hw3]
    have := Boxed.new ((w.alloc (.cells #[.int .i64 most] 3)).alloc (.cells #[.slice none 0 0] 36)) 22 (.slice none 0 0)
    rw [World.size_alloc, World.size_alloc] at this
    exact this
  have hB3 : Below w.heap.size w w3 := by rw [hw3]; exact (((Below.refl _ _).alloc (Nat.le_refl _) _).alloc (by simp) _).alloc (by simp; omega) _
  have hz3 : w3.heap.size = w.heap.size + 3 := by rw [hw3]; simp
  refine ⟨trivial, ?_⟩
  refine (callsIn_wide.2 (lacks_any k v _ fl ms w3 (h.below hB3) (hm.below hB3) hfl (by omega))).mono ?_
  rintro e w4 ⟨bl, bk, kf, vf, vm, rfl, L, hB4⟩
  have hz4 := hB4.size
  have cM := (hB4.block _ bM.lt).trans bM
  have cA := (hB4.block _ bA.lt).trans bA
  have cB := (hB4.block _ bB.lt).trans bB
  have hBw := hB3.trans (hB4.mono hB3.size)
  have st0 : LackSt w w4.heap.size most [] (.slice none 0 0) (.slice none 0 0) w4 := ⟨cA, cB, World.ownsRow_nil _ _ _ _, World.ownsRow_nil _ _ _ _, .inl rfl, cM, Nat.zero_le _, Nat.le_refl _, hBw⟩
  have ST0 := Lib.hid st0
  have HL := Lib.hid L
  have hN : w.heap.size + 3 ≤ w4.heap.size := by omega
  have HZ3 := Lib.hid hz3
  clear cM cA cB hBw st0 L hB3 hB4 bM bA bB hw3 hz3 h hm hz4
  gi_wp2_with fail
  clear heq
  have hM0 : ∀ k, (k < w.heap.size ∨ (w3.heap.size ≤ k ∧ k < w4.heap.size)) → k < w4.heap.size := fun k hk => by omega
  refine wpIn_rangeFunc_ownH (n := 5) (w0 := w4) rfl (by omega) (gf := 47) (lb := #[ptr bl, ptr bk]) rfl trivial (enters_of Try.func47 (by kernel_rfl) rfl)
    (lack_stops 4 w.heap.size w3.heap.size fl ms bl bk kf vf vm w4 HL.out hf (by omega)) keeps_t (keeps_b hM0) (Below.refl _ _) (fun _ => rfl)
    (fun pre W => ∃ va vb, LackSt w w4.heap.size most pre va vb W)
    (fun c pre W => c = .exit 0 ∧ (∃ va vb, LackSt w w4.heap.size most pre.dropLast va vb W) ∧ most.toNat < pre.length)
    (ownFrom_of_stays (fun s W W' h => by rintro ⟨va, vb, hs⟩; exact ⟨va, vb, hs.stays (by omega) h⟩))
    (fun c => ownFrom_of_stays (fun s W W' h => by rintro ⟨h1, ⟨va, vb, hs⟩, h2⟩; exact ⟨h1, ⟨va, vb, hs.stays (by omega) h⟩, h2⟩))
    ⟨_, _, ST0.out⟩
    (fun x a' W => ∃ b va vb, a' = { tmps := #[ptr k, .slice p ms.length cap, .int .i64 most, undef, undef, .pointer (some ⟨w.heap.size, 0, none⟩), .slice none 0 0, .slice none 0 0, .pointer (some ⟨w.heap.size + 1, 0, none⟩), .pointer (some ⟨w.heap.size + 1 + 1, 0, none⟩), .func (.func 47) #[] #[ptr bl, ptr bk], .int .i64 (x.1 : Int), ptr b, ptr k, .slice p ms.length cap, .func (.func 47) #[] #[ptr bl, ptr bk], .func (.func 47) #[] #[ptr bl, ptr bk], .bool false, .func (.func 47) #[] #[ptr bl, ptr bk], .int .i64 (x.1 : Int), markV x.2.1, undef, undef, undef, undef, undef, undef, undef, undef, undef, undef, undef, undef, undef, undef], defers := [] } ∧
      W.heap[b]? = some (.cells (x.2.1.map byteV).toArray 24 (0, 0)) ∧ Boxed W (w.heap.size + 1) 36 va ∧ Boxed W (w.heap.size + 2) 22 vb ∧ va.ownBlock ≠ some b ∧ vb.ownBlock ≠ some b ∧ w4.heap.size ≤ b)
    (fun x a' => ownFrom_of_stays (fun _ W W' h => by rintro ⟨b, va, vb, h1, h2, h3, h4, h5, h6, h7⟩; exact ⟨b, va, vb, h1, h.cells _ _ _ _ h2, h.boxed h3, h.boxed h4, h5, h6, h7⟩))
    ?assign ?body ?done ?stop
  case assign =>
    rintro l pre x W K ⟨va, vb, hs⟩ hK
    have hnew : (W.alloc (.cells zeroMark 24)).heap[W.heap.size]? = some (.cells ((List.replicate 16 0).map byteV).toArray 24 (0, 0)) := World.alloc_heap_new _ _
    obtain ⟨a1, a2⟩ := mark_store hnew (m := x.2.1) (by simp) x.2.2
    have hB5 : Below W.heap.size W ((W.alloc (.cells zeroMark 24)).setCells W.heap.size 0 (x.2.1.map byteV)) := Below.setCells ((Below.refl _ _).alloc (Nat.le_refl _) _) _ _ _ (Nat.le_refl _)
    have hst := Stays.of_below w4.heap.size hB5
    have hs5 := hs.stays (by omega) hst
    have hsz := hs.sz
    have hkey := hK _ _ ((KeepsOthers.of_below hB5).from _) (Keeps.of_below (M := fun k => k < w.heap.size ∨ (w3.heap.size ≤ k ∧ k < w4.heap.size)) hB5 (fun k hk => by have := hM0 k hk; omega)) ⟨va, vb, hs5⟩ ⟨W.heap.size, va, vb, rfl, a2, hs5.a, hs5.b, fun e => by have := (hs.ra.lt _ e).2; omega, fun e => by have := (hs.rb.lt _ e).2; omega, hsz⟩
    have HK := Lib.hid hkey
    clear hkey hK hs5 hst hB5 hs a2 hnew
    gi_wp2_with (first | (refine wpListIn_store_at rfl _ _ _ rfl rfl rfl (a1) ?_))
    exact HK.out
  case body =>
    rintro l pre x a' W hl hloop ⟨va, vb, hs⟩ ⟨b, va', vb', rfl, hbm, hba, hbb, hna, hnb, hbN⟩ hlt
    obtain rfl : va = va' := by
      have := hs.a.symm.trans hba
      simpa using this
    obtain rfl : vb = vb' := by
      have := hs.b.symm.trans hbb
      simpa using this
    obtain ⟨pa, ca, rfl⟩ := row_shape hs.ra
    obtain ⟨pb, cb, rfl⟩ := row_shape hs.rb
    have c1 := hs.a.cell
    have c3 := hs.m.cell
    have HS := Lib.hid hs
    have HBM := Lib.hid hbm
    clear hs hbm hba hbb
    gi_wp2_with fail
    · have hmost : most ≤ (pre.length : Int) := by assumption
      exact ⟨KeepsFrom.refl _ _, rfl, by rw [List.dropLast_concat]; exact ⟨_, _, HS.out⟩, by simp; omega⟩
    · have hmost : (pre.length : Int) < most := by assumption
      have hs := HS.out
      have b1 := hs.a
      have b2 := hs.b
      have r1 := hs.ra
      have r2 := hs.rb
      have hap := hs.ap
      have hWz : w4.heap.size ≤ W.heap.size := hs.sz
      have hx16 := x.2.2
      have hbW : b < W.heap.size := blk_lt HBM.out
      have hok : Two.Ok { lo := w.heap.size, n₀ := w4.heap.size, Ba := w.heap.size + 1, Bb := w.heap.size + 1 + 1, Ta := 36, Tb := 22, ea := 3, eb := 24, sa := 1, sb := 16, va := .slice pa pre.length ca, vb := .slice pb pre.length cb, ka := pre.length, kb := pre.length, xs := pre.map fun x => .int .i64 (x.1 : Int), ys := (rawM (pre.map fun x => x.2.1)).flatten, na := [.int .i64 (x.1 : Int)], nb := x.2.1.map byteV, u1 := .int .i64 (x.1 : Int), u5 := markV x.2.1, W := W } :=
        ⟨hWz, show w.heap.size ≤ w4.heap.size by omega, show w.heap.size ≤ w.heap.size + 1 by omega, show w.heap.size ≤ w.heap.size + 1 + 1 by omega, show w.heap.size + 1 ≠ w.heap.size + 1 + 1 by omega, b1, b2, r1, r2, hap, show (36 : Nat) ≠ 3 by decide, show (36 : Nat) ≠ 24 by decide, show (22 : Nat) ≠ 3 by decide, show (22 : Nat) ≠ 24 by decide⟩
      refine two_appends hok rfl (by kernel_rfl) (fun _ => trivial) (by kernel_rfl) ?hop ?hend
      case hop =>
        intro i vs X o ho hb hA
        have hi : i < 10 := (Array.getElem?_eq_some_iff.1 ho).1
        have hsz' : W.heap.size ≤ X.heap.size := hb.1.size
        have hlX : w4.heap.size ≤ X.heap.size := Nat.le_trans hWz hsz'
        have bA' : i ≠ 9 → Boxed X (w.heap.size + 1) 36 (.slice pa pre.length ca) := hb.2.1
        have bB' : Boxed X (w.heap.size + 1 + 1) 22 (.slice pb pre.length cb) := hb.2.2.1
        have bmX : X.heap[b]? = some (.cells (x.2.1.map byteV).toArray 24 (0, 0)) := (hb.1.block b hbW (Two.row_ne (show b ≠ w.heap.size + 1 by omega) (show b ≠ w.heap.size + 1 + 1 by omega) (fun e => hna e.symm) (fun e => hnb e.symm))).trans HBM.out
        obtain e | e | e | e | e | e | e | e | e | e : i = 0 ∨ i = 1 ∨ i = 2 ∨ i = 3 ∨ i = 4 ∨ i = 5 ∨ i = 6 ∨ i = 7 ∨ i = 8 ∨ i = 9 := by omega
        all_goals subst e
        all_goals
          simp only [List.getElem?_toArray, List.getElem?_cons_zero, List.getElem?_cons_succ, Option.some.injEq] at ho
          subst ho
          simp only [Two.pre, List.getD_cons_zero, List.getD_cons_succ, putL, dstOf, List.foldl_nil, List.foldl_cons, List.getElem?_toArray, List.getElem?_cons_zero, List.getElem?_cons_succ, Option.bind_some, Act.put, List.setIfInBounds_toArray, List.set_cons_zero, List.set_cons_succ]
        · have c := (bA' (by decide)).cell
          gi_wp2_with fail
          exact ⟨_, rfl, World.grownBy.refl _ _, upd_self _ _ _⟩
        · gi_wp2_with fail
          exact ⟨_, rfl, World.grownBy.refl _ _, upd_self _ _ _⟩
        · have h1 : vs 1 = .int .i64 (x.1 : Int) := hA 1 (by decide)
          rw [h1]
          gi_wp2_with fail
          exact ⟨_, rfl, World.grownBy_alloc _ _ _, ⟨X.heap.size, upd_self _ _ _, hsz', World.alloc_heap_new _ _⟩⟩
        · have h0 : vs 0 = .slice pa pre.length ca := hA 0 (by decide)
          obtain ⟨g, h2, hg, hgc⟩ := hA 2 (by decide)
          rw [h0, h2]
          have hr : X.ownsRow w4.heap.size 3 1 (.slice pa pre.length ca) pre.length (pre.map fun x => .int .i64 (x.1 : Int)) := hb.2.2.2.1 rfl
          refine wpListIn_append_own_at _ rfl _ _ 36 rfl w4.heap.size 3 i0 (.int .i64 0) 1 8 Try.underlying36 hi0 hz0 hz1 hz2 rfl (by decide) _ _ _ rfl hr ⟨g, 0, none⟩ 1 1 [.int .i64 (x.1 : Int)] rfl rfl (cell_of_lit hgc) (by simp [Value.oneCell']) (by unfold maxLen; omega) (by omega) (by omega) ?_
          intro v' w' ho' hg' _ hat
          refine ⟨v', rfl, hg', ?_⟩
          have e3 : upd vs 3 v' 3 = v' := upd_self _ _ _
          show _ ∧ _
          rw [e3]
          refine ⟨ho', ?_⟩
          show v'.ownBlock ≠ (Value.slice pb pre.length cb).ownBlock
          rcases hat with e | e
          · obtain ⟨ga, cap, rfl⟩ := ownsRow_succ ho'
            have e' : (Value.slice (some ⟨ga, 0, none⟩) (pre.length + 1) cap).ownBlock = (Value.slice pa pre.length ca).ownBlock := e
            rw [e']
            rcases hap with h0 | h0
            · rw [h0] at e'; cases e'
            · exact h0
          · rw [e]
            intro h0
            have := (r2.lt _ h0.symm).2
            omega
        · have c := bB'.cell
          gi_wp2_with fail
          exact ⟨_, rfl, World.grownBy.refl _ _, upd_self _ _ _⟩
        · have lm := mark_whole bmX hx16
          gi_wp2_with (first | (refine wpListIn_load_at rfl _ _ rfl rfl (lm) ?_))
          exact ⟨_, rfl, World.grownBy.refl _ _, upd_self _ _ _⟩
        · have h1 : vs 5 = markV x.2.1 := hA 5 (by decide)
          have mk := mk_marks1 x.2.1 hx16 X
          rw [h1]
          unfold markV at mk ⊢
          gi_wp2_with (first | (refine wpListIn_msl_at rfl rfl (by go_simp) (mk) ?_))
          exact ⟨_, rfl, World.grownBy_alloc _ _ _, ⟨X.heap.size, upd_self _ _ _, hsz', World.alloc_heap_new _ _⟩⟩
        · have h0 : vs 4 = .slice pb pre.length cb := hA 4 (by decide)
          obtain ⟨g, h2, hg, hgc⟩ := hA 6 (by decide)
          obtain ⟨h3, h3'⟩ := hA 3 (by decide)
          rw [h0, h2]
          have hr : X.ownsRow w4.heap.size 24 16 (.slice pb pre.length cb) pre.length (rawM (pre.map fun x => x.2.1)).flatten := hb.2.2.2.2 rfl
          refine wpListIn_append_own_at _ rfl _ _ 22 rfl w4.heap.size 24 i0' (.agg zeroMark) 16 16 Try.underlying22 hi0' hz0' hz1' hz2' rfl (by decide) _ _ _ rfl hr ⟨g, 0, none⟩ 1 1 (x.2.1.map byteV) rfl (by rw [List.length_map, hx16]) (cell_of_lit hgc) (byteV_one _) (by unfold maxLen; omega) (by omega) (by omega) ?_
          intro v' w' ho' hg' _ hat
          refine ⟨v', rfl, hg', ?_⟩
          have e3 : upd vs 7 v' 7 = v' := upd_self _ _ _
          have e4 : upd vs 7 v' 3 = vs 3 := upd_ne _ _ _ (by decide)
          show _ ∧ _
          rw [e3, e4]
          refine ⟨ho', ?_⟩
          rcases hat with e | e
          · rw [e]; exact fun h => h3' h.symm
          · rw [e]
            intro h0
            have := (h3.lt _ h0.symm).2
            omega
        · have h3 := (hA 3 (by decide)).1
          obtain ⟨g3, cap3, e3⟩ := ownsRow_succ h3
          have b := bA' (by decide)
          have c := b.cell
          have f := b.frozen
          rw [e3]
          gi_wp2_with fail
          refine ⟨undef, rfl, grownBy_setCell' X (w.heap.size + 1) (.slice (some ⟨g3, 0, none⟩) (pre.length + 1) cap3), ?_⟩
          have e8 : upd vs 8 undef 3 = vs 3 := upd_ne _ _ _ (by decide)
          show Boxed (X.setCell ⟨w.heap.size + 1, 0, none⟩ (.slice (some ⟨g3, 0, none⟩) (pre.length + 1) cap3)) (w.heap.size + 1) 36 (upd vs 8 undef 3)
          rw [e8, e3]
          exact b.set _
        · have h3 := hA 3 (by decide)
          have h7 := hA 7 (by decide)
          have h8 : Boxed X (w.heap.size + 1) 36 (vs 3) := hA 8 (by decide)
          obtain ⟨g7, cap7, e7⟩ := ownsRow_succ h7.1
          have c := bB'.cell
          have f := bB'.frozen
          rw [e7]
          gi_wp2_with fail
          refine ⟨undef, rfl, grownBy_setCell' X (w.heap.size + 1 + 1) (.slice (some ⟨g7, 0, none⟩) (pre.length + 1) cap7), ?_⟩
          show Two.Fin _ _ _
          unfold Two.Fin
          rw [upd_ne _ _ _ (show 3 ≠ 9 by decide), upd_ne _ _ _ (show 7 ≠ 9 by decide)]
          have hs := grownBy_setCell' X (w.heap.size + 1 + 1) (.slice (some ⟨g7, 0, none⟩) (pre.length + 1) cap7)
          refine ⟨Two.base_step (k := 9) hb.1 hs, h8.other (by omega) _, ?_, h3.1.kept hs (some_ne (box_ne bB' (show (22 : Nat) ≠ 3 by decide) h3.1)), h7.1.kept hs (some_ne (box_ne bB' (show (22 : Nat) ≠ 24 by decide) h7.1)), fun e => h7.2 e.symm⟩
          rw [e7]
          exact bB'.set _
      case hend =>
        intro vs X hX
        obtain ⟨fb, f4, f5, f6, f7, f8⟩ := hX
        have f1 : W.heap.size ≤ X.heap.size := fb.size
        have f2 : Below w.heap.size W X := fb.below hok
        have f3 : KeepsOthers W X := fb.others hok
        have keep : ∀ k, k < w4.heap.size → k ≠ w.heap.size + 1 → k ≠ w.heap.size + 1 + 1 → X.heap[k]? = W.heap[k]? := fun k h1 h2 h3 =>
          fb.block k (show k < W.heap.size by omega) (Two.row_ne h2 h3 (fun e => by have := (r1.lt k e.symm).1; omega) (fun e => by have := (r2.lt k e.symm).1; omega))
        gi_wp2_with fail
        have kM : Boxed X w.heap.size 3 (.int .i64 most) := (keep w.heap.size (by omega) (by omega) (by omega)).trans hs.m
        have hz3 := HZ3.out
        refine ⟨f3.from _, fun k hk => (have hk' : k < w.heap.size ∨ (w3.heap.size ≤ k ∧ k < w4.heap.size) := hk; keep k (by omega) (by omega) (by omega)), ⟨_, _, f4, f5, ?_, ?_, .inr f8, kM, by simp; omega, by omega, hs.low.trans f2⟩⟩
        · simpa using f6
        · rw [List.map_append, List.map_cons, List.map_nil, rawM_snoc, List.length_append]
          exact f7
  case done =>
    intro D ys W hD hys hI hK
    subst hys
    obtain ⟨va, vb, hs⟩ := hI
    have c1 := hs.a.cell
    have c2 := hs.b.cell
    have hpl := hs.le
    have hsz := hs.sz
    gi_wp2_with fail
    refine wpIn_wide.2 ?_
    go_quiet (fail)
    gi_wp2_with fail
    refine ⟨by simp, .inl ⟨_, _, rfl, run_takeDeferred hK, ?_⟩⟩
    have hst : Stays w4.heap.size W ((W.drewN nq).putObj D (.deferred none)) := (Stays.drewN _ W nq).trans (Stays.putObj _ hK rfl (by omega))
    rw [List.take_of_length_le hpl]
    exact ⟨_, results_tmp2 rfl _ _ _, va, vb, rfl, row_base (hst.row hs.ra) (by omega), row_base (hst.row hs.rb) (by omega), hst.below hs.low (by omega) (Nat.le_refl _)⟩
  case stop =>
    rintro D c pre W hD hp ⟨rfl, ⟨va, vb, hs⟩, hlt⟩ hK
    have c1 := hs.a.cell
    have c2 := hs.b.cell
    have hpl := hs.le
    have hsz := hs.sz
    gi_wp2_with fail
    refine wpIn_wide.2 ?_
    go_quiet (fail)
    gi_wp2_with fail
    refine ⟨by simp, .inl ⟨_, _, rfl, run_takeDeferred hK, ?_⟩⟩
    have hst : Stays w4.heap.size W ((W.drewN nq).putObj D (.deferred none)) := (Stays.drewN _ W nq).trans (Stays.putObj _ hK rfl (by omega))
    have e : (lackL fl ms).take most.toNat = pre.dropLast := by
      have hl : pre.dropLast.length = most.toNat := by simp at hpl ⊢; omega
      rw [← hl]
      exact (List.prefix_iff_eq_take.1 ((List.dropLast_prefix pre).trans hp)).symm
    rw [e]
    exact ⟨_, results_tmp2 rfl _ _ _, va, vb, rfl, row_base (hst.row hs.ra) (by omega), row_base (hst.row hs.rb) (by omega), hst.below hs.low (by omega) (Nat.le_refl _)⟩
end Go.Proofs.Ytehfinjcfjobeaa
