/- Law BloomTells: where the size may be.
   Conditions: those that each theorem names. -/
import Derived.Test.YtehfinjcfjobeaaBlmY
import Derived.Test.YtehfinjcfjobeaaBlmX
import Derived.Test.YtehfinjcfjobeaaCloneM
import Derived.Test.YtehfinjcfjobeaaBlm6
import Derived.IntWalk
import Derived.Deep.CutBlock
import Derived.Deep.DeepCutAuto
namespace Go.Proofs.Ytehfinjcfjobeaa
set_option maxRecDepth 100000
set_option linter.unusedVariables false
set_option linter.unusedSimpArgs false
open Go.RowKit Go.Rg
attribute [local go_sem] max_two max2_int min_two min2_int
set_option linter.unusedVariables false
theorem infoEM : InfoE 24 16 16 := by
  obtain ⟨i0, hi0, hz0, hz1, hz2⟩ := info_parts infoM
  exact ⟨i0, _, hi0, hz0, hz1, hz2, rfl⟩
/-- Blocks of marks made since may change, no others. -/
def TouchT (lo : Nat) (X Y : World) : Prop := Below lo X Y ∧ ∀ (k : Nat) (o : Obj), X.heap[k]? = some o → (∀ c f, o ≠ Obj.cells c 24 f) → Y.heap[k]? = some o
theorem TouchT.of_below {lo : Nat} {X Y : World} (h : Below X.heap.size X Y) (hl : lo ≤ X.heap.size) : TouchT lo X Y := ⟨h.mono hl, fun k o hk _ => (h.block k (blk_lt hk)).trans hk⟩
theorem RowL.touchT {lo lo2 : Nat} {X Y : World} {v : Value} {l : List Value} (h : RowL lo 4 X v l) (hT : TouchT lo2 X Y) : RowL lo 4 Y v l :=
  h.kept (fun g hg => by
    obtain ⟨c, hc⟩ := row_block h.own hg
    rw [hc]
    exact hT.2 g _ hc (fun c' f e => by simp at e))
theorem wpList_appT {w : World} {ops : Array Oper} {rest : List Oper} {o : Oper} {a : Act} {Q : Exit → Act → World → Prop}
    (hg : o.guard = none) (s x : Operand) (t : TypeId) (hop : o.op = Op.call { callee := Callee.builtin Builtin.append, args := #[s, x], argTypes := #[t, t] })
    (h1 : Try.prog.underlying t = some (.slice 24)) {lo : Nat} {v : Value} {css : List (List Value)} (hs : a.eval s = v) (hown : RowF lo 24 16 w v css)
    {xv : Value} {dss : List (List Value)} (hx : a.eval x = xv) (hsl : SlV 16 w xv dss) (hd : Sized 16 dss) (b1 : css.length + dss.length ≤ 1000000) (hlo : lo ≤ w.heap.size)
    (hK : ∀ v' w', RowF lo 24 16 w' v' (css ++ dss) → TouchT lo w w' → wpList Try.prog ops Q rest (a.put o.dst v') w') :
    wpList Try.prog ops Q (o :: rest) a w := by
  refine wpList_appV hg s x t hop 24 16 16 h1 infoEM (by omega) hs hown hx hsl hd (by unfold maxLen; omega) (by omega) hlo ?_
  intro v' w' hr hB hgr _
  refine hK v' w' hr ⟨hB, fun k ob hk hne => ?_⟩
  refine (hgr.block k (blk_lt hk) (fun e => ?_)).trans hk
  obtain ⟨c, hc⟩ := row_block hown.own.2 (g := k) e.symm
  rw [hc] at hk
  exact hne _ _ (Option.some.inj hk).symm
theorem bunion_nil2 (k : Nat) (w : World) : Calls Try.prog 10 #[ptr k, .pointer none] w fun e w' => e = .returned (.tuple #[.pointer none, .int .i64 1]) ∧ w = w' := by
  go_enter Try.func10, Try.ntmps10
  go_wp2_with fail
  go_ret2
  exact ⟨rfl, rfl⟩
theorem addAll_step {z : List UInt8} {A : List Mk} {i : Nat} {x : Mk} (hx : A[i]? = some x) : addB (addAll z (vals (A.take i))) x.1 = addAll z (vals (A.take (i + 1))) := by
  rw [← addAll_snoc, vals_take, vals_take, List.take_add_one, vals_get hx]; rfl
set_option maxHeartbeats 8000000 in
theorem btells_in (n : Nat) (hn8 : 8 ≤ n) (hn1 : n ≤ 1024) (Mo : Int) (hMo : -9223372036854775808 ≤ Mo ∧ Mo ≤ 9223372036854775807) (av bv yv : Value) (A B : List Mk) (M : List UInt8) (w : World) (hA : MarksAt w av (vals A)) (hB : MarksAt w bv (vals B)) (hM : M.length = 16) (hl1 : A.length ≤ 60) (hl2 : B.length ≤ 60) :
    Calls Try.prog 5 #[.agg (caseB ((8 * n : Nat) : Int) Mo av bv M yv).toArray] w fun e w' => e = .returned (.bool true) ∧ Below w.heap.size w w' := by
  have hfit : fitsB ((8 * n : Nat) : Int) := ⟨by omega, by omega, by omega⟩
  obtain ⟨pa, ca, rfl, hca, _⟩ := id hA
  obtain ⟨pb, cb, rfl, hcb, _⟩ := id hB
  rw [vals_length] at hA hB hca hcb ⊢
  rw [vals_length]
  have e1 : decide ((60 : Int) < (A.length : Int)) = false := decide_eq_false (by omega)
  have e2 : decide ((60 : Int) < (B.length : Int)) = false := decide_eq_false (by omega)
  have kN := fun X => bnew_yes n hfit X
  have kF := rbfits_yes _ hfit
  have kG := bfits_yes _ hfit
  have kQ := fun X => bplaces_any (8 * n) hfit M hM X
  have kR := fun X => refplaces4 (8 * n) hfit M hM X
  have kS := fun v ms X => refset_any n hfit v ms X
  have hzl : (List.replicate n (0 : UInt8)).length = n := List.length_replicate
  have hor := or_addAll n (by omega) (vals A) (vals B)
  generalize hz : List.replicate n (0 : UInt8) = z at *
  generalize hq : 8 * n = q at *
  have hq8 : q ≤ 8192 := by omega
  have hq64 : 64 ≤ q := by omega
  have hqm : q % 8 = 0 := by omega
  unfold plV markV at kQ kR
  replace hA := Lib.hid hA
  replace hB := Lib.hid hB
  replace hM := Lib.hid hM
  replace hfit := Lib.hid hfit
  replace kN := Lib.hid kN
  replace kF := Lib.hid kF
  replace kG := Lib.hid kG
  replace kQ := Lib.hid kQ
  replace kR := Lib.hid kR
  replace kS := Lib.hid kS
  replace hor := Lib.hid hor
  replace hq := Lib.hid hq
  replace hz := Lib.hid hz
  replace hqm := Lib.hid hqm
  go_enter Try.func5, Try.ntmps5
  go_wp2_with fail
  refine (first15 _).mono ?_
  rintro e w1 ⟨rfl, hB1⟩
  have BX : CaseAt w.heap.size (q : Int) Mo (.slice pa A.length ca) (.slice pb B.length cb) M yv w1 := ⟨(hB1.block _ (by simp)).trans (World.alloc_heap_new _ _), hM.out⟩
  have BW : Below w.heap.size w w1 := ((Below.refl _ _).alloc (Nat.le_refl _) _).trans (hB1.mono (by simp))
  have k0 := BX.c0
  have k2 := BX.c2
  have k3 := BX.c3
  have hbw : w.heap.size < w1.heap.size := BX.lt
  replace BX := Lib.hid BX
  replace BW := Lib.hid BW
  clear hB1
  go_wp2_with fail
  refine (kN.out w1).mono ?_
  rintro e w2 ⟨kf, vf, rfl, HF, hkf, hgf, hB⟩
  replace BX := Lib.hid (BX.out.below hB)
  replace BW := Lib.hid (BW.out.trans (hB.mono BW.out.size))
  clear hB
  clear k0 k2 k3
  have k0 := BX.out.c0
  go_wp2_with fail
  refine (kF.out w2).mono ?_
  rintro e w' ⟨rfl, rfl⟩
  go_wp2_with fail
  refine (kN.out w2).mono ?_
  rintro e w3 ⟨kg, vg, rfl, HG, hkg, hgg, hB⟩
  have hgfl : ∀ g, vf.ownBlock = some g → g < w2.heap.size := fun g hg => HF.2.lt hg
  have hkfl : kf < w2.heap.size := HF.lt
  replace HF := Lib.hid HF
  replace HG := Lib.hid HG
  have hbxl : w.heap.size < w2.heap.size := BX.out.lt
  have hsz1 : w1.heap.size ≤ w2.heap.size := Nat.le_trans hkf (Nat.le_of_lt hkfl)
  have hsz2 : w2.heap.size ≤ w3.heap.size := hB.size
  replace BX := Lib.hid (BX.out.below hB)
  replace HF := Lib.hid (HF.out.below hB)
  replace BW := Lib.hid (BW.out.trans (hB.mono BW.out.size))
  clear hB
  clear k0
  have k2 := BX.out.c2
  go_wp2_with fail
  clear k2
  go_loopw [12, 130] (fun _ c wr => ∃ i : Nat, i ≤ A.length ∧ c = .int .i64 i ∧ Hid (FltAt kf vf (addAll z (vals (A.take i))) wr) ∧ Hid (Touch (fun b => vf.ownBlock = some b) w3 wr)) (fun _ c _ => A.length - (intOf c).toNat)
  case atStart => exact ⟨0, by omega, rfl, HF, Lib.hid (Touch.refl _ _)⟩
  case round =>
    obtain ⟨i, hi, rfl, HR, HT⟩ := hrel
    have hBr : Below w1.heap.size w3 wr := HT.out.below (n := w1.heap.size) hgf (by omega)
    by_cases hil : i < A.length
    · have e1 : decide ((i : Int) < (A.length : Int)) = true := decide_eq_true (by omega)
      obtain ⟨x, hx⟩ : ∃ x, A[i]? = some x := ⟨_, List.getElem?_eq_getElem hil⟩
      have hmr : MarksAt wr (.slice pa A.length ca) (vals A) := hA.out.below (BW.out.trans (hBr.mono (by omega)))
      obtain ⟨g, o, hpe, _, hld⟩ := hmr.load (vals16 A) (vals_get hx)
      subst hpe
      have hL := hld wr (Below.refl _ _)
      have bm := boxedM wr x.1 x.2
      have a1 := bm.a1
      have l1 := bm.l1
      have f5 := HR.out.below bm.B
      have t5 := HT.out.trans (Touch.of_below (M := fun b => vf.ownBlock = some b) bm.B) (fun _ _ h => h)
      have hlen : (addAll z (vals (A.take i))).length = n := by rw [addAll_length, hzl]
      have hcall := badd_any kf vf _ x.1 _ f5 (by rw [hlen, hq.out]; exact hfit.out) x.2
      rw [addAll_step hx] at hcall
      unfold markV at hcall
      replace hcall := Lib.hid hcall
      replace t5 := Lib.hid t5
      clear f5 bm hld hmr hx hlen hBr HR HT
      go_wp2_with (first | (refine wpList_load_at rfl _ _ rfl rfl (hL) ?_) | (refine wpList_store_at rfl _ _ _ rfl rfl rfl (a1) ?_) | (refine wpList_load_at rfl _ _ rfl rfl (l1) ?_))
      refine hcall.out.mono ?_
      rintro e w6 ⟨rfl, f6, t6⟩
      have T6 := Lib.hid (t5.out.trans t6 (fun _ _ h => h))
      replace f6 := Lib.hid f6
      clear t6 hL a1 l1 t5
      go_wp2_with fail
      go_roundw
      case rel => exact ⟨i + 1, by omega, by go_num, f6, T6⟩
      case measure => simp [intOf]; omega
    · have e1 : decide ((i : Int) < (A.length : Int)) = false := decide_eq_false (by omega)
      have hR := HR.out
      rw [List.take_of_length_le (by omega)] at hR
      have hFl : (addAll z (vals A)).length = n := by rw [addAll_length, hzl]
      obtain ⟨F, hF⟩ : ∃ F, addAll z (vals A) = F := ⟨_, rfl⟩
      rw [hF] at hR hFl
      replace HG := Lib.hid (HG.out.touch HT.out (fun h => by have := hgfl _ h; omega) (fun g hg h => by have := hgfl _ h; have := hgg _ hg; omega))
      replace BX := Lib.hid (BX.out.kept (HT.out.block _ BX.out.lt (fun h => by have := hgf _ h; omega)))
      replace BW := Lib.hid (BW.out.trans (hBr.mono (by omega)))
      have hszr : w3.heap.size ≤ wr.heap.size := HT.out.size
      have k3 := BX.out.c3
      replace hR := Lib.hid hR
      replace hF := Lib.hid hF
      clear HF HT HR hBr
      generalize wr = w4 at *
      go_wp2_with fail
      clear k3 e1
      go_loopw [14, 141] (fun _ c ws => ∃ i : Nat, i ≤ B.length ∧ c = .int .i64 i ∧ Hid (FltAt kg vg (addAll z (vals (B.take i))) ws) ∧ Hid (Touch (fun b => vg.ownBlock = some b) w4 ws)) (fun _ c _ => B.length - (intOf c).toNat)
      case atStart => exact ⟨0, by omega, rfl, HG, Lib.hid (Touch.refl _ _)⟩
      case round =>
        obtain ⟨i, hi, rfl, HR, HT⟩ := hrel
        have hBr : Below w2.heap.size w4 wr := HT.out.below (n := w2.heap.size) hgg (by omega)
        by_cases hil : i < B.length
        · have e1 : decide ((i : Int) < (B.length : Int)) = true := decide_eq_true (by omega)
          obtain ⟨x, hx⟩ : ∃ x, B[i]? = some x := ⟨_, List.getElem?_eq_getElem hil⟩
          have hmr : MarksAt wr (.slice pb B.length cb) (vals B) := hB.out.below (BW.out.trans (hBr.mono (by omega)))
          obtain ⟨g, o, hpe, _, hld⟩ := hmr.load (vals16 B) (vals_get hx)
          subst hpe
          have hL := hld wr (Below.refl _ _)
          have bm := boxedM wr x.1 x.2
          have a1 := bm.a1
          have l1 := bm.l1
          have f5 := HR.out.below bm.B
          have t5 := HT.out.trans (Touch.of_below (M := fun b => vg.ownBlock = some b) bm.B) (fun _ _ h => h)
          have hlen : (addAll z (vals (B.take i))).length = n := by rw [addAll_length, hzl]
          have hcall := badd_any kg vg _ x.1 _ f5 (by rw [hlen, hq.out]; exact hfit.out) x.2
          rw [addAll_step hx] at hcall
          unfold markV at hcall
          replace hcall := Lib.hid hcall
          replace t5 := Lib.hid t5
          clear f5 bm hld hmr hx hlen hBr HR HT
          go_wp2_with (first | (refine wpList_load_at rfl _ _ rfl rfl (hL) ?_) | (refine wpList_store_at rfl _ _ _ rfl rfl rfl (a1) ?_) | (refine wpList_load_at rfl _ _ rfl rfl (l1) ?_))
          refine hcall.out.mono ?_
          rintro e w6 ⟨rfl, f6, t6⟩
          have T6 := Lib.hid (t5.out.trans t6 (fun _ _ h => h))
          replace f6 := Lib.hid f6
          clear t6 hL a1 l1 t5
          go_wp2_with fail
          go_roundw
          case rel => exact ⟨i + 1, by omega, by go_num, f6, T6⟩
          case measure => simp [intOf]; omega
        · have e1 : decide ((i : Int) < (B.length : Int)) = false := decide_eq_false (by omega)
          have hG := HR.out
          rw [List.take_of_length_le (by omega)] at hG
          have hGl : (addAll z (vals B)).length = n := by rw [addAll_length, hzl]
          have hu : orL F (addAll z (vals B)) = addAll z (vals A ++ vals B) := by rw [← hF.out]; exact hor.out
          obtain ⟨G, hGe⟩ : ∃ G, addAll z (vals B) = G := ⟨_, rfl⟩
          rw [hGe] at hG hGl hu
          replace hR := Lib.hid (hR.out.touch HT.out (fun h => by have := hgg _ h; omega) (fun g hg h => by have := hgg _ h; have := hgfl _ hg; omega))
          replace BX := Lib.hid (BX.out.kept (HT.out.block _ BX.out.lt (fun h => by have := hgg _ h; omega)))
          replace BW := Lib.hid (BW.out.trans (hBr.mono (by omega)))
          have hsz4 : w4.heap.size ≤ wr.heap.size := HT.out.size
          replace hG := Lib.hid hG
          replace hGe := Lib.hid hGe
          replace hu := Lib.hid hu
          clear HT HR hBr HG e1
          generalize wr = w5 at *
          go_wp2_with fail
          refine (bunion_any kf kg vf vg F G w5 hR.out hG.out (by rw [hFl, hGl]) (by omega) (by omega)).mono ?_
          rintro e w6 ⟨ku, vu, rfl, HU, -, -, hB6⟩
          rw [hu.out] at HU
          replace HU := Lib.hid HU
          replace BX := Lib.hid (BX.out.below hB6)
          replace hR := Lib.hid (hR.out.below hB6)
          replace BW := Lib.hid (BW.out.trans (hB6.mono BW.out.size))
          clear hB6
          have kA := hA.out.below BW.out
          have kB := hB.out.below BW.out
          have hbl : ∀ l : List UInt8, l.length = n → (boolsV (bitsOf l)).length = q := fun l hl => by rw [boolsV_length, bitsOf_length, hl, hq.out]
          have stB : ∀ (j : Nat) (v : Value) (X Y : World) (l : List Value), (if j = 10 then TouchT w6.heap.size X Y else if j = 13 then TouchT w6.heap.size X Y else Below X.heap.size X Y) → RowL w6.heap.size 4 X v l → RowL w6.heap.size 4 Y v l := by
            intro j v X Y l hG h
            split at hG
            · exact h.touchT hG
            · split at hG
              · exact h.touchT hG
              · exact h.below hG
          replace kA := Lib.hid kA
          replace kB := Lib.hid kB
          replace hbl := Lib.hid hbl
          replace stB := Lib.hid stB
          go_wp2_with fail
          refine wp_region_use [[], [0], [], [2], [1, 3], [], [5], [], [], [8], [7, 9], [], [11], [10, 12], [6, 13], [4], [14]]
            (fun X => Below w6.heap.size w6 X) (fun _ _ => True) (fun j X Y => if j = 10 then TouchT w6.heap.size X Y else if j = 13 then TouchT w6.heap.size X Y else Below X.heap.size X Y) (fun i => if i = 7 then 10 else if i = 10 then 13 else if i = 13 then 14 else i)
            (by kernel_rfl) (by kernel_rfl) (by kernel_rfl) (by kernel_rfl) (by decide) (by kernel_rfl) (Below.drew (Below.refl _ _)) (fun _ => trivial)
            (fun j X Y _ hC _ hG => by
              split at hG
              · exact hC.trans hG.1
              · split at hG
                · exact hC.trans hG.1
                · exact hC.trans (hG.mono hC.size))
            (fun _ _ _ _ _ _ _ _ _ _ _ _ => trivial) ?_
          iterate 4
            (apply use_fx
             · intro vs X hC hB hA
               try simp only [List.cons_append, List.nil_append, List.getD_cons_zero, List.getD_cons_succ, List.forall_mem_cons, List.not_mem_nil, false_implies, implies_true, and_true] at hA
               simp only [List.getD_cons_zero, List.getD_cons_succ, putL, dstOf, List.foldl_nil, List.foldl_cons, List.getElem?_toArray, List.getElem?_cons_zero, List.getElem?_cons_succ, Option.bind_some, Act.put, List.setIfInBounds_toArray, List.set_cons_zero, List.set_cons_succ]
               try simp only [hA]
               have ad0 := (BX.out.below hC).c0
               have ad1 := (BX.out.below hC).c2
               go_wp2_with fail
               first
               | exact ⟨_, rfl, Below.refl _ _, rfl⟩
             simp only [List.cons_append, List.nil_append])
          refine use_pr (fun v X => RowL w6.heap.size 4 X v (boolsV (bitsOf F))) (fun j v X Y _ _ _ _ _ _ hG h => stB.out j v X Y _ hG h) ?_ ?_
          · intro vs X hC hB hA
            try simp only [List.cons_append, List.nil_append, List.getD_cons_zero, List.getD_cons_succ, List.forall_mem_cons, List.not_mem_nil, false_implies, implies_true, and_true] at hA
            simp only [List.getD_cons_zero, List.getD_cons_succ, putL, dstOf, List.foldl_nil, List.foldl_cons, List.getElem?_toArray, List.getElem?_cons_zero, List.getElem?_cons_succ, Option.bind_some, Act.put, List.setIfInBounds_toArray, List.set_cons_zero, List.set_cons_succ]
            try simp only [hA]
            go_wp2_with fail
            refine (kS.out (.slice pa A.length ca) (vals A) X (kA.out.below hC) (vals16 A) (by rw [vals_length]; omega)).mono ?_
            rintro e w' ⟨vb, rfl, hb, hBb⟩
            rw [hF.out] at hb
            have hb2 := hb.lower hC.size
            replace hb2 := Lib.hid hb2
            replace hBb := Lib.hid hBb
            clear hb
            go_wp2_with fail
            exact ⟨_, rfl, hBb.out, hb2.out⟩
          simp only [List.cons_append, List.nil_append]
          iterate 2
            (apply use_fx
             · intro vs X hC hB hA
               try simp only [List.cons_append, List.nil_append, List.getD_cons_zero, List.getD_cons_succ, List.forall_mem_cons, List.not_mem_nil, false_implies, implies_true, and_true] at hA
               simp only [List.getD_cons_zero, List.getD_cons_succ, putL, dstOf, List.foldl_nil, List.foldl_cons, List.getElem?_toArray, List.getElem?_cons_zero, List.getElem?_cons_succ, Option.bind_some, Act.put, List.setIfInBounds_toArray, List.set_cons_zero, List.set_cons_succ]
               try simp only [hA]
               have ad0 := (BX.out.below hC).c0
               go_wp2_with fail
               first
               | exact ⟨_, rfl, Below.refl _ _, rfl⟩
             simp only [List.cons_append, List.nil_append])
          refine use_pr (fun v X => RowF w6.heap.size 24 16 X v []) ?_ ?_ ?_
          · rintro j v X Y _ _ _ hu hC _ hG h
            have h2 := hu (by decide)
            by_cases e : j = 10
            · subst e; exact absurd rfl h2.1
            · by_cases e : j = 13
              · subst e; exact absurd (by decide) h2.2
              · rw [if_neg (by assumption), if_neg e] at hG
                exact h.below hG
          · intro vs X hC hB hA
            try simp only [List.cons_append, List.nil_append, List.getD_cons_zero, List.getD_cons_succ, List.forall_mem_cons, List.not_mem_nil, false_implies, implies_true, and_true] at hA
            simp only [List.getD_cons_zero, List.getD_cons_succ, putL, dstOf, List.foldl_nil, List.foldl_cons, List.getElem?_toArray, List.getElem?_cons_zero, List.getElem?_cons_succ, Option.bind_some, Act.put, List.setIfInBounds_toArray, List.set_cons_zero, List.set_cons_succ]
            try simp only [hA]
            go_wp2_with fail
            exact ⟨_, rfl, (Below.refl _ _).alloc (Nat.le_refl _) _, OwnV.made 24 16 X [] (Sized.nil _) (by decide), fun g hg => by cases hg; exact hC.size⟩
          simp only [List.cons_append, List.nil_append]
          iterate 2
            (apply use_fx
             · intro vs X hC hB hA
               try simp only [List.cons_append, List.nil_append, List.getD_cons_zero, List.getD_cons_succ, List.forall_mem_cons, List.not_mem_nil, false_implies, implies_true, and_true] at hA
               simp only [List.getD_cons_zero, List.getD_cons_succ, putL, dstOf, List.foldl_nil, List.foldl_cons, List.getElem?_toArray, List.getElem?_cons_zero, List.getElem?_cons_succ, Option.bind_some, Act.put, List.setIfInBounds_toArray, List.set_cons_zero, List.set_cons_succ]
               try simp only [hA]
               have ad0 := (BX.out.below hC).c2
               go_wp2_with fail
               first
               | exact ⟨_, rfl, Below.refl _ _, rfl⟩
             simp only [List.cons_append, List.nil_append])
          refine use_pr (fun v X => RowF w6.heap.size 24 16 X v (rawM (vals A))) ?_ ?_ ?_
          · rintro j v X Y _ hjk hjp hu hC _ hG h
            have h2 := hu (by decide)
            by_cases e : j = 10
            · exact absurd e hjk
            · by_cases e : j = 13
              · subst e; exact absurd rfl h2.1
              · rw [if_neg (by assumption), if_neg e] at hG
                exact h.below hG
          · intro vs X hC hB hA
            try simp only [List.cons_append, List.nil_append, List.getD_cons_zero, List.getD_cons_succ, List.forall_mem_cons, List.not_mem_nil, false_implies, implies_true, and_true] at hA
            simp only [List.getD_cons_zero, List.getD_cons_succ, putL, dstOf, List.foldl_nil, List.foldl_cons, List.getElem?_toArray, List.getElem?_cons_zero, List.getElem?_cons_succ, Option.bind_some, Act.put, List.setIfInBounds_toArray, List.set_cons_zero, List.set_cons_succ]
            try simp only [hA]
            have h7 := Lib.hid hA.1
            have hmA := Lib.hid (marksAt_iff.1 (kA.out.below hC))
            have hsz := hC.size
            clear hA
            go_wp2_with (at_builtin; refine wpList_appT rfl _ _ 22 rfl Try.underlying22 rfl h7.out rfl hmA.out (rawM_sized (vals16 A)) (by rw [rawM_length, vals_length]; simp; omega) hsz ?_)
            intro v' w' hr hT
            go_wp2_with fail
            exact ⟨_, rfl, hT, hr⟩
          simp only [List.cons_append, List.nil_append]
          iterate 2
            (apply use_fx
             · intro vs X hC hB hA
               try simp only [List.cons_append, List.nil_append, List.getD_cons_zero, List.getD_cons_succ, List.forall_mem_cons, List.not_mem_nil, false_implies, implies_true, and_true] at hA
               simp only [List.getD_cons_zero, List.getD_cons_succ, putL, dstOf, List.foldl_nil, List.foldl_cons, List.getElem?_toArray, List.getElem?_cons_zero, List.getElem?_cons_succ, Option.bind_some, Act.put, List.setIfInBounds_toArray, List.set_cons_zero, List.set_cons_succ]
               try simp only [hA]
               have ad0 := (BX.out.below hC).c3
               go_wp2_with fail
               first
               | exact ⟨_, rfl, Below.refl _ _, rfl⟩
             simp only [List.cons_append, List.nil_append])
          refine use_pr (fun v X => RowF w6.heap.size 24 16 X v (rawM (vals A) ++ rawM (vals B))) ?_ ?_ ?_
          · rintro j v X Y _ hjk hjp hu hC _ hG h
            by_cases e : j = 10
            · subst e; exact absurd (by decide) hjp
            · by_cases e : j = 13
              · exact absurd e hjk
              · rw [if_neg (by assumption), if_neg e] at hG
                exact h.below hG
          · intro vs X hC hB hA
            try simp only [List.cons_append, List.nil_append, List.getD_cons_zero, List.getD_cons_succ, List.forall_mem_cons, List.not_mem_nil, false_implies, implies_true, and_true] at hA
            simp only [List.getD_cons_zero, List.getD_cons_succ, putL, dstOf, List.foldl_nil, List.foldl_cons, List.getElem?_toArray, List.getElem?_cons_zero, List.getElem?_cons_succ, Option.bind_some, Act.put, List.setIfInBounds_toArray, List.set_cons_zero, List.set_cons_succ]
            try simp only [hA]
            have h10 := Lib.hid hA.1
            have hmB := Lib.hid (marksAt_iff.1 (kB.out.below hC))
            have hsz := hC.size
            clear hA
            go_wp2_with (at_builtin; refine wpList_appT rfl _ _ 22 rfl Try.underlying22 rfl h10.out rfl hmB.out (rawM_sized (vals16 B)) (by rw [rawM_length, vals_length, rawM_length, vals_length]; omega) hsz ?_)
            intro v' w' hr hT
            go_wp2_with fail
            exact ⟨_, rfl, hT, hr⟩
          simp only [List.cons_append, List.nil_append]
          refine use_pr (fun v X => RowL w6.heap.size 4 X v (boolsV (bitsOf (addAll z (vals A ++ vals B))))) (fun j v X Y _ _ _ _ _ _ hG h => stB.out j v X Y _ hG h) ?_ ?_
          · intro vs X hC hB hA
            try simp only [List.cons_append, List.nil_append, List.getD_cons_zero, List.getD_cons_succ, List.forall_mem_cons, List.not_mem_nil, false_implies, implies_true, and_true] at hA
            simp only [List.getD_cons_zero, List.getD_cons_succ, putL, dstOf, List.foldl_nil, List.foldl_cons, List.getElem?_toArray, List.getElem?_cons_zero, List.getElem?_cons_succ, Option.bind_some, Act.put, List.setIfInBounds_toArray, List.set_cons_zero, List.set_cons_succ]
            try simp only [hA]
            have h13 := hA.2
            have hsA : ∀ l : List UInt8 → UInt8, True := fun _ => trivial
            have hm : MarksAt X (vs 13) (vals A ++ vals B) := marksAt_iff.2 (by unfold rawM at h13 ⊢; rw [List.map_append]; exact h13.at)
            have h16 : Marks16 (vals A ++ vals B) := fun m hm => (List.mem_append.1 hm).elim (vals16 A m) (vals16 B m)
            replace hm := Lib.hid hm
            replace h16 := Lib.hid h16
            clear hA h13 hsA
            go_wp2_with fail
            refine (kS.out (vs 13) (vals A ++ vals B) X hm.out h16.out (by rw [List.length_append, vals_length, vals_length]; omega)).mono ?_
            rintro e w' ⟨vb, rfl, hb, hBb⟩
            have hb2 := hb.lower hC.size
            replace hb2 := Lib.hid hb2
            replace hBb := Lib.hid hBb
            clear hb
            go_wp2_with fail
            exact ⟨_, rfl, hBb.out, hb2.out⟩
          simp only [List.cons_append, List.nil_append]
          refine use_pr (fun v X => RowL w6.heap.size 4 X v (boolsV (bitsOf F))) (fun j v X Y _ _ _ _ _ _ hG h => stB.out j v X Y _ hG h) ?_ ?_
          · intro vs X hC hB hA
            try simp only [List.cons_append, List.nil_append, List.getD_cons_zero, List.getD_cons_succ, List.forall_mem_cons, List.not_mem_nil, false_implies, implies_true, and_true] at hA
            simp only [List.getD_cons_zero, List.getD_cons_succ, putL, dstOf, List.foldl_nil, List.foldl_cons, List.getElem?_toArray, List.getElem?_cons_zero, List.getElem?_cons_succ, Option.bind_some, Act.put, List.setIfInBounds_toArray, List.set_cons_zero, List.set_cons_succ]
            try simp only [hA]
            replace hA := Lib.hid hA
            go_wp2_with fail
            exact ⟨_, rfl, Below.refl _ _, hA.out⟩
          simp only [List.cons_append, List.nil_append]
          refine use_pr (fun v X => RowL w6.heap.size 4 X v (boolsV (bitsOf (addAll z (vals A ++ vals B))))) (fun j v X Y _ _ _ _ _ _ hG h => stB.out j v X Y _ hG h) ?_ ?_
          · intro vs X hC hB hA
            try simp only [List.cons_append, List.nil_append, List.getD_cons_zero, List.getD_cons_succ, List.forall_mem_cons, List.not_mem_nil, false_implies, implies_true, and_true] at hA
            simp only [List.getD_cons_zero, List.getD_cons_succ, putL, dstOf, List.foldl_nil, List.foldl_cons, List.getElem?_toArray, List.getElem?_cons_zero, List.getElem?_cons_succ, Option.bind_some, Act.put, List.setIfInBounds_toArray, List.set_cons_zero, List.set_cons_succ]
            try simp only [hA]
            replace hA := Lib.hid hA
            go_wp2_with fail
            exact ⟨_, rfl, Below.refl _ _, hA.out⟩
          simp only [List.cons_append, List.nil_append]
          refine use_nil ?_
          intro vs X hC hA
          rw [(fun (l : List Oper) (h : l.length = 17) => (by rw [h]; rfl : List.range l.length = [0, 1, 2, 3, 4, 5, 6, 7, 8, 9, 10, 11, 12, 13, 14, 15, 16])) _ rfl]
          simp only [List.getD_cons_zero, List.getD_cons_succ, putL, dstOf, List.foldl_nil, List.foldl_cons, List.getElem?_toArray, List.getElem?_cons_zero, List.getElem?_cons_succ, Option.bind_some, Act.put, List.setIfInBounds_toArray, List.set_cons_zero, List.set_cons_succ]
          have h15 := hA 15 (by decide) (by decide)
          have h16 := hA 16 (by decide) (by decide)
          have hsz7 : w6.heap.size ≤ X.heap.size := hC.size
          clear hA stB kS
          generalize vs 15 = vw at *
          generalize vs 16 = vv at *
          obtain ⟨g1, c1, rfl, hc1⟩ := h15.shape0 (by rw [hbl.out F hFl]; omega)
          rw [hbl.out F hFl] at h15 hc1 ⊢
          replace h15 := Lib.hid h15
          replace h16 := Lib.hid h16
          replace BX := Lib.hid (BX.out.below hC)
          replace hR := Lib.hid (hR.out.below hC)
          replace HU := Lib.hid (HU.out.below hC)
          replace BW := Lib.hid (BW.out.trans (hC.mono BW.out.size))
          clear hC
          generalize X = w7 at *
          have hcnt : cntB F = (List.range q).countP (bitB F) := by rw [cnt_count, hFl, hq.out]
          replace hcnt := Lib.hid hcnt
          go_wp2_with fail
          go_loopw [19, 21, 172] (fun nn _ c wr => ∃ i : Nat, i ≤ q ∧ c = .int .i64 i ∧ nn = .int .i64 (((List.range i).countP (bitB F) : Nat) : Int) ∧ wr = w7) (fun _ _ c _ => q - (intOf c).toNat)
          case atStart => exact ⟨0, by omega, rfl, rfl, rfl⟩
          case round =>
            obtain ⟨i, hi, rfl, rfl, rfl⟩ := hrel
            by_cases hil : i < q
            · have e1 : decide ((i : Int) < (q : Int)) = true := decide_eq_true (by omega)
              have e1n : decide (i < q) = true := decide_eq_true hil
              have i1 : (i : Int) < (q : Int) := by omega
              have hgt := h15.out.get (boolsV_get (l := F) (q := i) (by rw [hFl, hq.out]; exact hil))
              have hst : (List.range (i + 1)).countP (bitB F) = (List.range i).countP (bitB F) + (if bitB F i then 1 else 0) := by
                rw [List.range_succ, List.countP_append]; simp [List.countP_cons]
              have hle : (List.range i).countP (bitB F) ≤ i := by have := List.countP_le_length (p := bitB F) (l := List.range i); simpa using this
              obtain ⟨m, hm⟩ : ∃ m, (List.range i).countP (bitB F) = m := ⟨_, rfl⟩
              rw [hm] at hst hle ⊢
              have m0 : (m : Int) ≤ 8192 := by omega
              replace hst := Lib.hid hst
              replace hm := Lib.hid hm
              cases hb : bitB F i with
              | true =>
                rw [hb] at hgt hst
                replace hb := Lib.hid hb
                go_wp2_with fail
                go_roundw
                case rel => exact ⟨i + 1, by omega, by go_num, by rw [hst.out]; simp, by first | rfl | trivial⟩
                case measure => simp [intOf]; omega
              | false =>
                rw [hb] at hgt hst
                replace hb := Lib.hid hb
                go_wp2_with fail
                go_roundw
                case rel => exact ⟨i + 1, by omega, by go_num, by rw [hst.out]; simp, by first | rfl | trivial⟩
                case measure => simp [intOf]; omega
            · have e1 : decide ((i : Int) < (q : Int)) = false := decide_eq_false (by omega)
              have e1n : decide (i < q) = false := decide_eq_false hil
              obtain rfl : q = i := by omega
              rw [← hcnt.out]
              generalize wr = w7 at *
              clear e1 e1n hcnt
              have hVl : (addAll z (vals A ++ vals B)).length = n := by rw [addAll_length, hzl]
              obtain ⟨V, hV⟩ : ∃ V, addAll z (vals A ++ vals B) = V := ⟨_, rfl⟩
              rw [hV] at h16 HU hVl
              go_upto_region 31 with fail
              refine bt_r31 n q hq.out hn8 hn1 Mo _ _ _ M F V hM.out hFl hVl w.heap.size kf ku g1 c1 vf vu vv w6.heap.size w7 BX.out hR.out HU.out h15.out h16.out _ _ _ _ _ _ _ _ _ _ _ _ _ _ _ _ _ _ _ _ _ _ _ _ _ _ _ _ _ _ _ _ _ _ _ _ _ _ _ _ _ _ _ _ _ _ _ _ _ _ _ _ _ _ _ _ _ _ _ _ _ _ _ _ _ _ _ _ _ _ _ _ _ _ _ _ _ _ _ _ _ _ _ _ _ _ _ _ _ _ _ _ _ _ _ _ _ _ _ _ _ _ _ _ _ _ _ _ _ _ _ _ _ _ _ _ _ _ _ _ _ _ _ _ _ _ _ _ _ _ _ _ _ _ _ _ _ _ _ _ _ _ _ _ _ _ _ _ _ _ _ _ _ _ _ _ _ _ _ _ _ _ _ _ _ _ _ _ _ _ _ _ _ _ _ _ _ _ _ _ _ _ _ _ _ _ _ _ _ _ _ _ _ _ _ _ _ _ _ _ _ _ _ _ _ _ _ _ _ _ _ _ _ _ _ _ _ _ _ _ _ _ _ _ _ _ _ _ _ _ _ _ _ _ _ _ _ _ _ _ _ _ _ _ _ _ _ _ _ _ _ _ _ _ _ _ _ _ _ _ _ _ _ _ _ _ _ _ _ _ _ _ _ _ _ _ _ _ _ _ _ _ _ _ _ _ _ _ _ _ _ _ _ _ _ _ _ _ _ _ _ _ _ _ _ _ _ _ _ _ _ _ _ _ _ _ _ _ _ _ _ _ ?_
              intro v180 v181 v182 v183 v184 v185 v186 v187 v188 v189 v190 v191 v192 v193 v194 v195 v196 v197 v198 v199 v200 v201 v202 v203 v204 v205 v206 v207 v208 v209 v210 v211 v212 v213 v214 v215 v216 v217 v218 v219 v220 v221 v222 v223 v224 v225 v226 v227 v228 v229 v230 v231 v232 v233 v234 v235 v236 v237 w8 hX
              clear h16 HU
              have hsz8 : w7.heap.size ≤ w8.heap.size := hX.size
              replace BX := Lib.hid (BX.out.below hX)
              replace hR := Lib.hid (hR.out.below hX)
              replace h15 := Lib.hid (h15.out.below hX)
              replace BW := Lib.hid (BW.out.trans (hX.mono BW.out.size))
              clear hX
              have lc1 := BX.out.c1
              have k3 := BX.out.c3
              obtain ⟨k, hk, hk100⟩ : ∃ k : Nat, max 0 (min Mo 100) = (k : Int) ∧ k ≤ 100 := ⟨(max 0 (min Mo 100)).toNat, by omega, by omega⟩
              have hll := lackL_len F B
              have hlk := lawlacks_any kf vf F pb cb B (k : Int) w8 hR.out (hB.out.below BW.out) (by rw [hFl, hq.out]; exact hfit.out) (by omega) (by omega)
              rw [Int.toNat_natCast] at hlk
              replace hlk := Lib.hid hlk
              go_wp2_with fail
              clear hk lc1 k3
              refine hlk.out.mono ?_
              rintro e w9 ⟨va, vb, rfl, ra, rb, hB9⟩
              clear hlk
              obtain ⟨T, hT⟩ : ∃ T, (lackL F B).take k = T := ⟨_, rfl⟩
              have hTl : T.length = min k (lackL F B).length := by rw [← hT, List.length_take]
              rw [hT] at ra rb
              rw [rawM_pairs, show T.length = (T.map fun x => x.2).length by simp] at rb
              have hmT := row_marks rb
              have hra : RowL w8.heap.size 3 w9 va (T.map fun x => .int .i64 (x.1 : Int)) := ⟨by rw [List.length_map]; exact row_base ra (Nat.zero_le _), fun g hg => (ra.lt g hg).1⟩
              have hsa := hra.at
              obtain ⟨p1, c1', rfl, _⟩ := id hsa
              obtain ⟨p2, c2', rfl, _⟩ := id hmT
              have hlen1 : (T.map fun x : Nat × Mk => (Value.int .i64 (x.1 : Int))).length = T.length := List.length_map _
              have hlen2 : (vals (T.map fun x => x.2)).length = T.length := by rw [vals_length, List.length_map]
              rw [hlen1] at hsa ⊢
              rw [hlen2] at hmT ⊢
              have hTb : T.length ≤ 100 := by omega
              replace hsa := Lib.hid hsa
              replace hmT := Lib.hid hmT
              replace hT := Lib.hid hT
              replace hTl := Lib.hid hTl
              clear hra ra rb hlen1 hlen2
              replace BX := Lib.hid (BX.out.below hB9)
              replace hR := Lib.hid (hR.out.below hB9)
              replace h15 := Lib.hid (h15.out.below hB9)
              replace BW := Lib.hid (BW.out.trans (hB9.mono BW.out.size))
              clear hB9
              have k3 := BX.out.c3
              have hkB := hB.out.below BW.out
              have hfF : fitsB ((8 * F.length : Nat) : Int) := by rw [hFl, hq.out]; exact hfit.out
              replace hkB := Lib.hid hkB
              replace hfF := Lib.hid hfF
              go_upto_block 6 with fail
              refine bt_b6 q k F B T g1 c1 c1' c2' cb w6.heap.size p1 p2 pb w9 hfF.out hl2 hk100 hT.out h15.out hsa.out hmT.out hkB.out _ _ _ _ _ _ _ _ _ _ _ _ _ _ _ _ _ _ _ _ _ _ _ _ _ _ _ _ _ _ _ _ _ _ _ _ _ _ _ _ _ _ _ _ _ _ _ _ _ _ _ _ _ _ _ _ _ _ _ _ _ _ _ _ _ _ _ _ _ _ _ _ _ _ _ _ _ _ _ _ _ _ _ _ _ _ _ _ _ _ _ _ _ _ _ _ _ _ _ _ _ _ _ _ _ _ _ _ _ _ _ _ _ _ _ _ _ _ _ _ _ _ _ _ _ _ _ _ _ _ _ _ _ _ _ _ _ _ _ _ _ _ _ _ _ _ _ _ _ _ _ _ _ _ _ _ _ _ _ _ _ _ _ _ _ _ _ _ _ _ _ _ _ _ _ _ _ _ _ _ _ _ _ _ _ _ _ _ _ _ _ _ _ _ _ _ _ _ _ _ _ _ _ _ _ _ _ _ _ _ _ _ _ _ _ _ _ _ _ _ _ _ _ _ _ _ _ _ _ _ _ _ _ _ _ _ _ _ _ _ _ _ _ _ _ _ _ _ _ _ _ _ _ _ _ _ _ _ _ _ _ _ _ _ _ _ _ _ _ _ _ _ _ _ _ _ _ _ _ _ _ _ _ _ _ _ _ _ _ _ _ _ _ _ _ _ _ _ _ _ _ _ _ _ _ _ _ _ _ _ _ _ _ _ _ _ _ _ _ _ _ ?_
              intro v2 v26 v27 v254 v255 v256 v257 v258 v259 v260 v261 v262 v263 v264 v265 v266 v267 v268 v269 v270 v271 v272 v273 v274 v275 v276 v277 v278 v279 v280 v281 v282 v283 v284 v285 v286 v287 v288 v289 w12 hX
              clear k3 hkB hsa hmT
              replace BX := Lib.hid (BX.out.below hX)
              replace hR := Lib.hid (hR.out.below hX)
              replace BW := Lib.hid (BW.out.trans (hX.mono BW.out.size))
              clear hX
              have k0 := BX.out.c0
              obtain ⟨r, hr⟩ : ∃ r, q % 8192 = r := ⟨_, rfl⟩
              have r8 : r % 8 = 0 := by have := hqm.out; omega
              have f1 : (q : Int) % 8192 = (r : Int) := by omega
              have f2 : (r : Int) % 8 = 0 := by omega
              have r0 : (0 : Int) ≤ (r : Int) := Int.natCast_nonneg _
              have r1 : (r : Int) ≤ 8191 := by omega
              have q0 : (0 : Int) ≤ (q : Int) := Int.natCast_nonneg _
              have hne : r + 64 ≠ q := by omega
              replace hr := Lib.hid hr
              by_cases hs : r + 64 ≤ 8192
              · obtain ⟨n2, hn2⟩ : ∃ n2, 8 * n2 = r + 64 := ⟨(r + 64) / 8, by omega⟩
                have e9 : ((8 * n2 : Nat) : Int) = (r : Int) + 64 := by omega
                have hfit2 : fitsB ((8 * n2 : Nat) : Int) := ⟨by omega, by omega, by omega⟩
                have kn2 := fun X => bnew_yes n2 hfit2 X
                rw [e9] at kn2
                replace kn2 := Lib.hid kn2
                replace hn2 := Lib.hid hn2
                replace e9 := Lib.hid e9
                clear hfit2
                go_wp2_with fail
                clear k0
                refine (kn2.out w12).mono ?_
                rintro e w13 ⟨k2, v2, rfl, HO, -, -, hB13⟩
                replace HO := Lib.hid HO
                replace BX := Lib.hid (BX.out.below hB13)
                replace hR := Lib.hid (hR.out.below hB13)
                replace BW := Lib.hid (BW.out.trans (hB13.mono BW.out.size))
                clear hB13
                go_wp2_with fail
                refine (bunion_no kf k2 vf v2 F (List.replicate n2 0) w13 hR.out HO.out (by rw [hFl, List.length_replicate]; have := hq.out; have := hn2.out; omega) (by omega) (by rw [List.length_replicate]; have := hn2.out; omega)).mono ?_
                rintro e w14 ⟨rfl, hB14⟩
                replace BX := Lib.hid (BX.out.below hB14)
                replace HO := Lib.hid (HO.out.below hB14)
                replace BW := Lib.hid (BW.out.trans (hB14.mono BW.out.size))
                clear hB14
                have lc0 : ∀ X, Below w14.heap.size w14 X → X.cell? ⟨w.heap.size, 0, none⟩ = some (.int .i64 (q : Int)) := fun X hX => (BX.out.below hX).c0
                have kb : ∀ X, Below w14.heap.size w14 X → Calls Try.prog 16 #[ptr k2] X fun e w' => e = .returned (.int .i64 ((r : Int) + 64)) ∧ X = w' := fun X hX => by
                  have := bbits_any k2 v2 _ X (HO.out.below hX) (by rw [List.length_replicate]; have := hn2.out; omega)
                  rwa [List.length_replicate, e9.out] at this
                have e10 : ((r : Int) + 64 == (q : Int)) = false := by simpa using (by omega : ¬ ((r : Int) + 64 = (q : Int)))
                replace kb := Lib.hid kb
                go_wp2_with fail
                refine wp_region_calm_lit (by kernel_rfl) (by kernel_rfl) ?_
                repeat
                  first
                  | (apply calm_want
                     · first | rfl | (go_simp; done)
                     · intro X hX
                       go_simp
                       first
                         | done
                         | rfl
                         | (refine ⟨trivial, ?_⟩; (with_reducible exact calls_calm_same hX (kb.out X hX)); done)
                         | ((with_reducible exact calls_calm_same hX (kb.out X hX)); done)
                     intro K hK
                     go_simp
                     refine hK _ ?_
                     clear hK K)
                  | (apply calm_skip
                     · first | rfl | (go_simp; done)
                     intro K hK
                     go_simp
                     refine hK _ ?_
                     clear hK K)
                refine wpQuiet_nil ?_
                intro X hX
                have hB15 := BW.out.trans (hX.mono BW.out.size)
                clear lc0 kb hX e10
                go_wp2_with fail
                go_ret
                exact ⟨rfl, hB15⟩
              · have hfit2 : ¬ fitsB ((r : Int) + 64) := fun h => by have := h.2.1; omega
                have kn2 := fun X => bnew_no _ hfit2 X
                replace kn2 := Lib.hid kn2
                clear hfit2
                go_wp2_with fail
                clear k0
                refine (kn2.out w12).mono ?_
                rintro e w' ⟨rfl, rfl⟩
                go_wp2_with fail
                refine (bunion_nil2 kf w12).mono ?_
                rintro e w' ⟨rfl, rfl⟩
                have lc0 : ∀ X, Below w12.heap.size w12 X → X.cell? ⟨w.heap.size, 0, none⟩ = some (.int .i64 (q : Int)) := fun X hX => (BX.out.below hX).c0
                go_wp2_with fail
                refine wp_region_calm_lit (by kernel_rfl) (by kernel_rfl) ?_
                repeat
                  first
                  | (apply calm_want
                     · first | rfl | (go_simp; done)
                     · intro X hX
                       go_simp
                       first
                         | done
                         | rfl
                         | (refine ⟨trivial, ?_⟩; (fail); done)
                         | ((fail); done)
                     intro K hK
                     go_simp
                     refine hK _ ?_
                     clear hK K)
                  | (apply calm_skip
                     · first | rfl | (go_simp; done)
                     intro K hK
                     go_simp
                     refine hK _ ?_
                     clear hK K)
                refine wpQuiet_nil ?_
                intro X hX
                have hB15 := BW.out.trans (hX.mono BW.out.size)
                clear lc0 hX
                go_wp2_with fail
                go_ret
                exact ⟨rfl, hB15⟩
end Go.Proofs.Ytehfinjcfjobeaa
