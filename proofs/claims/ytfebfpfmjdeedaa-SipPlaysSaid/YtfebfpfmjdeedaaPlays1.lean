/- The walk of the law SipPlays.
   Conditions: those that the theorem names. -/
import Derived.Test.YtfebfpfmjdeedaaPlays0
import Derived.Test.YtfebfpfmjdeedaaSums0
namespace Go.Proofs.Ytfebfpfmjdeedaa
set_option linter.unusedVariables false
set_option linter.unusedSimpArgs false
open Go.RowKit Go.Rg
attribute [local go_sem] ba_app
theorem info40 : (Try.prog.info? 40).map (fun i => (i.zero, i.size, i.bytes)) = some (some (.pointer none), 1, 8) := by kernel_rfl
theorem info9 : (Try.prog.info? 9).map (fun i => (i.zero, i.size, i.bytes)) = some (some (.string ByteArray.empty), 1, 16) := by kernel_rfl
set_option maxRecDepth 100000 in
set_option maxHeartbeats 4000000 in
theorem plays_walk (A B : UInt64) (v : Value) (os : List PlayOp) (w : World) (hr : OpsAt w v os) :
    Calls Try.prog 6 #[keyV A B, v] w fun e w' => e = .returned (.bool true) ∧ Below w.heap.size w w' := by
  obtain ⟨p, cap, rfl, hf⟩ := hr
  have HF := Lib.hid hf
  clear hf
  go_enter Try.func6, Try.ntmps6
  go_wp2_with fail
  have k0 : (w.alloc (.cells #[.int .u64 (U A), .int .u64 (U B)] 24)).heap[w.heap.size]? = some (.cells #[.int .u64 (U A), .int .u64 (U B)] 24 (0, 0)) := World.alloc_heap_new _ _
  have hB0 : Below w.heap.size w (w.alloc (.cells #[.int .u64 (U A), .int .u64 (U B)] 24)) := (Below.refl _ _).alloc (Nat.le_refl _) _
  generalize w.alloc (.cells #[.int .u64 (U A), .int .u64 (U B)] 24) = w0 at *
  refine (first_any w0).mono ?_
  rintro e w1 ⟨rfl, hB1⟩
  have kl := (Array.getElem?_eq_some_iff.1 k0).1
  have K1 := Lib.hid ((hB1.block _ kl).trans k0)
  have hz1 : w.heap.size + 1 ≤ w1.heap.size := Nat.le_trans kl hB1.size
  have hBw := hB0.trans (hB1.mono hB0.size)
  have kx0 : w1.cell? ⟨w.heap.size, 0, none⟩ = some (.int .u64 (U A)) := by simp [World.cell?, K1.out]
  have kx1 : w1.cell? ⟨w.heap.size, 1, none⟩ = some (.int .u64 (U B)) := by simp [World.cell?, K1.out]
  clear hB0 hB1 k0 kl
  go_wp2_with fail
  refine (new_any A B w1).mono ?_
  rintro e w2 ⟨b0, rfl, hb0, hs0, hB2⟩
  have K2 := Lib.hid ((hB2.block _ (Array.getElem?_eq_some_iff.1 K1.out).1).trans K1.out)
  have hBw2 := hBw.trans (hB2.mono hBw.size)
  have hz2 : w.heap.size + 1 ≤ w2.heap.size := Nat.le_trans hz1 hB2.size
  clear kx0 kx1 K1 hBw
  go_wp2_with fail
  have g1 : ((w2.alloc (.cells #[ptr b0] 40)).alloc (.cells #[str []] 9)).heap[w2.heap.size]? = some (.cells #[ptr b0] 40 (0, 0)) := (Below.heap_alloc _ _ _ (by simp)).trans (World.alloc_heap_new _ _)
  have g2 : ((w2.alloc (.cells #[ptr b0] 40)).alloc (.cells #[str []] 9)).heap[w2.heap.size + 1]? = some (.cells #[str []] 9 (0, 0)) := by
    rw [show w2.heap.size + 1 = (w2.alloc (.cells #[ptr b0] 40)).heap.size by simp]
    exact World.alloc_heap_new _ _
  have hA : Below w2.heap.size w2 ((w2.alloc (.cells #[ptr b0] 40)).alloc (.cells #[str []] 9)) := ((Below.refl _ _).alloc (Nat.le_refl _) _).alloc (by simp) _
  have hp0 : PlaySt A B (w.heap.size + 1) (.slice (some ⟨w2.heap.size, 0, none⟩) 1 1) (.slice (some ⟨w2.heap.size + 1, 0, none⟩) 1 1) [b0] [[]] [[]] ((w2.alloc (.cells #[ptr b0] 40)).alloc (.cells #[str []] 9)) :=
    PlaySt.first A B _ b0 _ _ _ ((hA.block _ (Array.getElem?_eq_some_iff.1 hs0).1).trans hs0) g1 g2 (by omega) (by omega) (by omega)
  have hBw3 := hBw2.trans (hA.mono hBw2.size)
  have K3 := (hA.block _ (Array.getElem?_eq_some_iff.1 K2.out).1).trans K2.out
  generalize (w2.alloc (.cells #[ptr b0] 40)).alloc (.cells #[str []] 9) = w3 at *
  have HP0 := Lib.hid hp0
  have K := Lib.hid K3
  clear g1 g2 hA hp0 K3 K2 hs0 hBw2 hB2
  go_loopw [5, 6, 21] (fun va vb c wr => ∃ (i : Nat) (bs : List Nat) (ss : List (List UInt8)), i ≤ os.length ∧ i ≤ 40 ∧ c = .int .i64 i ∧ bs.length ≤ i + 1 ∧ Hid (PlaySt A B (w.heap.size + 1) va vb bs ss ss wr) ∧ Hid (∀ s ∈ ss, s.length ≤ 300 * i) ∧ Below (w.heap.size + 1) w3 wr) (fun _ _ c _ => os.length - (intOf c).toNat)
  case atStart => exact ⟨0, [b0], [[]], by omega, by omega, rfl, by simp, HP0, Lib.hid (by simp), Below.refl _ _⟩
  case round =>
    obtain ⟨i, bs, ss, hi, hi40, rfl, hbl, hP, hS, hBr⟩ := hrel
    by_cases hil : i < os.length
    · have e1 : decide (i < os.length) = true := decide_eq_true (by omega)
      obtain ⟨g, o, u, q, rfl, hg, hq, hc0, hc1, hc2, hu, hqk, hqa⟩ := HF.out i hil
      have hBo : Below w.heap.size w wr := hBw3.trans (hBr.mono (Nat.le_succ _))
      have hc0' : wr.cell? ⟨g, o + i * 3, none⟩ = some (.int .i64 q.kind) := (hBo.cell (p := ⟨g, o + i * 3, none⟩) hg).trans hc0
      have hc1' : wr.cell? ⟨g, o + i * 3 + 1, none⟩ = some (.int .i64 q.at_) := (hBo.cell (p := ⟨g, o + i * 3 + 1, none⟩) hg).trans hc1
      have hc2' : wr.cell? ⟨g, o + i * 3 + 2, none⟩ = some u := (hBo.cell (p := ⟨g, o + i * 3 + 2, none⟩) hg).trans hc2
      obtain ⟨qu, cu, rfl, hfu⟩ := id hu
      have HU := Lib.hid (hu.below hBo)
      have HUw := Lib.hid hu
      clear hc0 hc1 hc2 hu hfu
      obtain ⟨ga, ca, gb, cb, rfl, rfl, lga, lgb, lga', lgb'⟩ := hP.out.shapes
      by_cases h40 : 40 ≤ i
      · have e2 : decide (40 ≤ (i : Int)) = true := decide_eq_true (by omega)
        go_wp2_with fail
        go_ret
        exact ⟨rfl, hBo.alloc hBo.size _⟩
      have e40 : decide (40 ≤ (i : Int)) = false := decide_eq_false (by omega)
      by_cases h300 : 300 < q.b.length
      · have e2 : decide (300 < (q.b.length : Int)) = true := decide_eq_true (by omega)
        go_wp2_with fail
        go_ret
        exact ⟨rfl, hBo.alloc hBo.size _⟩
      · have e2 : decide (300 < (q.b.length : Int)) = false := decide_eq_false (by omega)
        have hpos := hP.out.pos
        have E1 : IntKind.u64.wrap (bs.length : Int) = (bs.length : Int) := by rw [wrap_u64]; omega
        have NZ : ((bs.length : Int) = 0) = False := propext ⟨fun h => by omega, False.elim⟩
        have NZ' : ((bs.length : Int) == 0) = false := beq_eq_false_iff_ne.2 (by omega)
        obtain ⟨k, hk⟩ : ∃ k : Nat, (IntKind.u64.wrap q.at_).tmod (bs.length : Int) = k := ⟨((IntKind.u64.wrap q.at_).tmod (bs.length : Int)).toNat, (Int.toNat_of_nonneg (Int.tmod_nonneg _ (by rw [wrap_u64]; omega))).symm⟩
        have hkl : k < bs.length := by have := Int.tmod_lt_of_pos (IntKind.u64.wrap q.at_) (show (0 : Int) < (bs.length : Int) by omega); omega
        obtain ⟨d, hd⟩ : ∃ d : Nat, (IntKind.u64.wrap q.kind).tmod 3 = d := ⟨((IntKind.u64.wrap q.kind).tmod 3).toNat, (Int.toNat_of_nonneg (Int.tmod_nonneg _ (by rw [wrap_u64]; omega))).symm⟩
        have hd3 : d < 3 := by have := Int.tmod_lt_of_pos (IntKind.u64.wrap q.kind) (show (0 : Int) < 3 by omega); omega
        have E2 : IntKind.i64.wrap (k : Int) = (k : Int) := IntWalk.i64_in _ (by omega)
        obtain ⟨b, hb⟩ : ∃ b, bs[k]? = some b := ⟨_, List.getElem?_eq_getElem hkl⟩
        obtain ⟨s, hs⟩ : ∃ s, ss[k]? = some s := ⟨_, List.getElem?_eq_getElem (by have := hP.out.ls; omega)⟩
        have hsl : s.length ≤ 300 * i := hS.out s (List.mem_of_getElem? hs)
        generalize hw4 : wr.alloc (.cells #[.int .i64 q.kind, .int .i64 q.at_, .slice qu q.b.length cu] 50) = w4
        have hA4 : Below wr.heap.size wr w4 := by rw [← hw4]; exact (Below.refl _ _).alloc (Nat.le_refl _) _
        have hop : w4.heap[wr.heap.size]? = some (.cells #[.int .i64 q.kind, .int .i64 q.at_, .slice qu q.b.length cu] 50 (0, 0)) := by rw [← hw4]; exact World.alloc_heap_new _ _
        have HP4 := Lib.hid (hP.out.grow hA4)
        have HU4 := Lib.hid (HU.out.below hA4)
        have hlo := hP.out.lo k b hb
        have hl1 : ∀ X, Below w4.heap.size w4 X → X.cell? ⟨ga, k, none⟩ = some (ptr b) := fun X hX => (HP4.out.grow hX).ptrAt rfl hb
        have hl2 : ∀ X, Below w4.heap.size w4 X → X.cell? ⟨gb, k, none⟩ = some (str s) := fun X hX => (HP4.out.grow hX).strAt rfl hs
        have hl3 : ∀ X, Below w4.heap.size w4 X → X.cell? ⟨wr.heap.size, 2, none⟩ = some (.slice qu q.b.length cu) := fun X hX => by
          have := (hX.block _ (Array.getElem?_eq_some_iff.1 hop).1).trans hop
          simp [World.cell?, this]
        have HOP := Lib.hid hop
        have hwr : w.heap.size + 1 ≤ wr.heap.size := by omega
        have hB4 : Below (w.heap.size + 1) w3 w4 := hBr.trans (hA4.mono hwr)
        have hblt : b < wr.heap.size := (Array.getElem?_eq_some_iff.1 (hP.out.sum k b s hb hs)).1
        have hw4s := hA4.size
        have HW4 := Lib.hid hw4
        clear hw4 hop hA4
        obtain rfl | rfl | rfl : d = 0 ∨ d = 1 ∨ d = 2 := by omega
        · go_wp2_with fail
          rw [HW4.out]
          refine wp_region_calm_tail 6 (by kernel_rfl) (by kernel_rfl) ?_
          simp only [List.take_succ_cons, List.take_zero, List.drop_succ_cons, List.drop_zero]
          repeat
            first
            | (apply calm_want
               · first | rfl | (go_simp; done)
               · intro X hX
                 go_simp
                 first
                   | done
                   | rfl
                   | (refine ⟨trivial, ?_⟩; (fail); done)
                   | ((fail); done)
               intro K hK
               go_simp
               refine hK _ ?_
               clear hK K)
            | (apply calm_skip
               · first | rfl | (go_simp; done)
               intro K hK
               go_simp
               refine hK _ ?_
               clear hK K)
          refine wpQuiet_nil ?_
          intro X hX
          go_wp2_with fail
          refine (write_any _ q.b _ 60 b X ((HP4.out.grow hX).sum k b s hb hs) (HU4.out.below hX) (fun q' n c e h0 => by have := HUw.out.block e h0; omega) (by rw [Sp.write_n, show (newP A B).n = 0 from rfl]; omega)).mono ?_
          rintro e w5 ⟨⟨v5, rfl⟩, hb5, ho5⟩
          rw [← Sp.write_append] at hb5
          have HP5 := Lib.hid ((HP4.out.grow hX).wrote k b s q.b hb hs ho5 hb5)
          have hB5 : Below (w.heap.size + 1) w3 w5 := (hB4.trans (hX.mono (by omega))).trans (ho5.below'.mono hlo)
          have hX5 := Nat.le_trans hX.size (Nat.le_of_eq ho5.size.symm)
          have hop5 : w5.heap[wr.heap.size]? = some (.cells #[.int .i64 q.kind, .int .i64 q.at_, .slice qu q.b.length cu] 50 (0, 0)) := (ho5.block _ (by omega)).trans ((hX.block _ (Array.getElem?_eq_some_iff.1 HOP.out).1).trans HOP.out)
          have HU5 := Lib.hid (HUw.out.below (hBw3.trans (hB5.mono (Nat.le_succ _))))
          have n1 : ∀ X, Below w5.heap.size w5 X → X.cell? ⟨gb, k, none⟩ = some (str s) := fun X hX => (HP5.out.grow hX).strAt rfl hs
          have n2 : ∀ X, Below w5.heap.size w5 X → X.cell? ⟨wr.heap.size, 2, none⟩ = some (.slice qu q.b.length cu) := fun X hX => by
            have := (hX.block _ (Array.getElem?_eq_some_iff.1 hop5).1).trans hop5
            simp [World.cell?, this]
          have n3 : ∀ X, Below w5.heap.size w5 X → (convert 37 9 (.slice qu q.b.length cu)).run Try.prog X = .ok (str q.b) X := fun X hX => conv_bytes (HU5.out.below hX)
          have n4 : (9223372036854775807 < s.length + q.b.length) = False := propext ⟨fun h => by omega, False.elim⟩
          clear hl1 hl2 hl3 hX hop5 hb5 ho5
          go_wp2_with fail
          refine wp_region_calm_tail 9 (by kernel_rfl) (by kernel_rfl) ?_
          simp only [List.take_succ_cons, List.take_zero, List.drop_succ_cons, List.drop_zero]
          repeat
            first
            | (apply calm_want
               · first | rfl | (go_simp; done)
               · intro X hX
                 go_simp
                 first
                   | done
                   | rfl
                   | (refine ⟨trivial, ?_⟩; (fail); done)
                   | ((fail); done)
               intro K hK
               go_simp
               refine hK _ ?_
               clear hK K)
            | (apply calm_skip
               · first | rfl | (go_simp; done)
               intro K hK
               go_simp
               refine hK _ ?_
               clear hK K)
          refine wpQuiet_nil ?_
          intro X hX
          have hfr := (HP5.out.grow hX).strFree rfl k
          go_wp2_with fail
          have HQ := Lib.hid ((HP5.out.grow hX).stored k gb _ cb rfl (s ++ q.b))
          have hB6 : Below (w.heap.size + 1) w3 (X.setCell ⟨gb, k, none⟩ (str (s ++ q.b))) := (hB5.trans (hX.mono (by omega))).setCell (by simpa using lgb') _
          have hz6 : w.heap.size + 1 ≤ (X.setCell ⟨gb, k, none⟩ (str (s ++ q.b))).heap.size := by have := hX.size; show _ ≤ (X.heap.modify _ _).size; rw [Array.size_modify]; omega
          generalize X.setCell ⟨gb, k, none⟩ (str (s ++ q.b)) = w6 at *
          obtain ⟨s', hs'e⟩ : ∃ s', s' = s ++ q.b := ⟨_, rfl⟩
          obtain ⟨us, huse⟩ : ∃ us, us = ss.set k (s ++ q.b) := ⟨_, rfl⟩
          rw [← huse] at HQ
          have hs' : us[k]? = some s' := by rw [huse, hs'e]; exact List.getElem?_set_self (List.getElem?_eq_some_iff.1 hs).1
          have hs'l : s'.length ≤ 13000 := by rw [hs'e, List.length_append]; omega
          have hul : Hid (∀ s ∈ us, s.length ≤ 300 * (i + 1)) := Lib.hid (by
            intro t ht
            rw [huse] at ht
            rcases List.mem_or_eq_of_mem_set ht with h | rfl
            · have := hS.out t h; omega
            · rw [List.length_append]; omega)
          have hcl : bs.length ≤ i + 1 + 1 := by omega
          have hb' := hb
          clear huse hs'e n1 n2 n3 n4 hfr HP5 hB5 hX5 HU5 hX
          have m1 : ∀ X, Below w6.heap.size w6 X → X.cell? ⟨ga, k, none⟩ = some (ptr b) := fun X hX => (HQ.out.grow hX).ptrAt rfl hb'
          have m2 : ∀ X, Below w6.heap.size w6 X → X.cell? ⟨gb, k, none⟩ = some (str s') := fun X hX => (HQ.out.grow hX).strAt rfl hs'
          have m3 : ∀ X, Below w6.heap.size w6 X → X.cell? ⟨w.heap.size, 0, none⟩ = some (.int .u64 (U A)) ∧ X.cell? ⟨w.heap.size, 1, none⟩ = some (.int .u64 (U B)) := by
            intro X hX
            have hk6 := (hB6.block w.heap.size (Nat.lt_succ_self _)).trans K.out
            have := (hX.block _ (Array.getElem?_eq_some_iff.1 hk6).1).trans hk6
            exact ⟨by simp [World.cell?, this], by simp [World.cell?, this]⟩
          have m4 : ∀ X, Below w6.heap.size w6 X → Calls Try.prog 18 #[ptr b] X fun e w' => e = .returned (.int .u64 (U (hashS A B s'))) ∧ Below X.heap.size X w' := fun X hX => sum_any _ 60 b X ((HQ.out.grow hX).sum k b s' hb' hs')
          have m5 : ∀ X, Below w6.heap.size w6 X → Calls Try.prog 20 #[ptr b] X fun e w' => e = .returned (.int .i64 (s'.length : Int)) ∧ X = w' := fun X hX => by
            have := len_any _ 60 b X ((HQ.out.grow hX).sum k b s' hb' hs')
            rw [Sp.write_n, show (newP A B).n = 0 from rfl, Nat.zero_add] at this
            exact this
          have hkn : k < bs.length := by have := (List.getElem?_eq_some_iff.1 hb').1; omega
          have q1 : (U (hashS A B s') != U (hashS A B s')) = false := by simp
          have q2 : ((s'.length : Int) != (s'.length : Int)) = false := by simp
          clear HP4 HU4 HOP HW4 HUw HU hP hS
          refine wp_region_calm_lit (by kernel_rfl) (by kernel_rfl) ?_
          repeat
            first
            | (apply calm_want
               · first | rfl | (go_simp; done)
               · intro X hX
                 go_simp
                 first
                   | done
                   | rfl
                   | (refine ⟨trivial, ?_⟩; (first | exact calls_calm hX (m4 X hX) | exact calls_calm hX (plain_hash A B s' X (by omega)) | exact calls_calm_same hX (m5 X hX)); done)
                   | ((first | exact calls_calm hX (m4 X hX) | exact calls_calm hX (plain_hash A B s' X (by omega)) | exact calls_calm_same hX (m5 X hX)); done)
               intro K hK
               go_simp
               refine hK _ ?_
               clear hK K)
            | (apply calm_skip
               · first | rfl | (go_simp; done)
               intro K hK
               go_simp
               refine hK _ ?_
               clear hK K)
          refine wpQuiet_nil ?_
          intro X hX
          have HE := Lib.hid (HQ.out.grow hX)
          have hBE := hB6.trans (hX.mono (show w.heap.size + 1 ≤ w6.heap.size by omega))
          clear m1 m2 m3 m4 m5 HQ hX
          go_wp2_with fail
          exact ⟨⟨i + 1, bs, us, by omega, by omega, by go_num, hcl, HE, hul, hBE⟩, by simp [intOf]; omega⟩
        · go_wp2_with fail
          rw [HW4.out]
          obtain ⟨i0, hi0, hz0, hz1, hz2⟩ := info_parts info40
          obtain ⟨i9, hi9, hy0, hy1, hy2⟩ := info_parts info9
          have hga : ga < w4.heap.size := by omega
          have hgb : gb < w4.heap.size := by omega
          have hold : ∀ j, (if j = 7 then some ga else if j = 14 then some gb else none : Option Nat) = none ∨ ∃ g, (if j = 7 then some ga else if j = 14 then some gb else none : Option Nat) = some g ∧ g < w4.heap.size ∧ w.heap.size + 1 ≤ g := by
            intro j
            split
            · exact .inr ⟨ga, rfl, hga, lga'⟩
            · split
              · exact .inr ⟨gb, rfl, hgb, lgb'⟩
              · exact .inl rfl
          have hkeep : ∀ (j b' : Nat) (o : Obj) (X Y : World), X.grownBy Y (if j = 7 then some ga else if j = 14 then some gb else none) → w4.heap.size ≤ b' → X.heap[b']? = some o → Y.heap[b']? = some o := by
            intro j b' o X Y hG hb' ho
            refine (hG.block b' (Array.getElem?_eq_some_iff.1 ho).1 ?_).trans ho
            rcases hold j with e | ⟨g, e, hg, _⟩
            · rw [e]; exact fun h => by cases h
            · rw [e]; rintro ⟨⟩; omega
          have HOLD := Lib.hid hold
          have HKEEP := Lib.hid hkeep
          clear hold hkeep hl1 hl2 hl3
          refine wp_region_steps [[], [], [], [1, 2], [3], [4], [5, 4], [0, 6, 4], [], [], [], [9, 10], [11], [12], [8, 13, 12], [7, 0, 1], [14, 8, 9]]
            (fun X => Below (w.heap.size + 1) w4 X ∧ ∀ (j : Nat) b s, bs[j]? = some b → ss[j]? = some s → X.heap[b]? = some (.cells ((newP A B).write s).vals.toArray 60 (0, 0)))
            (fun j X => (j = 4 ∨ j = 7 → X.ownsRow (w.heap.size + 1) 40 1 (.slice (some ⟨ga, 0, none⟩) bs.length ca) bs.length (bs.map ptr)) ∧ (j = 12 ∨ j = 14 → X.ownsRow (w.heap.size + 1) 9 1 (.slice (some ⟨gb, 0, none⟩) bs.length cb) bs.length (ss.map str)))
            (fun j X Y => X.grownBy Y (if j = 7 then some ga else if j = 14 then some gb else none))
            (by kernel_rfl) (by kernel_rfl) (by kernel_rfl) (by decide) ⟨Below.drew (Below.refl _ _), HP4.out.sum⟩ (fun _ => ⟨fun _ => HP4.out.rowA.drew, fun _ => HP4.out.rowB.drew⟩) ?hCG ?hBG ?hst
          case hCG =>
            intro j X Y hj hC hB hG
            refine ⟨hC.1.grown hG (by have := hC.1.size; omega) ?_, ?_⟩
            · intro g hg
              rcases HOLD.out j with e | ⟨g', e, _, h⟩
              · rw [e] at hg; cases hg
              · rw [e] at hg; cases hg; exact h
            · intro j' b' t hb' ht
              have := hC.2 j' b' t hb' ht
              refine (hG.block b' (Array.getElem?_eq_some_iff.1 this).1 ?_).trans this
              intro e
              by_cases h7 : j = 7
              · rw [if_pos h7] at e
                cases e
                obtain ⟨c, hc⟩ := row_block (hB.1 (.inr h7)) rfl
                rw [hc] at this; cases this
              · rw [if_neg h7] at e
                by_cases h14 : j = 14
                · rw [if_pos h14] at e
                  cases e
                  obtain ⟨c, hc⟩ := row_block (hB.2 (.inr h14)) rfl
                  rw [hc] at this; cases this
                · rw [if_neg h14] at e; cases e
          case hBG =>
            intro i' j X Y hi' hj hji hpre hC hBj hG hBi
            refine ⟨fun h => row_other (hBi.1 h) hG ?_, fun h => row_other (hBi.2 h) hG ?_⟩
            · intro g hg
              by_cases h7 : j = 7
              · exfalso
                subst h7
                rcases h with rfl | rfl
                · exact hpre (by decide)
                · exact hji rfl
              · rw [if_neg h7] at hg
                by_cases h14 : j = 14
                · rw [if_pos h14] at hg
                  cases hg
                  obtain ⟨c, hc⟩ := row_block (hBj.2 (.inr h14)) rfl
                  exact ⟨_, _, _, hc, by decide⟩
                · rw [if_neg h14] at hg; cases hg
            · intro g hg
              by_cases h7 : j = 7
              · rw [if_pos h7] at hg
                cases hg
                obtain ⟨c, hc⟩ := row_block (hBj.1 (.inr h7)) rfl
                exact ⟨_, _, _, hc, by decide⟩
              · rw [if_neg h7] at hg
                by_cases h14 : j = 14
                · exfalso
                  subst h14
                  rcases h with rfl | rfl
                  · exact hpre (by decide)
                  · exact hji rfl
                · rw [if_neg h14] at hg; cases hg
          case hst =>
            repeat
              (apply steps_fx
               · intro vs X hC hB hA
                 try simp only [List.getD_cons_zero, List.getD_cons_succ, List.forall_mem_cons, List.not_mem_nil, false_implies, implies_true, and_true] at hA
                 simp only [List.getD_cons_zero, List.getD_cons_succ, putL, dstOf, List.foldl_nil, List.foldl_cons, List.getElem?_toArray, List.getElem?_cons_zero, List.getElem?_cons_succ, Option.bind_some, Act.put, List.setIfInBounds_toArray, List.set_cons_zero, List.set_cons_succ]
                 try simp only [hA]
                 go_wp2_with fail
                 exact ⟨_, rfl, World.grownBy.refl _ _, rfl⟩
               simp only [List.cons_append, List.nil_append])
            apply steps_fx
            · intro vs X hC hB hA
              try simp only [List.getD_cons_zero, List.getD_cons_succ, List.forall_mem_cons, List.not_mem_nil, false_implies, implies_true, and_true] at hA
              simp only [List.getD_cons_zero, List.getD_cons_succ, putL, dstOf, List.foldl_nil, List.foldl_cons, List.getElem?_toArray, List.getElem?_cons_zero, List.getElem?_cons_succ, Option.bind_some, Act.put, List.setIfInBounds_toArray, List.set_cons_zero, List.set_cons_succ]
              try simp only [hA]
              have hc := (hB.1 (.inl rfl)).cellAt k (by omega)
              rw [List.getElem?_map, hb, Option.map_some] at hc
              go_wp2_with fail
              exact ⟨_, rfl, World.grownBy.refl _ _, rfl⟩
            simp only [List.cons_append, List.nil_append]
            refine steps_pr (fun v X => ∃ b', v = ptr b' ∧ w4.heap.size ≤ b' ∧ X.heap[b']? = some (.cells ((newP A B).write s).vals.toArray 60 (0, 0))) (fun j v X Y _ _ _ _ _ hG ⟨b', h1, h2, h3⟩ => ⟨b', h1, h2, HKEEP.out j b' _ X Y hG h2 h3⟩) ?_ ?_
            · intro vs X hC hB hA
              try simp only [List.getD_cons_zero, List.getD_cons_succ, List.forall_mem_cons, List.not_mem_nil, false_implies, implies_true, and_true] at hA
              simp only [List.getD_cons_zero, List.getD_cons_succ, putL, dstOf, List.foldl_nil, List.foldl_cons, List.getElem?_toArray, List.getElem?_cons_zero, List.getElem?_cons_succ, Option.bind_some, Act.put, List.setIfInBounds_toArray, List.set_cons_zero, List.set_cons_succ]
              try simp only [hA]
              go_wp2_with fail
              refine (clone_any _ 60 b X (hC.2 k b s hb hs)).mono ?_
              rintro e w' ⟨b', rfl, hb', hc', hBc⟩
              go_wp2_with fail
              exact ⟨_, rfl, grown_of_below hBc _, b', rfl, Nat.le_trans hC.1.size hb', hc'⟩
            simp only [List.cons_append, List.nil_append]
            refine steps_pr (fun v X => ∃ b', LitAt w4.heap.size (ptr b') 40 v X ∧ w4.heap.size ≤ b' ∧ X.heap[b']? = some (.cells ((newP A B).write s).vals.toArray 60 (0, 0)))
              (fun j v X Y _ _ _ _ _ hG ⟨b', ⟨g, h1, h2, h4⟩, h3, h5⟩ => ⟨b', ⟨g, h1, h2, HKEEP.out j g _ X Y hG h2 h4⟩, h3, HKEEP.out j b' _ X Y hG h3 h5⟩) ?_ ?_
            · intro vs X hC hB hA
              try simp only [List.getD_cons_zero, List.getD_cons_succ, List.forall_mem_cons, List.not_mem_nil, false_implies, implies_true, and_true] at hA
              simp only [List.getD_cons_zero, List.getD_cons_succ, putL, dstOf, List.foldl_nil, List.foldl_cons, List.getElem?_toArray, List.getElem?_cons_zero, List.getElem?_cons_succ, Option.bind_some, Act.put, List.setIfInBounds_toArray, List.set_cons_zero, List.set_cons_succ]
              try simp only [hA]
              obtain ⟨⟨b', e5, l5, c5⟩, _⟩ := hA
              rw [e5]
              go_wp2_with fail
              refine ⟨_, rfl, World.grownBy_alloc _ _ _, b', ⟨X.heap.size, rfl, hC.1.size, World.alloc_heap_new _ _⟩, l5, ?_⟩
              exact (Below.heap_alloc _ _ _ (Array.getElem?_eq_some_iff.1 c5).1).trans c5
            simp only [List.cons_append, List.nil_append]
            refine steps_pr (fun v X => ∃ b', w4.heap.size ≤ b' ∧ X.heap[b']? = some (.cells ((newP A B).write s).vals.toArray 60 (0, 0)) ∧ X.ownsRow (w.heap.size + 1) 40 1 v (bs.length + 1) (bs.map ptr ++ [ptr b'])) ?_ ?_ ?_
            · intro j v X Y hj hji hpre hC hBj hG hv
              obtain ⟨b', h1, h2, h3⟩ := hv
              refine ⟨b', h1, HKEEP.out j b' _ X Y hG h1 h2, row_other h3 hG ?_⟩
              intro g hg
              rw [if_neg hji] at hg
              by_cases h14 : j = 14
              · rw [if_pos h14] at hg
                cases hg
                obtain ⟨c, hc⟩ := row_block (hBj.2 (.inr h14)) rfl
                exact ⟨_, _, _, hc, by decide⟩
              · rw [if_neg h14] at hg; cases hg
            · intro vs X hC hB hA
              try simp only [List.getD_cons_zero, List.getD_cons_succ, List.forall_mem_cons, List.not_mem_nil, false_implies, implies_true, and_true] at hA
              simp only [List.getD_cons_zero, List.getD_cons_succ, putL, dstOf, List.foldl_nil, List.foldl_cons, List.getElem?_toArray, List.getElem?_cons_zero, List.getElem?_cons_succ, Option.bind_some, Act.put, List.setIfInBounds_toArray, List.set_cons_zero, List.set_cons_succ]
              try simp only [hA]
              obtain ⟨a0, ⟨b', ⟨g6, e6, l6, c6⟩, l6', c6'⟩, a4⟩ := hA
              rw [e6]
              have hr := hB.1 (.inr rfl)
              refine wpList_append_own_at _ rfl _ _ 47 rfl (w.heap.size + 1) 40 i0 (.pointer none) 1 8 Try.underlying47 hi0 hz0 hz1 hz2 rfl (by decide) _ _ _ rfl hr ⟨g6, 0, none⟩ 1 1 [ptr b'] rfl rfl (cell_of_lit c6) (by simp [Value.oneCell']) (by unfold maxLen; omega) (by omega) (by have := hC.1.size; omega) ?_
              intro v' w' ho hg' _ _
              refine ⟨v', rfl, hg', b', l6', ?_, ho⟩
              exact HKEEP.out 7 b' _ X w' hg' l6' c6'
            simp only [List.cons_append, List.nil_append]
            repeat
              (apply steps_fx
               · intro vs X hC hB hA
                 try simp only [List.getD_cons_zero, List.getD_cons_succ, List.forall_mem_cons, List.not_mem_nil, false_implies, implies_true, and_true] at hA
                 simp only [List.getD_cons_zero, List.getD_cons_succ, putL, dstOf, List.foldl_nil, List.foldl_cons, List.getElem?_toArray, List.getElem?_cons_zero, List.getElem?_cons_succ, Option.bind_some, Act.put, List.setIfInBounds_toArray, List.set_cons_zero, List.set_cons_succ]
                 try simp only [hA]
                 go_wp2_with fail
                 exact ⟨_, rfl, World.grownBy.refl _ _, rfl⟩
               simp only [List.cons_append, List.nil_append])
            apply steps_fx
            · intro vs X hC hB hA
              try simp only [List.getD_cons_zero, List.getD_cons_succ, List.forall_mem_cons, List.not_mem_nil, false_implies, implies_true, and_true] at hA
              simp only [List.getD_cons_zero, List.getD_cons_succ, putL, dstOf, List.foldl_nil, List.foldl_cons, List.getElem?_toArray, List.getElem?_cons_zero, List.getElem?_cons_succ, Option.bind_some, Act.put, List.setIfInBounds_toArray, List.set_cons_zero, List.set_cons_succ]
              try simp only [hA]
              have hc := (hB.2 (.inl rfl)).cellAt k (by omega)
              rw [List.getElem?_map, hs, Option.map_some] at hc
              go_wp2_with fail
              exact ⟨_, rfl, World.grownBy.refl _ _, rfl⟩
            simp only [List.cons_append, List.nil_append]
            refine steps_pr (fun v X => LitAt w4.heap.size (str s) 9 v X)
              (fun j v X Y _ _ _ _ _ hG ⟨g, h1, h2, h4⟩ => ⟨g, h1, h2, HKEEP.out j g _ X Y hG h2 h4⟩) ?_ ?_
            · intro vs X hC hB hA
              try simp only [List.getD_cons_zero, List.getD_cons_succ, List.forall_mem_cons, List.not_mem_nil, false_implies, implies_true, and_true] at hA
              simp only [List.getD_cons_zero, List.getD_cons_succ, putL, dstOf, List.foldl_nil, List.foldl_cons, List.getElem?_toArray, List.getElem?_cons_zero, List.getElem?_cons_succ, Option.bind_some, Act.put, List.setIfInBounds_toArray, List.set_cons_zero, List.set_cons_succ]
              try simp only [hA]
              go_wp2_with fail
              exact ⟨_, rfl, World.grownBy_alloc _ _ _, X.heap.size, rfl, hC.1.size, World.alloc_heap_new _ _⟩
            simp only [List.cons_append, List.nil_append]
            refine steps_pr (fun v X => X.ownsRow (w.heap.size + 1) 9 1 v (bs.length + 1) (ss.map str ++ [str s])) ?_ ?_ ?_
            · intro j v X Y hj hji hpre hC hBj hG hv
              refine row_other hv hG ?_
              intro g hg
              by_cases h7 : j = 7
              · rw [if_pos h7] at hg
                cases hg
                obtain ⟨c, hc⟩ := row_block (hBj.1 (.inr h7)) rfl
                exact ⟨_, _, _, hc, by decide⟩
              · rw [if_neg h7, if_neg hji] at hg; cases hg
            · intro vs X hC hB hA
              try simp only [List.getD_cons_zero, List.getD_cons_succ, List.forall_mem_cons, List.not_mem_nil, false_implies, implies_true, and_true] at hA
              simp only [List.getD_cons_zero, List.getD_cons_succ, putL, dstOf, List.foldl_nil, List.foldl_cons, List.getElem?_toArray, List.getElem?_cons_zero, List.getElem?_cons_succ, Option.bind_some, Act.put, List.setIfInBounds_toArray, List.set_cons_zero, List.set_cons_succ]
              try simp only [hA]
              obtain ⟨a8, ⟨g6, e6, l6, c6⟩, a12⟩ := hA
              rw [e6]
              have hr := hB.2 (.inr rfl)
              refine wpList_append_own_at _ rfl _ _ 48 rfl (w.heap.size + 1) 9 i9 (.string ByteArray.empty) 1 16 Try.underlying48 hi9 hy0 hy1 hy2 rfl (by decide) _ _ _ rfl hr ⟨g6, 0, none⟩ 1 1 [str s] rfl rfl (cell_of_lit c6) (by simp [Value.oneCell']) (by unfold maxLen; omega) (by omega) (by have := hC.1.size; omega) ?_
              intro v' w' ho hg' _ _
              exact ⟨v', rfl, hg', ho⟩
            simp only [List.cons_append, List.nil_append]
            refine steps_pr (fun v X => ∃ b', w4.heap.size ≤ b' ∧ X.heap[b']? = some (.cells ((newP A B).write s).vals.toArray 60 (0, 0)) ∧ X.ownsRow (w.heap.size + 1) 40 1 v (bs.length + 1) (bs.map ptr ++ [ptr b'])) ?_ ?_ ?_
            · intro j v X Y hj hji hpre hC hBj hG hv
              obtain ⟨b', h1, h2, h3⟩ := hv
              refine ⟨b', h1, HKEEP.out j b' _ X Y hG h1 h2, row_other h3 hG ?_⟩
              intro g hg
              by_cases h7 : j = 7
              · exact absurd (h7 ▸ hpre) (by decide)
              rw [if_neg h7] at hg
              by_cases h14 : j = 14
              · rw [if_pos h14] at hg
                cases hg
                obtain ⟨c, hc⟩ := row_block (hBj.2 (.inr h14)) rfl
                exact ⟨_, _, _, hc, by decide⟩
              · rw [if_neg h14] at hg; cases hg
            · intro vs X hC hB hA
              try simp only [List.getD_cons_zero, List.getD_cons_succ, List.forall_mem_cons, List.not_mem_nil, false_implies, implies_true, and_true] at hA
              simp only [List.getD_cons_zero, List.getD_cons_succ, putL, dstOf, List.foldl_nil, List.foldl_cons, List.getElem?_toArray, List.getElem?_cons_zero, List.getElem?_cons_succ, Option.bind_some, Act.put, List.setIfInBounds_toArray, List.set_cons_zero, List.set_cons_succ]
              try simp only [hA]
              obtain ⟨⟨b', l7, c7, r7⟩, _, _⟩ := hA
              obtain ⟨g7, cp7, e7⟩ := ownsRow_succ r7
              rw [e7] at r7 ⊢
              go_wp2_with fail
              exact ⟨_, rfl, World.grownBy.refl _ _, b', l7, c7, r7⟩
            simp only [List.cons_append, List.nil_append]
            refine steps_pr (fun v X => X.ownsRow (w.heap.size + 1) 9 1 v (bs.length + 1) (ss.map str ++ [str s])) ?_ ?_ ?_
            · intro j v X Y hj hji hpre hC hBj hG hv
              refine row_other hv hG ?_
              intro g hg
              by_cases h7 : j = 7
              · rw [if_pos h7] at hg
                cases hg
                obtain ⟨c, hc⟩ := row_block (hBj.1 (.inr h7)) rfl
                exact ⟨_, _, _, hc, by decide⟩
              · by_cases h14 : j = 14
                · exact absurd (h14 ▸ hpre) (by decide)
                · rw [if_neg h7, if_neg h14] at hg; cases hg
            · intro vs X hC hB hA
              try simp only [List.getD_cons_zero, List.getD_cons_succ, List.forall_mem_cons, List.not_mem_nil, false_implies, implies_true, and_true] at hA
              simp only [List.getD_cons_zero, List.getD_cons_succ, putL, dstOf, List.foldl_nil, List.foldl_cons, List.getElem?_toArray, List.getElem?_cons_zero, List.getElem?_cons_succ, Option.bind_some, Act.put, List.setIfInBounds_toArray, List.set_cons_zero, List.set_cons_succ]
              try simp only [hA]
              obtain ⟨r7, _, _⟩ := hA
              obtain ⟨g7, cp7, e7⟩ := ownsRow_succ r7
              rw [e7] at r7 ⊢
              go_wp2_with fail
              exact ⟨_, rfl, World.grownBy.refl _ _, r7⟩
            simp only [List.cons_append, List.nil_append]
            refine steps_nil ?_
            intro vs X hC hA
            rw [(fun (l : List Oper) (h : l.length = 17) => (by rw [h]; rfl : List.range l.length = [0, 1, 2, 3, 4, 5, 6, 7, 8, 9, 10, 11, 12, 13, 14, 15, 16])) _ rfl]
            simp only [List.getD_cons_zero, List.getD_cons_succ, putL, dstOf, List.foldl_nil, List.foldl_cons, List.getElem?_toArray, List.getElem?_cons_zero, List.getElem?_cons_succ, Option.bind_some, Act.put, List.setIfInBounds_toArray, List.set_cons_zero, List.set_cons_succ]
            obtain ⟨b', l15, c15, r15⟩ : ∃ b', w4.heap.size ≤ b' ∧ X.heap[b']? = some (.cells ((newP A B).write s).vals.toArray 60 (0, 0)) ∧ X.ownsRow (w.heap.size + 1) 40 1 (vs 15) (bs.length + 1) (bs.map ptr ++ [ptr b']) := hA 15 (by decide)
            have r16 : X.ownsRow (w.heap.size + 1) 9 1 (vs 16) (bs.length + 1) (ss.map str ++ [str s]) := hA 16 (by decide)
            have hPX := HP4.out.longer (X := X) l15 (by omega) c15 r15 r16 hC.2
            obtain ⟨gA, cA, gB, cB, eA, eB, _, _, _, _⟩ := hPX.shapes
            rw [eA, eB] at hPX ⊢
            have hb' : (bs ++ [b'])[k]? = some b := by rw [List.getElem?_append_left hkl]; exact hb
            have hs' : (ss ++ [s])[k]? = some s := by rw [List.getElem?_append_left (List.getElem?_eq_some_iff.1 hs).1]; exact hs
            have hul : Hid (∀ t ∈ ss ++ [s], t.length ≤ 300 * (i + 1)) := Lib.hid (by
              intro t ht
              rcases List.mem_append.1 ht with h | h
              · have := hS.out t h; omega
              · simp at h; subst h; omega)
            have hcl : (bs ++ [b']).length ≤ i + 1 + 1 := by rw [List.length_append]; simp; omega
            have hB6 : Below (w.heap.size + 1) w3 X := hB4.trans hC.1
            have hz6 : w.heap.size + 1 ≤ X.heap.size := by have := hC.1.size; omega
            have HQ := Lib.hid hPX
            have hs'l : s.length ≤ 13000 := by omega
            clear hA hC hPX r15 r16 c15 l15 eA eB
            generalize bs ++ [b'] = cs at *
            generalize ss ++ [s] = us at *
            generalize X = w6 at *
            go_wp2_with fail
            have m1 : ∀ X, Below w6.heap.size w6 X → X.cell? ⟨gA, k, none⟩ = some (ptr b) := fun X hX => (HQ.out.grow hX).ptrAt rfl hb'
            have m2 : ∀ X, Below w6.heap.size w6 X → X.cell? ⟨gB, k, none⟩ = some (str s) := fun X hX => (HQ.out.grow hX).strAt rfl hs'
            have m3 : ∀ X, Below w6.heap.size w6 X → X.cell? ⟨w.heap.size, 0, none⟩ = some (.int .u64 (U A)) ∧ X.cell? ⟨w.heap.size, 1, none⟩ = some (.int .u64 (U B)) := by
              intro X hX
              have hk6 := (hB6.block w.heap.size (Nat.lt_succ_self _)).trans K.out
              have := (hX.block _ (Array.getElem?_eq_some_iff.1 hk6).1).trans hk6
              exact ⟨by simp [World.cell?, this], by simp [World.cell?, this]⟩
            have m4 : ∀ X, Below w6.heap.size w6 X → Calls Try.prog 18 #[ptr b] X fun e w' => e = .returned (.int .u64 (U (hashS A B s))) ∧ Below X.heap.size X w' := fun X hX => sum_any _ 60 b X ((HQ.out.grow hX).sum k b s hb' hs')
            have m5 : ∀ X, Below w6.heap.size w6 X → Calls Try.prog 20 #[ptr b] X fun e w' => e = .returned (.int .i64 (s.length : Int)) ∧ X = w' := fun X hX => by
              have := len_any _ 60 b X ((HQ.out.grow hX).sum k b s hb' hs')
              rw [Sp.write_n, show (newP A B).n = 0 from rfl, Nat.zero_add] at this
              exact this
            have hkn : k < cs.length := (List.getElem?_eq_some_iff.1 hb').1
            have q1 : (U (hashS A B s) != U (hashS A B s)) = false := by simp
            have q2 : ((s.length : Int) != (s.length : Int)) = false := by simp
            clear HP4 HU4 HOP HW4 HUw HU hP hS HKEEP HOLD
            refine wp_region_calm_lit (by kernel_rfl) (by kernel_rfl) ?_
            repeat
              first
              | (apply calm_want
                 · first | rfl | (go_simp; done)
                 · intro X hX
                   go_simp
                   first
                     | done
                     | rfl
                     | (refine ⟨trivial, ?_⟩; (first | exact calls_calm hX (m4 X hX) | exact calls_calm hX (plain_hash A B s X (by omega)) | exact calls_calm_same hX (m5 X hX)); done)
                     | ((first | exact calls_calm hX (m4 X hX) | exact calls_calm hX (plain_hash A B s X (by omega)) | exact calls_calm_same hX (m5 X hX)); done)
                 intro K hK
                 go_simp
                 refine hK _ ?_
                 clear hK K)
              | (apply calm_skip
                 · first | rfl | (go_simp; done)
                 intro K hK
                 go_simp
                 refine hK _ ?_
                 clear hK K)
            refine wpQuiet_nil ?_
            intro X hX
            have HE := Lib.hid (HQ.out.grow hX)
            have hBE := hB6.trans (hX.mono (show w.heap.size + 1 ≤ w6.heap.size by omega))
            clear m1 m2 m3 m4 m5 HQ hX
            go_wp2_with fail
            exact ⟨⟨i + 1, cs, us, by omega, by omega, by go_num, hcl, HE, hul, hBE⟩, by simp [intOf]; omega⟩
        · go_wp2_with fail
          rw [HW4.out]
          have HQ := HP4
          have hB6 := hB4
          have hz6 : w.heap.size + 1 ≤ w4.heap.size := by omega
          have hs' := hs
          have hb' := hb
          have hs'l : s.length ≤ 13000 := by omega
          have hul : Hid (∀ s ∈ ss, s.length ≤ 300 * (i + 1)) := Lib.hid (by
            intro t ht
            have := hS.out t ht; omega)
          have hcl : bs.length ≤ i + 1 + 1 := by omega
          clear hl1 hl2 hl3
          have m1 : ∀ X, Below w4.heap.size w4 X → X.cell? ⟨ga, k, none⟩ = some (ptr b) := fun X hX => (HQ.out.grow hX).ptrAt rfl hb'
          have m2 : ∀ X, Below w4.heap.size w4 X → X.cell? ⟨gb, k, none⟩ = some (str s) := fun X hX => (HQ.out.grow hX).strAt rfl hs
          have m3 : ∀ X, Below w4.heap.size w4 X → X.cell? ⟨w.heap.size, 0, none⟩ = some (.int .u64 (U A)) ∧ X.cell? ⟨w.heap.size, 1, none⟩ = some (.int .u64 (U B)) := by
            intro X hX
            have hk6 := (hB6.block w.heap.size (Nat.lt_succ_self _)).trans K.out
            have := (hX.block _ (Array.getElem?_eq_some_iff.1 hk6).1).trans hk6
            exact ⟨by simp [World.cell?, this], by simp [World.cell?, this]⟩
          have m4 : ∀ X, Below w4.heap.size w4 X → Calls Try.prog 18 #[ptr b] X fun e w' => e = .returned (.int .u64 (U (hashS A B s))) ∧ Below X.heap.size X w' := fun X hX => sum_any _ 60 b X ((HQ.out.grow hX).sum k b s hb' hs)
          have m5 : ∀ X, Below w4.heap.size w4 X → Calls Try.prog 20 #[ptr b] X fun e w' => e = .returned (.int .i64 (s.length : Int)) ∧ X = w' := fun X hX => by
            have := len_any _ 60 b X ((HQ.out.grow hX).sum k b s hb' hs)
            rw [Sp.write_n, show (newP A B).n = 0 from rfl, Nat.zero_add] at this
            exact this
          have hkn : k < bs.length := by have := (List.getElem?_eq_some_iff.1 hb').1; omega
          have q1 : (U (hashS A B s) != U (hashS A B s)) = false := by simp
          have q2 : ((s.length : Int) != (s.length : Int)) = false := by simp
          clear HP4 HU4 HOP HW4 HUw HU hP hS
          refine wp_region_calm_lit (by kernel_rfl) (by kernel_rfl) ?_
          repeat
            first
            | (apply calm_want
               · first | rfl | (go_simp; done)
               · intro X hX
                 go_simp
                 first
                   | done
                   | rfl
                   | (refine ⟨trivial, ?_⟩; (first | exact calls_calm hX (m4 X hX) | exact calls_calm hX (plain_hash A B s X (by omega)) | exact calls_calm_same hX (m5 X hX)); done)
                   | ((first | exact calls_calm hX (m4 X hX) | exact calls_calm hX (plain_hash A B s X (by omega)) | exact calls_calm_same hX (m5 X hX)); done)
               intro K hK
               go_simp
               refine hK _ ?_
               clear hK K)
            | (apply calm_skip
               · first | rfl | (go_simp; done)
               intro K hK
               go_simp
               refine hK _ ?_
               clear hK K)
          refine wpQuiet_nil ?_
          intro X hX
          have HE := Lib.hid (HQ.out.grow hX)
          have hBE := hB6.trans (hX.mono (show w.heap.size + 1 ≤ w4.heap.size by omega))
          clear m1 m2 m3 m4 m5 HQ hX
          go_wp2_with fail
          exact ⟨⟨i + 1, bs, ss, by omega, by omega, by go_num, hcl, HE, hul, hBE⟩, by simp [intOf]; omega⟩
    · have e1 : decide (i < os.length) = false := decide_eq_false (by omega)
      obtain ⟨ga, ca, gb, cb, rfl, rfl, lga, lgb, lga', lgb'⟩ := hP.out.shapes
      have hbl' : bs.length ≤ 42 := by omega
      have hS' : Hid (∀ s ∈ ss, s.length ≤ 13000) := Lib.hid (fun s h => by have := hS.out s h; omega)
      have hw3 : w.heap.size + 1 ≤ w3.heap.size := (Array.getElem?_eq_some_iff.1 K.out).1
      clear hS HF hbl
      go_wp2_with fail
      go_loopw [10, 11, 109] (fun _ _ c wr => ∃ j : Nat, j ≤ bs.length ∧ c = .int .i64 j ∧ Hid (PlaySt A B (w.heap.size + 1) (.slice (some ⟨ga, 0, none⟩) bs.length ca) (.slice (some ⟨gb, 0, none⟩) bs.length cb) bs ss ss wr) ∧ Hid (Below (w.heap.size + 1) w3 wr)) (fun _ _ c _ => bs.length - (intOf c).toNat)
      case atStart => exact ⟨0, by omega, rfl, hP, Lib.hid hBr⟩
      case round =>
        clear hP hBr lga lgb
        obtain ⟨k, hk, rfl, HQ, HB⟩ := hrel
        by_cases hkn : k < bs.length
        · have e3 : decide (k < bs.length) = true := decide_eq_true hkn
          obtain ⟨b, hb⟩ : ∃ b, bs[k]? = some b := ⟨_, List.getElem?_eq_getElem hkn⟩
          obtain ⟨s, hs⟩ : ∃ s, ss[k]? = some s := ⟨_, List.getElem?_eq_getElem (by have := HQ.out.ls; omega)⟩
          have hsl : s.length ≤ 13000 := hS'.out s (List.mem_of_getElem? hs)
          have hp := HQ.out.ptrAt rfl hb
          have hwb : w.heap.size < wr.heap.size := by have := HB.out.size; omega
          go_wp2_with fail
          have m2 : ∀ X, Below wr.heap.size wr X → X.cell? ⟨gb, k, none⟩ = some (str s) := fun X hX => (HQ.out.grow hX).strAt rfl hs
          have m3 : ∀ X, Below wr.heap.size wr X → X.cell? ⟨w.heap.size, 0, none⟩ = some (.int .u64 (U A)) ∧ X.cell? ⟨w.heap.size, 1, none⟩ = some (.int .u64 (U B)) := by
            intro X hX
            have hk6 := (HB.out.block w.heap.size (Nat.lt_succ_self _)).trans K.out
            have := (hX.block _ (Array.getElem?_eq_some_iff.1 hk6).1).trans hk6
            exact ⟨by simp [World.cell?, this], by simp [World.cell?, this]⟩
          have m4 : ∀ X, Below wr.heap.size wr X → Calls Try.prog 18 #[ptr b] X fun e w' => e = .returned (.int .u64 (U (hashS A B s))) ∧ Below X.heap.size X w' := fun X hX => sum_any _ 60 b X ((HQ.out.grow hX).sum k b s hb hs)
          have q1 : (U (hashS A B s) != U (hashS A B s)) = false := by simp
          clear hp
          refine wp_region_calm_lit (by kernel_rfl) (by kernel_rfl) ?_
          repeat
            first
            | (apply calm_want
               · first | rfl | (go_simp; done)
               · intro X hX
                 go_simp
                 first
                   | done
                   | rfl
                   | (refine ⟨trivial, ?_⟩; (first | exact calls_calm hX (m4 X hX) | exact calls_calm hX (plain_hash A B s X (by omega))); done)
                   | ((first | exact calls_calm hX (m4 X hX) | exact calls_calm hX (plain_hash A B s X (by omega))); done)
               intro K hK
               go_simp
               refine hK _ ?_
               clear hK K)
            | (apply calm_skip
               · first | rfl | (go_simp; done)
               intro K hK
               go_simp
               refine hK _ ?_
               clear hK K)
          refine wpQuiet_nil ?_
          intro X hX
          have HE := Lib.hid (HQ.out.grow hX)
          have HBE := Lib.hid (HB.out.trans (hX.mono (by omega)))
          clear m2 m3 m4 hX HQ HB
          go_wp2_with fail
          exact ⟨⟨k + 1, by omega, by go_num, HE, HBE⟩, by simp [intOf]; omega⟩
        · have e3 : decide (k < bs.length) = false := decide_eq_false hkn
          have hBE := hBw3.trans (HB.out.mono (Nat.le_succ _))
          go_wp2_with fail
          refine (write_nil _ _).mono ?_
          rintro e w6 ⟨⟨v6, rfl⟩, rfl⟩
          have hBF := hBE.alloc hBE.size (.cells #[.int .u8 1] 5)
          go_wp2_with fail
          refine (sum_nil _).mono ?_
          rintro e w7 ⟨rfl, rfl⟩
          go_wp2_with fail
          refine (len_nil _).mono ?_
          rintro e w7 ⟨rfl, rfl⟩
          go_wp2_with fail
          refine (clone_nil _).mono ?_
          rintro e w7 ⟨rfl, rfl⟩
          go_wp2_with fail
          go_ret
          exact ⟨rfl, hBF⟩
end Go.Proofs.Ytfebfpfmjdeedaa
