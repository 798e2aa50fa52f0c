/- A number, as the document reads it.
   Conditions: those that each theorem names. -/
import Derived.Test.YtfmgkllnncibaaaN
namespace Go.Proofs.Ytfmgkllnncibaaa
set_option linter.unusedVariables false
set_option linter.unusedSimpArgs false
open Go.RowKit Go.Rg
attribute [local go_sem] Rg.q_add Rg.q_add' Rg.q_xor Rg.q_or Rg.q_and ba_app
theorem rl_list (l : List UInt8) : (⟨l.toArray⟩ : ByteArray).toList = l := by
  simp [go_sem]
theorem ba_get (l : List UInt8) (i : Nat) (h : i < (⟨l.toArray⟩ : ByteArray).size) : (⟨l.toArray⟩ : ByteArray)[i]'h = l[i]'(by simpa [ByteArray.size] using h) := rfl
attribute [local go_sem] ba_get
set_option maxRecDepth 100000 in
/-- What the document's number comes to. -/
theorem number_ref (c : UInt8) (t : List UInt8) (most : UInt64) (k uv : Nat) (h0 : (Ey.mk (c :: t) 0).s.length ≤ 1000000000) (hk : k + 1 ≤ t.length + 1)
    (h : c.toNat ≤ 247 ∧ k = 0 ∧ uv = c.toNat ∨ ¬ c.toNat ≤ 247 ∧ c.toNat = k + 247 ∧ uv = valB (t.take k)) :
    (Ey.mk (c :: t) 0).number most = if numN uv = (c :: t).take (k + 1) then (if most.toNat < uv then (0, (Ey.mk (c :: t) 0).fail 12) else (uv, ⟨(c :: t).drop (k + 1), 0⟩)) else (0, (Ey.mk (c :: t) 0).fail 11) := by
  have hct := c.toNat_lt
  have hnn : (Ey.mk (c :: t) 0).number most = if (parse (c :: t)).2.2 ≠ 0 then (0, (Ey.mk (c :: t) 0).fail ((parse (c :: t)).2.2 : Int)) else if most.toNat < (parse (c :: t)).1 then (0, (Ey.mk (c :: t) 0).fail 12) else ((parse (c :: t)).1, ⟨(c :: t).drop (parse (c :: t)).2.1, 0⟩) := by
    unfold Ey.number; rw [if_neg (fun h => h rfl)]
  rw [hnn]
  rcases h with ⟨h1, hk0, hu0⟩ | ⟨h1, hk0, hu0⟩
  · subst hu0
    subst hk0
    have e : numN c.toNat = [c] := by
      unfold numN; rw [if_pos h1]
      exact congrArg (fun z => [z]) (UInt8.toNat_inj.1 (by rw [UInt8.toNat_ofNat']; omega))
    rw [show parse (c :: t) = (c.toNat, 1, 0) by rw [parse_cons, if_pos h1], e]
    have t1 : ¬ ((0 : Nat) ≠ 0) := fun h => h rfl
    have t2 : [c] = (c :: t).take (0 + 1) := rfl
    dsimp only
    rw [if_neg t1, if_pos t2]
  · subst hu0
    have e1 : c.toNat - 247 = k := by omega
    have e2 : c.toNat - 246 = k + 1 := by omega
    have hni := num_is c t h1 (by omega)
    have hpc := parse_cons c t
    rw [if_neg h1, e1, e2, if_neg (by omega)] at hpc
    rw [e1, e2] at hni
    by_cases h2 : sizeN (valB (t.take k)) = k + 1
    · have e := hni.2 h2
      rw [if_neg (fun h => h h2)] at hpc
      rw [hpc, List.take_succ_cons, if_pos e]
      dsimp only
      rw [if_neg (fun h => h rfl)]
    · have e : ¬ numN (valB (t.take k)) = c :: t.take k := fun e => h2 (hni.1 e)
      rw [if_pos h2] at hpc
      rw [hpc, List.take_succ_cons, if_neg e]
      dsimp only
      rw [if_pos (by omega)]
      rfl
set_option maxRecDepth 100000 in
set_option maxHeartbeats 4000000 in
theorem ref_eye_number (b : Nat) (x : Ey) (most : UInt64) (w : World) (h : RefAt b x w) (hn : x.s.length ≤ 1000000000) :
    Calls Try.prog 27 #[ptr b, .int .u64 (U most)] w fun e w' => e = .returned (.int .u64 (U (UInt64.ofNat (x.number most).1))) ∧ RefAt b (x.number most).2 w' ∧ ∃ w1, Below w.heap.size w w1 ∧ Touch (fun k => k = b) w1 w' := by
  obtain ⟨k0, k1, f0, f1⟩ := h.cells
  have H := Lib.hid h
  clear h
  obtain ⟨s, er⟩ := x
  dsimp only at k0 k1 hn
  go_enter Try.func27, Try.ntmps27
  by_cases h1 : er = 0
  · subst h1
    cases s with
    | nil =>
      have HX := Lib.hid (show (Ey.mk [] 0).number most = (0, (Ey.mk [] 0).fail 10) from rfl)
      go_wp2_with fail
      refine (ref_fail b _ 10 w H.out).mono ?_
      rintro e w2 ⟨⟨v2, rfl⟩, a1, a2⟩
      have A1 := Lib.hid a1
      clear a1
      go_wp2_with fail
      go_ret
      rw [HX.out]
      exact ⟨rfl, A1.out, w, Below.refl _ _, a2⟩
    | cons c t =>
      have hct := c.toNat_lt
      have hi0 : ∀ h, (c :: t)[0]'h = c := fun _ => rfl
      by_cases h2 : c.toNat ≤ 247
      · have e2 : decide ((247 : Int) < (c.toNat : Int)) = false := decide_eq_false (by omega)
        obtain ⟨v0, hv0⟩ : ∃ v0 : UInt64, v0 = UInt64.ofNat c.toNat := ⟨_, rfl⟩
        have m0 : IntKind.u64.wrap (c.toNat : Int) = U v0 := by rw [hv0, wrap_u64, U_nat _ (by omega)]; omega
        have HV := Lib.hid hv0
        clear hv0
        have e3 : decide ((t.length : Int) + 1 < 1) = false := decide_eq_false (by omega)
        go_wp2_with fail
        go_loopw [6, 7] (fun u i wr => wr = w ∧ ∃ j : Nat, j ≤ 0 ∧ i = .int .i64 ((j : Int) + 1) ∧ u = .int .u64 (U v0)) (fun _ i _ => 0 + 2 - (intOf i).toNat)
        case atStart => exact ⟨rfl, 0, by omega, rfl, by rfl⟩
        case round =>
          obtain ⟨rfl, j, hj, rfl, rfl⟩ := hrel
          by_cases hjl : j < 0
          · omega
          · have e5 : decide ((j : Int) + 1 ≤ (0 : Int)) = false := decide_eq_false (by omega)
            obtain rfl : j = 0 := by omega
            obtain ⟨uv, huv⟩ : ∃ uv, uv = c.toNat := ⟨_, rfl⟩
            have huvl : uv < 18446744073709551616 := by
              rw [huv]
              omega
            have hnr := number_ref c t most 0 uv hn (by omega) (.inl ⟨h2, rfl, huv⟩)
            rw [HV.out, ← huv]
            have HX := Lib.hid hnr
            have huu : (UInt64.ofNat uv).toNat = uv := by rw [UInt64.toNat_ofNat', Nat.mod_eq_of_lt huvl]
            obtain ⟨z, hz⟩ : ∃ z, z = UInt64.ofNat uv := ⟨_, rfl⟩
            rw [← hz] at huu ⊢
            have HZ := Lib.hid (show z.toNat = uv ∧ z = UInt64.ofNat uv from ⟨huu, hz⟩)
            have hcalls : ∀ X, Calls Try.prog 21 #[.int .u64 (U z)] X fun e w' => e = .returned (str (numN uv)) ∧ Below X.heap.size X w' := fun X => by
              have := ref_number z X
              rw [huu] at this
              exact this
            have hl1 : decide (0 + 1 ≤ t.length + 1) = true := decide_eq_true (by omega)
            have hcc : ∀ X, Below wr.heap.size wr X → X.cell? ⟨b, 0, none⟩ = some (str (c :: t)) := fun X hX => (H.out.below hX).cells.1
            clear hnr huv huvl huu hz e5 hjl hj
            go_wp2_with fail
            refine wp_region_vals [[], [0], [], [2], [3], [4], [], [6], [5, 7], [1, 8]] (fun X => Below wr.heap.size wr X) (fun X Y => Below X.heap.size X Y) (by kernel_rfl) (by kernel_rfl) (by kernel_rfl) (Below.drew (Below.refl _ _)) (fun X Y hC hG => hC.trans (hG.mono hC.size)) ?_
            iterate 10
              (apply vals_fx
               · intro vs X hX hA
                 try simp only [List.getD_cons_zero, List.getD_cons_succ, List.forall_mem_cons, List.not_mem_nil, false_implies, implies_true, and_true] at hA
                 simp only [List.getD_cons_zero, List.getD_cons_succ, putL, dstOf, List.foldl_nil, List.foldl_cons, List.getElem?_toArray, List.getElem?_cons_zero, List.getElem?_cons_succ, Option.bind_some, Act.put, List.setIfInBounds_toArray, List.set_cons_zero, List.set_cons_succ]
                 try simp only [hA]
                 go_wp2_with fail
                 first
                 | exact ⟨_, rfl, Below.refl _ _, rfl⟩
                 | (refine (hcalls X).mono ?_; rintro e w' ⟨rfl, hB⟩; go_wp2_with fail; exact ⟨_, rfl, hB, rfl⟩)
               simp only [List.cons_append, List.nil_append])
            refine vals_nil ?_
            intro vs X hX hA
            rw [(fun (l : List Oper) (h : l.length = 10) => (by rw [h]; rfl : List.range l.length = [0, 1, 2, 3, 4, 5, 6, 7, 8, 9])) _ rfl]
            simp only [List.getD_cons_zero, List.getD_cons_succ, putL, dstOf, List.foldl_nil, List.foldl_cons, List.getElem?_toArray, List.getElem?_cons_zero, List.getElem?_cons_succ, Option.bind_some, Act.put, List.setIfInBounds_toArray, List.set_cons_zero, List.set_cons_succ]
            clear hcc hcalls
            have HBX := Lib.hid (H.out.below hX)
            have HW := Lib.hid hX
            obtain ⟨q, hq⟩ : ∃ q : Bool, q = (!(numN uv == (c :: t).take (0 + 1))) := ⟨_, rfl⟩
            have h9 : vs 9 = .bool q := by
              refine (hA 9 (by decide)).trans ?_
              rw [hq]
              rw [ba_pre, rl_list]
              try rw [Nat.add_comm 1 j]
            clear hA hX
            rw [h9]
            clear h9
            cases q with
            | true =>
              have hne : ¬ numN uv = (c :: t).take (0 + 1) := by simpa using hq
              have HY := Lib.hid (HX.out.trans (if_neg hne))
              clear hne hq
              go_wp2_with fail
              refine (ref_fail b _ 11 X HBX.out).mono ?_
              rintro e w2 ⟨⟨v2, rfl⟩, a1, a2⟩
              have A1 := Lib.hid a1
              clear a1
              go_wp2_with fail
              go_ret
              rw [HY.out]
              exact ⟨rfl, A1.out, X, HW.out, a2⟩
            | false =>
              have hne : numN uv = (c :: t).take (0 + 1) := by simpa using hq
              by_cases hm : most.toNat < uv
              · have HY := Lib.hid ((HX.out.trans (if_pos hne)).trans (if_pos hm))
                have e8 : decide (U most < U z) = true := decide_eq_true (by have := HZ.out.1; unfold U; omega)
                clear hne hq hm
                go_wp2_with fail
                refine (ref_fail b _ 12 X HBX.out).mono ?_
                rintro e w2 ⟨⟨v2, rfl⟩, a1, a2⟩
                have A1 := Lib.hid a1
                clear a1
                go_wp2_with fail
                go_ret
                rw [HY.out]
                exact ⟨rfl, A1.out, X, HW.out, a2⟩
              · have HY := Lib.hid ((HX.out.trans (if_pos hne)).trans (if_neg hm))
                have e8 : decide (U most < U z) = false := decide_eq_false (by have := HZ.out.1; unfold U; omega)
                clear hne hq hm
                obtain ⟨k0', k1', f0', f1'⟩ := HBX.out.cells
                go_wp2_with fail
                go_ret
                rw [HY.out]
                refine ⟨by simp only [← HZ.out.2]; rfl, ?_, X, HW.out, (Touch.refl (fun k => k = b) X).set b 0 _ (.inl rfl)⟩
                refine (block_set _ HBX.out).trans ?_
                have e9 := ba_suf (c :: t) (0 + 1)
                rw [show (({ data := (c :: t).toArray } : ByteArray).extract 1 (t.length + 1)) = _ from e9]
                rfl
      · have e2 : decide ((247 : Int) < (c.toNat : Int)) = true := decide_eq_true (by omega)
        obtain ⟨k, hk⟩ : ∃ k : Nat, c.toNat = k + 247 := ⟨c.toNat - 247, by omega⟩
        have hk0 : 1 ≤ k := by omega
        have ek : (c.toNat : Int) - 247 = (k : Int) := by omega
        by_cases h3 : t.length + 1 < 1 + k
        · have e3 : decide ((t.length : Int) + 1 < 1 + (k : Int)) = true := decide_eq_true (by omega)
          have HX := Lib.hid (show (Ey.mk (c :: t) 0).number most = (0, (Ey.mk (c :: t) 0).fail 10) by
            unfold Ey.number
            rw [show parse (c :: t) = (0, 0, 10) by rw [parse_cons, if_neg h2, if_pos (by omega)]]
            rfl)
          clear hk h2
          go_wp2_with fail
          refine (ref_fail b _ 10 w H.out).mono ?_
          rintro e w2 ⟨⟨v2, rfl⟩, a1, a2⟩
          have A1 := Lib.hid a1
          clear a1
          go_wp2_with fail
          go_ret
          rw [HX.out]
          exact ⟨rfl, A1.out, w, Below.refl _ _, a2⟩
        have e3 : decide ((t.length : Int) + 1 < 1 + (k : Int)) = false := decide_eq_false (by omega)
        have e4 : ((k : Int) == 0) = false := by simp; omega
        have HK := Lib.hid hk
        clear hk
        go_wp2_with fail
        go_loopw [6, 7] (fun u i wr => wr = w ∧ ∃ j : Nat, j ≤ k ∧ i = .int .i64 ((j : Int) + 1) ∧ u = .int .u64 (U (UInt64.ofNat (valB (t.take j))))) (fun _ i _ => k + 2 - (intOf i).toNat)
        case atStart => exact ⟨rfl, 0, by omega, rfl, by simp [valB]; rfl⟩
        case round =>
          obtain ⟨rfl, j, hj, rfl, rfl⟩ := hrel
          by_cases hjl : j < k
          · have e5 : decide ((j : Int) + 1 ≤ (k : Int)) = true := decide_eq_true (by omega)
            obtain ⟨x, hx⟩ : ∃ x, t[j]? = some x := ⟨_, List.getElem?_eq_getElem (by omega)⟩
            have hxt := x.toNat_lt
            have hvl : valB (t.take j) < 72057594037927936 := by
              have h1 := valB_lt (t.take j)
              have h3 : (256 : Nat) ^ (t.take j).length ≤ 256 ^ 7 := Nat.pow_le_pow_right (by omega) (by have := HK.out; rw [List.length_take]; omega)
              have e7 : (256 : Nat) ^ 7 = 72057594037927936 := by simp
              omega
            obtain ⟨n, hnv⟩ : ∃ n, n = valB (t.take j) := ⟨_, rfl⟩
            rw [← hnv] at hvl ⊢
            obtain ⟨y, hy⟩ : ∃ y, y = UInt64.ofNat (n * 256 + x.toNat) := ⟨_, rfl⟩
            have hgx : ∀ h, (c :: t)[j + 1]'h = x := fun h => by
              rw [List.getElem_cons_succ]
              obtain ⟨_, e⟩ := List.getElem?_eq_some_iff.1 hx
              exact e
            have m1 : IntKind.u64.wrap (U (UInt64.ofNat n) * 256) = (n : Int) * 256 := by rw [U_nat n (by omega), wrap_u64]; omega
            have m2 : IntKind.u64.wrap (x.toNat : Int) = (x.toNat : Int) := by rw [wrap_u64]; omega
            have m3 : IntKind.u64.wrap ((n : Int) * 256 + (x.toNat : Int)) = U y := by rw [hy, U_nat _ (by omega), wrap_u64]; omega
            have HY := Lib.hid (show y = UInt64.ofNat (valB (t.take (j + 1))) by
              rw [hy, hnv, List.take_add_one, hx, show (some x : Option UInt8).toList = [x] from rfl, valB_snoc])
            have hlj : decide (j + 1 < t.length + 1) = true := decide_eq_true (by omega)
            clear hy hnv hx hvl
            go_wp2_with fail
            refine ⟨⟨trivial, j + 1, by omega, by go_num, by rw [HY.out]⟩, by simp [intOf]; omega⟩
          · have e5 : decide ((j : Int) + 1 ≤ (k : Int)) = false := decide_eq_false (by omega)
            obtain rfl : j = k := by omega
            obtain ⟨uv, huv⟩ : ∃ uv, uv = valB (t.take j) := ⟨_, rfl⟩
            have huvl : uv < 18446744073709551616 := by
              rw [huv]
              have h1 := valB_lt (t.take j)
              have h3 : (256 : Nat) ^ (t.take j).length ≤ 256 ^ 8 := Nat.pow_le_pow_right (by omega) (by have := HK.out; rw [List.length_take]; omega)
              have e7 : (256 : Nat) ^ 8 = 18446744073709551616 := by simp
              omega
            have hnr := number_ref c t most j uv hn (by omega) (.inr ⟨h2, HK.out, huv⟩)
            rw [← huv]
            have HX := Lib.hid hnr
            have huu : (UInt64.ofNat uv).toNat = uv := by rw [UInt64.toNat_ofNat', Nat.mod_eq_of_lt huvl]
            obtain ⟨z, hz⟩ : ∃ z, z = UInt64.ofNat uv := ⟨_, rfl⟩
            rw [← hz] at huu ⊢
            have HZ := Lib.hid (show z.toNat = uv ∧ z = UInt64.ofNat uv from ⟨huu, hz⟩)
            have hcalls : ∀ X, Calls Try.prog 21 #[.int .u64 (U z)] X fun e w' => e = .returned (str (numN uv)) ∧ Below X.heap.size X w' := fun X => by
              have := ref_number z X
              rw [huu] at this
              exact this
            have hl1 : decide (j + 1 ≤ t.length + 1) = true := decide_eq_true (by omega)
            have hcc : ∀ X, Below wr.heap.size wr X → X.cell? ⟨b, 0, none⟩ = some (str (c :: t)) := fun X hX => (H.out.below hX).cells.1
            clear hnr huv huvl huu hz e5 hjl hj
            go_wp2_with fail
            refine wp_region_vals [[], [0], [], [2], [3], [4], [], [6], [5, 7], [1, 8]] (fun X => Below wr.heap.size wr X) (fun X Y => Below X.heap.size X Y) (by kernel_rfl) (by kernel_rfl) (by kernel_rfl) (Below.drew (Below.refl _ _)) (fun X Y hC hG => hC.trans (hG.mono hC.size)) ?_
            iterate 10
              (apply vals_fx
               · intro vs X hX hA
                 try simp only [List.getD_cons_zero, List.getD_cons_succ, List.forall_mem_cons, List.not_mem_nil, false_implies, implies_true, and_true] at hA
                 simp only [List.getD_cons_zero, List.getD_cons_succ, putL, dstOf, List.foldl_nil, List.foldl_cons, List.getElem?_toArray, List.getElem?_cons_zero, List.getElem?_cons_succ, Option.bind_some, Act.put, List.setIfInBounds_toArray, List.set_cons_zero, List.set_cons_succ]
                 try simp only [hA]
                 go_wp2_with fail
                 first
                 | exact ⟨_, rfl, Below.refl _ _, rfl⟩
                 | (refine (hcalls X).mono ?_; rintro e w' ⟨rfl, hB⟩; go_wp2_with fail; exact ⟨_, rfl, hB, rfl⟩)
               simp only [List.cons_append, List.nil_append])
            refine vals_nil ?_
            intro vs X hX hA
            rw [(fun (l : List Oper) (h : l.length = 10) => (by rw [h]; rfl : List.range l.length = [0, 1, 2, 3, 4, 5, 6, 7, 8, 9])) _ rfl]
            simp only [List.getD_cons_zero, List.getD_cons_succ, putL, dstOf, List.foldl_nil, List.foldl_cons, List.getElem?_toArray, List.getElem?_cons_zero, List.getElem?_cons_succ, Option.bind_some, Act.put, List.setIfInBounds_toArray, List.set_cons_zero, List.set_cons_succ]
            clear hcc hcalls
            have HBX := Lib.hid (H.out.below hX)
            have HW := Lib.hid hX
            obtain ⟨q, hq⟩ : ∃ q : Bool, q = (!(numN uv == (c :: t).take (j + 1))) := ⟨_, rfl⟩
            have h9 : vs 9 = .bool q := by
              refine (hA 9 (by decide)).trans ?_
              rw [hq]
              rw [ba_pre, rl_list]
              try rw [Nat.add_comm 1 j]
            clear hA hX
            rw [h9]
            clear h9
            cases q with
            | true =>
              have hne : ¬ numN uv = (c :: t).take (j + 1) := by simpa using hq
              have HY := Lib.hid (HX.out.trans (if_neg hne))
              clear hne hq
              go_wp2_with fail
              refine (ref_fail b _ 11 X HBX.out).mono ?_
              rintro e w2 ⟨⟨v2, rfl⟩, a1, a2⟩
              have A1 := Lib.hid a1
              clear a1
              go_wp2_with fail
              go_ret
              rw [HY.out]
              exact ⟨rfl, A1.out, X, HW.out, a2⟩
            | false =>
              have hne : numN uv = (c :: t).take (j + 1) := by simpa using hq
              by_cases hm : most.toNat < uv
              · have HY := Lib.hid ((HX.out.trans (if_pos hne)).trans (if_pos hm))
                have e8 : decide (U most < U z) = true := decide_eq_true (by have := HZ.out.1; unfold U; omega)
                clear hne hq hm
                go_wp2_with fail
                refine (ref_fail b _ 12 X HBX.out).mono ?_
                rintro e w2 ⟨⟨v2, rfl⟩, a1, a2⟩
                have A1 := Lib.hid a1
                clear a1
                go_wp2_with fail
                go_ret
                rw [HY.out]
                exact ⟨rfl, A1.out, X, HW.out, a2⟩
              · have HY := Lib.hid ((HX.out.trans (if_pos hne)).trans (if_neg hm))
                have e8 : decide (U most < U z) = false := decide_eq_false (by have := HZ.out.1; unfold U; omega)
                clear hne hq hm
                obtain ⟨k0', k1', f0', f1'⟩ := HBX.out.cells
                go_wp2_with fail
                go_ret
                rw [HY.out]
                refine ⟨by simp only [← HZ.out.2]; rfl, ?_, X, HW.out, (Touch.refl (fun k => k = b) X).set b 0 _ (.inl rfl)⟩
                refine (block_set _ HBX.out).trans ?_
                have e9 := ba_suf (c :: t) (j + 1)
                rw [Nat.add_comm 1 j, show (({ data := (c :: t).toArray } : ByteArray).extract (j + 1) (t.length + 1)) = _ from e9]
                rfl
  · have e1 : (er != 0) = true := by simp [h1]
    have HX := Lib.hid (show (Ey.mk s er).number most = (0, ⟨s, er⟩) by unfold Ey.number; rw [if_pos h1])
    clear h1
    go_wp2_with fail
    go_ret
    rw [HX.out]
    exact ⟨rfl, H.out, w, Below.refl _ _, Touch.refl _ _⟩
theorem ref_num (b : Nat) (x : Ey) (most : UInt64) (w : World) (h : RefAt b x w) (hn : x.s.length ≤ 1000000000) :
    Calls Try.prog 27 #[ptr b, .int .u64 (U most)] w fun e w' => e = .returned (.int .u64 (U (UInt64.ofNat (x.number most).1))) ∧ RefAt b (x.number most).2 w' ∧ Touch (fun k => k = b) w w' := by
  refine (ref_eye_number b x most w h hn).mono ?_
  rintro e w' ⟨h1, h2, w1, h3, h4⟩
  exact ⟨h1, h2, (Touch.of_below h3).trans h4 (fun _ _ h => h)⟩
set_option maxRecDepth 100000 in
set_option maxHeartbeats 2000000 in
theorem ref_text_eye (b : Nat) (x : Ey) (most : Int) (w : World) (h : RefAt b x w) (hn : x.s.length ≤ 1000000000) (hi : -9223372036854775808 ≤ most ∧ most ≤ 9223372036854775807) :
    Calls Try.prog 28 #[ptr b, .int .i64 most] w fun e w' => e = .returned (str (x.text most).1) ∧ RefAt b (x.text most).2 w' ∧ Touch (fun k => k = b) w w' := by
  have hm : (18446744073709551615 : Int) = U 18446744073709551615 := rfl
  go_enter Try.func28, Try.ntmps28
  go_wp2_with fail
  clear hm
  refine (ref_num b x _ w h hn).mono ?_
  rintro e w1 ⟨rfl, a1, a2⟩
  have hlt := Ey.number_lt x 18446744073709551615
  have hlen := Ey.number_len x 18446744073709551615
  have HX := Lib.hid (show x.text most = if (x.number 18446744073709551615).2.e ≠ 0 then ([], (x.number 18446744073709551615).2) else if most < 0 ∨ most < ((x.number 18446744073709551615).1 : Int) then ([], (x.number 18446744073709551615).2.fail 12) else (x.number 18446744073709551615).2.fixed ((x.number 18446744073709551615).1 : Int) from rfl)
  generalize x.number 18446744073709551615 = r at *
  obtain ⟨u, y⟩ := r
  dsimp only at *
  have hU := U_nat u hlt
  obtain ⟨z, hz⟩ : ∃ z, z = UInt64.ofNat u := ⟨_, rfl⟩
  rw [← hz] at hU ⊢
  obtain ⟨k0, k1, f0, f1⟩ := a1.cells
  have A1 := Lib.hid a1
  clear a1 h hz
  by_cases h1 : y.e = 0
  · have e1 : (y.e == 0) = true := by simp [h1]
    by_cases h2 : most < 0
    · have HX2 := Lib.hid (show x.text most = ([], y.fail 12) by rw [HX.out, if_neg (by simp [h1]), if_pos (.inl h2)])
      have e2 : decide (most < 0) = true := decide_eq_true h2
      have hfe : (y.fail 12).e = 12 := by unfold Ey.fail; rw [if_pos ⟨h1, by decide⟩]
      clear HX h1 h2
      go_wp2_with fail
      refine (ref_fail b y 12 w1 A1.out).mono ?_
      rintro e w2 ⟨⟨v2, rfl⟩, b1, b2⟩
      obtain ⟨k0, k1, f0, f1⟩ := b1.cells
      rw [hfe] at k1
      have B1 := Lib.hid b1
      clear b1
      go_wp2_with fail
      go_ret
      rw [HX2.out]
      exact ⟨rfl, B1.out, a2.trans b2 (fun _ _ h => h)⟩
    have e2 : decide (most < 0) = false := decide_eq_false h2
    have W : IntKind.u64.wrap most = most := by rw [wrap_u64]; omega
    by_cases h3 : most < (u : Int)
    · have HX2 := Lib.hid (show x.text most = ([], y.fail 12) by rw [HX.out, if_neg (by simp [h1]), if_pos (.inr h3)])
      have e3 : decide (most < (u : Int)) = true := decide_eq_true (by omega)
      have hfe : (y.fail 12).e = 12 := by unfold Ey.fail; rw [if_pos ⟨h1, by decide⟩]
      clear HX h1 h2 h3
      go_wp2_with fail
      refine (ref_fail b y 12 w1 A1.out).mono ?_
      rintro e w2 ⟨⟨v2, rfl⟩, b1, b2⟩
      obtain ⟨k0, k1, f0, f1⟩ := b1.cells
      rw [hfe] at k1
      have B1 := Lib.hid b1
      clear b1
      go_wp2_with fail
      go_ret
      rw [HX2.out]
      exact ⟨rfl, B1.out, a2.trans b2 (fun _ _ h => h)⟩
    · have HX2 := Lib.hid (show x.text most = y.fixed (u : Int) by rw [HX.out, if_neg (by simp [h1]), if_neg (by omega)])
      have e3 : decide (most < (u : Int)) = false := decide_eq_false (by omega)
      have e4 : (y.e != 0) = false := by simp [h1]
      have W2 : IntKind.i64.wrap (u : Int) = (u : Int) := IntWalk.i64_in _ (by omega)
      clear HX h1 h2 h3
      go_wp2_with fail
      refine (ref_fixed b y u w1 A1.out).mono ?_
      rintro e w2 ⟨rfl, b1, b2⟩
      have B1 := Lib.hid b1
      clear b1
      go_wp2_with fail
      go_ret
      rw [HX2.out]
      exact ⟨rfl, B1.out, a2.trans b2 (fun _ _ h => h)⟩
  · have e1 : (y.e == 0) = false := by simp [h1]
    have e2 : (y.e != 0) = true := by simp [h1]
    have HX2 := Lib.hid (show x.text most = ([], y) by rw [HX.out, if_pos h1])
    clear h1
    go_wp2_with fail
    go_ret
    rw [HX2.out]
    exact ⟨rfl, A1.out, a2⟩
end Go.Proofs.Ytfmgkllnncibaaa
