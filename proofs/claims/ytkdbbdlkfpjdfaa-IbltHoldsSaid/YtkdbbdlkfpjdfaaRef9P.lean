/- The document's sets of marks: Right, Pick.
   Conditions: those that each theorem names. -/
import Derived.Test.YtkdbbdlkfpjdfaaRef7
namespace Go.Proofs.Ytkdbbdlkfpjdfaa
set_option maxRecDepth 100000
set_option linter.unusedVariables false
set_option linter.unusedSimpArgs false
open Go.RowKit Go.Rg
set_option linter.unusedVariables false
def rightB (l : List (List UInt8)) : Bool := (List.range (l.length - 1)).all fun j => Op.bytesLess (l.getD j []) (l.getD (j + 1) [])
set_option maxHeartbeats 2000000 in
theorem refright9 (v : Value) (l : List (List UInt8)) (w : World) (h : MarksAt w v l) (h16 : Marks16 l) (hn : l.length ≤ 1000000000) :
    Calls Try.prog 84 #[v] w fun e w' => e = .returned (.bool (rightB l)) ∧ Below w.heap.size w w' := by
  obtain ⟨p, cap, rfl, hcap, _⟩ := id h
  have HM := Lib.hid h
  have H16 := Lib.hid h16
  clear h h16
  go_enter Try.func84, Try.ntmps84
  go_wp2_with fail
  go_loopw [3] (fun c wr => ∃ j : Nat, (j = 0 ∨ j + 1 ≤ l.length) ∧ c = .int .i64 ((j : Int) + 1) ∧ Hid (((List.range j).all fun j => Op.bytesLess (l.getD j []) (l.getD (j + 1) [])) = true) ∧ Hid (Below w.heap.size w wr)) (fun c _ => l.length + 1 - (intOf c).toNat)
  case atStart => exact ⟨0, .inl rfl, rfl, Lib.hid rfl, Lib.hid (Below.refl _ _)⟩
  case round =>
    obtain ⟨j, hj, rfl, HA, HW⟩ := hrel
    by_cases hil : j + 1 < l.length
    · have e1 : decide ((j : Int) + 1 < (l.length : Int)) = true := decide_eq_true (by omega)
      obtain ⟨x, hx⟩ : ∃ x, l[j]? = some x := ⟨_, List.getElem?_eq_getElem (by omega)⟩
      obtain ⟨y, hy⟩ : ∃ y, l[j + 1]? = some y := ⟨_, List.getElem?_eq_getElem hil⟩
      have hx16 := H16.out x (List.mem_of_getElem? hx)
      have hy16 := H16.out y (List.mem_of_getElem? hy)
      obtain ⟨g, o, hpe, _, hld⟩ := (HM.out.below HW.out).load H16.out hx
      obtain ⟨g', o', hpe', _, hld'⟩ := (HM.out.below HW.out).load H16.out hy
      subst hpe
      cases hpe'
      have i4 : IntKind.i64.wrap (j : Int) = (j : Int) := IntWalk.i64_in _ (by omega)
      have i5 : IntKind.i64.wrap ((j : Int) + 1) = (j : Int) + 1 := IntWalk.i64_in _ (by omega)
      have i3 : (j : Int) < (l.length : Int) := by omega
      have i6 : (j : Int) + 1 < (l.length : Int) := by omega
      have k0 : (0 : Int) ≤ (j : Int) := Int.natCast_nonneg _
      have k2 : (0 : Int) ≤ (j : Int) + 1 := by omega
      have k3 : ((j : Int) + 1).toNat = j + 1 := by omega
      have k1 : (j : Int) ≤ 1000000000 := by omega
      have hsn : ((List.range (j + 1)).all fun j => Op.bytesLess (l.getD j []) (l.getD (j + 1) [])) = Op.bytesLess x y := by
        rw [List.range_succ, List.all_append, HA.out]
        simp [List.getD_eq_getElem?_getD, hx, hy]
      have hfal : Op.bytesLess x y = false → rightB l = false := fun e => by
        unfold rightB
        rw [List.all_eq_false]
        exact ⟨j, List.mem_range.2 (by omega), by rw [List.getD_eq_getElem?_getD, List.getD_eq_getElem?_getD, hx, hy]; simp [e]⟩
      have kl := fun X => less_any x y hx16 hy16 X
      obtain ⟨b, hb⟩ : ∃ b, Op.bytesLess x y = b := ⟨_, rfl⟩
      simp only [hb] at kl hsn hfal
      replace hld := Lib.hid hld
      replace hld' := Lib.hid hld'
      replace kl := Lib.hid kl
      replace hsn := Lib.hid hsn
      replace hfal := Lib.hid hfal
      clear hx hy hb
      go_wp2_with fail
      refine wp_region_calm_lit (by kernel_rfl) (by kernel_rfl) ?_
      repeat
        first
        | (apply calm_want
           · first | rfl | (go_simp; done)
           · intro X hX
             first
             | exact calm_load rfl rfl (hld.out X hX) hX
             | exact calm_load rfl rfl (hld'.out X hX) hX
             | (go_simp
                first
                  | done
                  | rfl
                  | (refine ⟨trivial, ?_⟩; (with_reducible exact calls_calm hX (kl.out X)); done)
                  | ((with_reducible exact calls_calm hX (kl.out X)); done))
           intro K hK
           go_simp
           refine hK _ ?_
           clear hK K)
        | (apply calm_skip
           · first | rfl | (go_simp; done)
           intro K hK
           go_simp
           refine hK _ ?_
           clear hK K)
      refine wpQuiet_nil ?_
      intro X hX
      have hB2 := Lib.hid (HW.out.trans (hX.mono HW.out.size))
      clear hX hld hld' kl
      cases b with
      | true =>
        go_wp2_with fail
        go_roundw
        case rel => exact ⟨j + 1, .inr (by omega), by go_num, Lib.hid hsn.out, hB2⟩
        case measure => simp [intOf]; omega
      | false =>
        go_wp2_with fail
        go_ret
        have hF : rightB l = false := by first | exact hfal.out rfl | exact hfal.out trivial
        exact ⟨by rw [hF]; rfl, hB2.out⟩
    · have e1 : decide ((j : Int) + 1 < (l.length : Int)) = false := decide_eq_false (by omega)
      have hR : rightB l = true := by
        unfold rightB
        have := HA.out
        rw [show l.length - 1 = j by omega]
        exact this
      replace hR := Lib.hid hR
      go_wp2_with fail
      go_ret
      exact ⟨by rw [hR.out]; rfl, HW.out⟩
def pickP (b : List (List UInt8)) (one both : Bool) (m : List UInt8) : Bool := (b.contains m && both) || (!b.contains m && one)
theorem filter_snoc (p : List UInt8 → Bool) (a : List (List UInt8)) (i : Nat) (x : List UInt8) (hx : a[i]? = some x) : (a.take (i + 1)).filter p = (a.take i).filter p ++ if p x then [x] else [] := by
  rw [List.take_add_one, hx, List.filter_append]
  cases h : p x <;> simp [h]
theorem filter_16 {p : List UInt8 → Bool} {a : List (List UInt8)} (h : Marks16 a) : Marks16 (a.filter p) := fun m hm => h m (List.mem_filter.1 hm).1
def pickA (a b : List (List UInt8)) (one two both : Bool) : List (List UInt8) := a.filter (pickP b one both) ++ b.filter (fun m => !a.contains m && two)
theorem app_mark {w : World} {ops : Array Oper} {rest : List Oper} {o : Oper} {a : Act} {Q : Exit → Act → World → Prop}
    (hg : o.guard = none) (s x : Operand) (t : TypeId) (hop : o.op = Op.call { callee := Callee.builtin Builtin.append, args := #[s, x], argTypes := #[t, t] })
    (h1 : Try.prog.underlying t = some (.slice 23)) {lo : Nat} {v : Value} {l : List (List UInt8)} (hs : a.eval s = v) (m : List UInt8) (hm : m.length = 16) (hown : RowF lo 23 16 w v (rawM l)) {xv : Value}
    (hx : a.eval x = xv) (hsl : SlV 16 w xv [m.map byteV]) (b1 : l.length ≤ 1000000) (hlo : lo ≤ w.heap.size)
    (hK : ∀ q d w', RowF lo 23 16 w' (.slice q (l ++ [m]).length d) (rawM (l ++ [m])) → Below lo w w' → wpList Try.prog ops Q rest (a.put o.dst (.slice q (l ++ [m]).length d)) w') :
    wpList Try.prog ops Q (o :: rest) a w := by
  refine wpList_appV hg s x t hop 23 16 16 h1 infoEM (by omega) hs hown hx hsl (rawM_sized (ms := [m]) (fun y hy => by simp at hy; rw [hy]; exact hm)) (by rw [rawM_length]; simp; unfold maxLen; omega) (by rw [rawM_length]; simp; omega) hlo ?_
  intro v' w' hr hB _ _
  have e : rawM l ++ [m.map byteV] = rawM (l ++ [m]) := by unfold rawM; rw [List.map_append]; rfl
  rw [e] at hr
  obtain ⟨q, d, rfl, _⟩ := hr.shape
  rw [rawM_length] at hr ⊢
  exact hK q d w' hr hB
set_option maxHeartbeats 4000000 in
theorem pick_any (va vb : Value) (a b : List (List UInt8)) (one two both : Bool) (w : World) (ha : MarksAt w va a) (hb : MarksAt w vb b) (h16a : Marks16 a) (h16b : Marks16 b) (hla : a.length ≤ 10000) (hlb : b.length ≤ 10000) (hra : rightB a = true) (hrb : rightB b = true) :
    Calls Try.prog 46 #[va, vb, .bool one, .bool two, .bool both] w fun e w' => ∃ v', e = .returned v' ∧ RowF w.heap.size 23 16 w' v' (rawM (marksR (pickA a b one two both))) ∧ Below w.heap.size w w' := by
  obtain ⟨pa, ca, rfl, hca, _⟩ := id ha
  obtain ⟨pb, cb, rfl, hcb, _⟩ := id hb
  have ka := fun X (hX : MarksAt X (.slice pa a.length ca) a) => refright9 _ a X hX h16a (by omega)
  have kb := fun X (hX : MarksAt X (.slice pb b.length cb) b) => refright9 _ b X hX h16b (by omega)
  rw [hra] at ka
  rw [hrb] at kb
  replace ka := Lib.hid ka
  replace kb := Lib.hid kb
  replace ha := Lib.hid ha
  replace hb := Lib.hid hb
  replace h16a := Lib.hid h16a
  replace h16b := Lib.hid h16b
  clear hra hrb
  go_enter Try.func46, Try.ntmps46
  go_wp2_with fail
  refine (ka.out w ha.out).mono ?_
  rintro e w1 ⟨rfl, hB1⟩
  go_wp2_with fail
  refine (kb.out w1 (hb.out.below hB1)).mono ?_
  rintro e w2 ⟨rfl, hB2⟩
  have hB := hB1.trans (hB2.mono hB1.size)
  replace hB := Lib.hid hB
  clear hB1 hB2 ka kb
  go_wp2_with fail
  go_loopw [11, 13, 26] (fun u _ c wr => ∃ i : Nat, i ≤ a.length ∧ c = .int .i64 i ∧ ∃ q d, u = .slice q ((a.take i).filter (pickP b one both)).length d ∧ Hid (RowF w.heap.size 23 16 wr (.slice q ((a.take i).filter (pickP b one both)).length d) (rawM ((a.take i).filter (pickP b one both)))) ∧ Hid (Below w.heap.size w wr)) (fun _ _ c _ => a.length - (intOf c).toNat)
  case atStart => exact ⟨0, by omega, rfl, none, 0, rfl, Lib.hid (RowF.nil _ _ _ _), hB⟩
  case round =>
    obtain ⟨i, hi, rfl, q, d, rfl, HR, HW⟩ := hrel
    by_cases hil : i < a.length
    · have e1 : decide ((i : Int) < (a.length : Int)) = true := decide_eq_true (by omega)
      obtain ⟨x, hx⟩ : ∃ x, a[i]? = some x := ⟨_, List.getElem?_eq_getElem hil⟩
      have hx16 := h16a.out x (List.mem_of_getElem? hx)
      have hfs := filter_snoc (pickP b one both) a i x hx
      have hfl : ((a.take i).filter (pickP b one both)).length ≤ 10000 := Nat.le_trans (List.length_filter_le _ _) (by rw [List.length_take]; omega)
      obtain ⟨P, hP⟩ : ∃ P, (a.take i).filter (pickP b one both) = P := ⟨_, rfl⟩
      rw [hP] at HR hfs hfl ⊢
      obtain ⟨g, o, hpe, _, hld⟩ := (ha.out.below HW.out).load h16a.out hx
      subst hpe
      have hL := hld wr (Below.refl _ _)
      have bm := boxedM wr x hx16
      have a1 := bm.a1
      have l1 := bm.l1
      have hbx := bm.b
      have R5 := HR.out.below bm.B
      have B5 := HW.out.trans (bm.B.mono HW.out.size)
      have kh := fun X (hX : MarksAt X (.slice pb b.length cb) b) => has_any _ b x hx16 X hX h16b.out (by omega)
      replace R5 := Lib.hid R5
      replace B5 := Lib.hid B5
      replace hbx := Lib.hid hbx
      replace kh := Lib.hid kh
      replace hfs := Lib.hid hfs
      replace hx16 := Lib.hid hx16
      replace hP := Lib.hid hP
      clear bm hld hx HR HW
      obtain ⟨cb', hcb'⟩ : ∃ c, b.contains x = c := ⟨_, rfl⟩
      have hpp : pickP b one both x = ((cb' && both) || (!cb' && one)) := by unfold pickP; rw [hcb']
      rw [hcb'] at kh
      replace hpp := Lib.hid hpp
      clear hcb'
      go_wp2_with (first | (refine wpList_load_at rfl _ _ rfl rfl (hL) ?_) | (refine wpList_store_at rfl _ _ _ rfl rfl rfl (a1) ?_) | (refine wpList_load_at rfl _ _ rfl rfl (l1) ?_))
      clear hL a1 l1
      generalize (wr.alloc (.cells zeroMark 23)).setCells wr.heap.size 0 (x.map byteV) = w5 at *
      generalize wr.heap.size = kx at *
      refine (kh.out w5 (hb.out.below B5.out)).mono ?_
      rintro e w6 ⟨rfl, hB6⟩
      have HBX := Lib.hid ((hB6.block _ (blk_lt hbx.out)).trans hbx.out)
      replace R5 := Lib.hid (R5.out.below hB6)
      replace B5 := Lib.hid (B5.out.trans (hB6.mono B5.out.size))
      clear hB6
      clear hbx
      cases cb' with
      | true =>
        cases both with
        | true =>
          have lx := mark_whole HBX.out hx16.out
          have mk := mk_mark x hx16.out w6
          have hBm : Below w6.heap.size w6 (w6.alloc (.cells (x.map byteV).toArray 23)) := (Below.refl _ _).alloc (Nat.le_refl _) _
          have hr8 := R5.out.below hBm
          have hs8 : SlV 16 (w6.alloc (.cells (x.map byteV).toArray 23)) (.slice (some ⟨w6.heap.size, 0, none⟩) 1 1) [x.map byteV] := SlV.lit (World.alloc_heap_new _ _) (Nat.le_refl _)
          have hlo : w.heap.size ≤ (w6.alloc (.cells (x.map byteV).toArray 23)).heap.size := Nat.le_trans B5.out.size hBm.size
          have hBa := B5.out.alloc B5.out.size (.cells (x.map byteV).toArray 23)
          have hnx : (a.take (i + 1)).filter (pickP b one true) = P ++ [x] := by rw [hfs.out, hpp.out]; rfl
          replace hr8 := Lib.hid hr8
          replace hs8 := Lib.hid hs8
          replace hBa := Lib.hid hBa
          replace hnx := Lib.hid hnx
          clear hBm R5 B5 HBX
          go_wp2_with (first | (refine wpList_load_at rfl _ _ rfl rfl lx ?_) | (refine wpList_load_w rfl rfl lx (by first | rfl | (go_simp; done)) ?_) | (refine wpList_mk_w rfl (by go_simp) mk (by first | rfl | (go_simp; done)) ?_) | (at_builtin; refine app_mark rfl _ _ 28 rfl Try.underlying28 rfl x hx16.out hr8.out rfl hs8.out (by omega) hlo ?_))
          intro q2 d2 w9 hr9 hB9
          have hB10 := hBa.out.trans hB9
          replace hr9 := Lib.hid hr9
          replace hB10 := Lib.hid hB10
          clear hB9 lx mk hr8 hs8
          go_wp2_with fail
          go_roundw
          case rel => exact ⟨i + 1, by omega, by go_num, q2, d2, by rw [hnx.out]; simp, Lib.hid (by rw [hnx.out]; simpa using hr9.out), hB10⟩
          case measure => simp [intOf]; omega
        | false =>
          have l6 := mark_whole HBX.out hx16.out
          go_wp2_with (first | (refine wpList_load_at rfl _ _ rfl rfl (l6) ?_) | (refine wpList_load_w rfl rfl (l6) (by first | rfl | (go_simp; done)) ?_))
          refine (kh.out w6 (hb.out.below B5.out)).mono ?_
          rintro e w7 ⟨rfl, hB7⟩
          replace HBX := Lib.hid ((hB7.block _ (blk_lt HBX.out)).trans HBX.out)
          replace R5 := Lib.hid (R5.out.below hB7)
          replace B5 := Lib.hid (B5.out.trans (hB7.mono B5.out.size))
          clear hB7
          clear l6
          have hnx : (a.take (i + 1)).filter (pickP b one false) = P := by rw [hfs.out, hpp.out]; simp
          replace hnx := Lib.hid hnx
          go_wp2_with fail
          go_roundw
          case rel => exact ⟨i + 1, by omega, by go_num, q, d, by rw [hnx.out], by rw [hnx.out]; exact R5, B5⟩
          case measure => simp [intOf]; omega
      | false =>
        have l6 := mark_whole HBX.out hx16.out
        go_wp2_with (first | (refine wpList_load_at rfl _ _ rfl rfl (l6) ?_) | (refine wpList_load_w rfl rfl (l6) (by first | rfl | (go_simp; done)) ?_))
        refine (kh.out w6 (hb.out.below B5.out)).mono ?_
        rintro e w7 ⟨rfl, hB7⟩
        replace HBX := Lib.hid ((hB7.block _ (blk_lt HBX.out)).trans HBX.out)
        replace R5 := Lib.hid (R5.out.below hB7)
        replace B5 := Lib.hid (B5.out.trans (hB7.mono B5.out.size))
        clear hB7
        clear l6
        cases one with
        | true =>
          have lx := mark_whole HBX.out hx16.out
          have mk := mk_mark x hx16.out w7
          have hBm : Below w7.heap.size w7 (w7.alloc (.cells (x.map byteV).toArray 23)) := (Below.refl _ _).alloc (Nat.le_refl _) _
          have hr8 := R5.out.below hBm
          have hs8 : SlV 16 (w7.alloc (.cells (x.map byteV).toArray 23)) (.slice (some ⟨w7.heap.size, 0, none⟩) 1 1) [x.map byteV] := SlV.lit (World.alloc_heap_new _ _) (Nat.le_refl _)
          have hlo : w.heap.size ≤ (w7.alloc (.cells (x.map byteV).toArray 23)).heap.size := Nat.le_trans B5.out.size hBm.size
          have hBa := B5.out.alloc B5.out.size (.cells (x.map byteV).toArray 23)
          have hnx : (a.take (i + 1)).filter (pickP b true both) = P ++ [x] := by rw [hfs.out, hpp.out]; rfl
          replace hr8 := Lib.hid hr8
          replace hs8 := Lib.hid hs8
          replace hBa := Lib.hid hBa
          replace hnx := Lib.hid hnx
          clear hBm R5 B5 HBX
          go_wp2_with (first | (refine wpList_load_at rfl _ _ rfl rfl lx ?_) | (refine wpList_load_w rfl rfl lx (by first | rfl | (go_simp; done)) ?_) | (refine wpList_mk_w rfl (by go_simp) mk (by first | rfl | (go_simp; done)) ?_) | (at_builtin; refine app_mark rfl _ _ 28 rfl Try.underlying28 rfl x hx16.out hr8.out rfl hs8.out (by omega) hlo ?_))
          intro q2 d2 w9 hr9 hB9
          have hB10 := hBa.out.trans hB9
          replace hr9 := Lib.hid hr9
          replace hB10 := Lib.hid hB10
          clear hB9 lx mk hr8 hs8
          go_wp2_with fail
          go_roundw
          case rel => exact ⟨i + 1, by omega, by go_num, q2, d2, by rw [hnx.out]; simp, Lib.hid (by rw [hnx.out]; simpa using hr9.out), hB10⟩
          case measure => simp [intOf]; omega
        | false =>
          have hnx : (a.take (i + 1)).filter (pickP b false both) = P := by rw [hfs.out, hpp.out]; simp
          replace hnx := Lib.hid hnx
          go_wp2_with fail
          go_roundw
          case rel => exact ⟨i + 1, by omega, by go_num, q, d, by rw [hnx.out], by rw [hnx.out]; exact R5, B5⟩
          case measure => simp [intOf]; omega
    · have e1 : decide ((i : Int) < (a.length : Int)) = false := decide_eq_false (by omega)
      have hR := HR.out
      rw [List.take_of_length_le (by omega)] at hR
      have hfl : (a.filter (pickP b one both)).length ≤ 10000 := Nat.le_trans (List.length_filter_le _ _) hla
      obtain ⟨PA, hPA⟩ : ∃ P, a.filter (pickP b one both) = P := ⟨_, rfl⟩
      rw [hPA] at hR hfl
      have hlt : ((a.take i).filter (pickP b one both)).length = PA.length := by rw [List.take_of_length_le (by omega), hPA]
      rw [hlt]
      have hPA16 : Marks16 PA := hPA ▸ filter_16 h16a.out
      replace hR := Lib.hid hR
      replace hPA := Lib.hid hPA
      replace hPA16 := Lib.hid hPA16
      clear HR hlt
      generalize wr = w3 at *
      go_wp2_with fail
      go_loopw [11, 15, 52] (fun u _ c wr => ∃ i : Nat, i ≤ b.length ∧ c = .int .i64 i ∧ ∃ q d, u = .slice q (PA ++ (b.take i).filter (fun m => !a.contains m && two)).length d ∧ Hid (RowF w.heap.size 23 16 wr (.slice q (PA ++ (b.take i).filter (fun m => !a.contains m && two)).length d) (rawM (PA ++ (b.take i).filter (fun m => !a.contains m && two)))) ∧ Hid (Below w.heap.size w wr)) (fun _ _ c _ => b.length - (intOf c).toNat)
      case atStart => exact ⟨0, by omega, rfl, q, d, by simp, by simpa using hR, HW⟩
      case round =>
        clear hR HW
        obtain ⟨i, hi, rfl, q, d, rfl, HR, HW⟩ := hrel
        by_cases hil : i < b.length
        · have e1 : decide ((i : Int) < (b.length : Int)) = true := decide_eq_true (by omega)
          obtain ⟨x, hx⟩ : ∃ x, b[i]? = some x := ⟨_, List.getElem?_eq_getElem hil⟩
          have hx16 := h16b.out x (List.mem_of_getElem? hx)
          have hfs := congrArg (fun l => PA ++ l) (filter_snoc (fun m => !a.contains m && two) b i x hx)
          simp only [← List.append_assoc] at hfs
          have hfl2 : ((b.take i).filter (fun m => !a.contains m && two)).length ≤ 10000 := Nat.le_trans (List.length_filter_le _ _) (by rw [List.length_take]; omega)
          have hfl3 : (PA ++ (b.take i).filter (fun m => !a.contains m && two)).length ≤ 20000 := by rw [List.length_append]; omega
          obtain ⟨P, hP⟩ : ∃ P, PA ++ (b.take i).filter (fun m => !a.contains m && two) = P := ⟨_, rfl⟩
          rw [hP] at HR hfs hfl3 ⊢
          obtain ⟨g, o, hpe, _, hld⟩ := (hb.out.below HW.out).load h16b.out hx
          subst hpe
          have hL := hld wr (Below.refl _ _)
          have bm := boxedM wr x hx16
          have a1 := bm.a1
          have l1 := bm.l1
          have hbx := bm.b
          have R5 := HR.out.below bm.B
          have B5 := HW.out.trans (bm.B.mono HW.out.size)
          have kh := fun X (hX : MarksAt X (.slice pa a.length ca) a) => has_any _ a x hx16 X hX h16a.out (by omega)
          replace R5 := Lib.hid R5
          replace B5 := Lib.hid B5
          replace hbx := Lib.hid hbx
          replace kh := Lib.hid kh
          replace hfs := Lib.hid hfs
          replace hx16 := Lib.hid hx16
          replace hP := Lib.hid hP
          clear bm hld hx HR HW hfl2
          obtain ⟨cb', hcb'⟩ : ∃ c, a.contains x = c := ⟨_, rfl⟩
          have hpp : (!a.contains x && two) = (!cb' && two) := by rw [hcb']
          rw [hcb'] at kh
          replace hpp := Lib.hid hpp
          clear hcb'
          go_wp2_with (first | (refine wpList_load_at rfl _ _ rfl rfl (hL) ?_) | (refine wpList_store_at rfl _ _ _ rfl rfl rfl (a1) ?_) | (refine wpList_load_at rfl _ _ rfl rfl (l1) ?_))
          clear hL a1 l1
          generalize (wr.alloc (.cells zeroMark 23)).setCells wr.heap.size 0 (x.map byteV) = w5 at *
          generalize wr.heap.size = kx at *
          refine (kh.out w5 (ha.out.below B5.out)).mono ?_
          rintro e w6 ⟨rfl, hB6⟩
          have HBX := Lib.hid ((hB6.block _ (blk_lt hbx.out)).trans hbx.out)
          replace R5 := Lib.hid (R5.out.below hB6)
          replace B5 := Lib.hid (B5.out.trans (hB6.mono B5.out.size))
          clear hB6
          clear hbx
          cases cb' with
          | true =>
            have hnx : PA ++ (b.take (i + 1)).filter (fun m => !a.contains m && two) = P := by rw [hfs.out, hpp.out]; simp
            replace hnx := Lib.hid hnx
            go_wp2_with fail
            go_roundw
            case rel => exact ⟨i + 1, by omega, by go_num, q, d, by rw [hnx.out], by rw [hnx.out]; exact R5, B5⟩
            case measure => simp [intOf]; omega
          | false =>
            cases two with
            | true =>
              have lx := mark_whole HBX.out hx16.out
              have mk := mk_mark x hx16.out w6
              have hBm : Below w6.heap.size w6 (w6.alloc (.cells (x.map byteV).toArray 23)) := (Below.refl _ _).alloc (Nat.le_refl _) _
              have hr8 := R5.out.below hBm
              have hs8 : SlV 16 (w6.alloc (.cells (x.map byteV).toArray 23)) (.slice (some ⟨w6.heap.size, 0, none⟩) 1 1) [x.map byteV] := SlV.lit (World.alloc_heap_new _ _) (Nat.le_refl _)
              have hlo : w.heap.size ≤ (w6.alloc (.cells (x.map byteV).toArray 23)).heap.size := Nat.le_trans B5.out.size hBm.size
              have hBa := B5.out.alloc B5.out.size (.cells (x.map byteV).toArray 23)
              have hnx : PA ++ (b.take (i + 1)).filter (fun m => !a.contains m && true) = P ++ [x] := by rw [hfs.out, hpp.out]; rfl
              replace hr8 := Lib.hid hr8
              replace hs8 := Lib.hid hs8
              replace hBa := Lib.hid hBa
              replace hnx := Lib.hid hnx
              clear hBm R5 B5 HBX
              go_wp2_with (first | (refine wpList_load_at rfl _ _ rfl rfl lx ?_) | (refine wpList_load_w rfl rfl lx (by first | rfl | (go_simp; done)) ?_) | (refine wpList_mk_w rfl (by go_simp) mk (by first | rfl | (go_simp; done)) ?_) | (at_builtin; refine app_mark rfl _ _ 28 rfl Try.underlying28 rfl x hx16.out hr8.out rfl hs8.out (by omega) hlo ?_))
              intro q2 d2 w9 hr9 hB9
              have hB10 := hBa.out.trans hB9
              replace hr9 := Lib.hid hr9
              replace hB10 := Lib.hid hB10
              clear hB9 lx mk hr8 hs8
              go_wp2_with fail
              go_roundw
              case rel => exact ⟨i + 1, by omega, by go_num, q2, d2, by rw [hnx.out]; simp, Lib.hid (by rw [hnx.out]; simpa using hr9.out), hB10⟩
              case measure => simp [intOf]; omega
            | false =>
              have hnx : PA ++ (b.take (i + 1)).filter (fun m => !a.contains m && false) = P := by rw [hfs.out, hpp.out]; simp
              replace hnx := Lib.hid hnx
              go_wp2_with fail
              go_roundw
              case rel => exact ⟨i + 1, by omega, by go_num, q, d, by rw [hnx.out], by rw [hnx.out]; exact R5, B5⟩
              case measure => simp [intOf]; omega
        · have e1 : decide ((i : Int) < (b.length : Int)) = false := decide_eq_false (by omega)
          have hl4 : (PA ++ (b.take i).filter (fun m => !a.contains m && two)).length ≤ 20000 := by
            rw [List.length_append]
            have : ((b.take i).filter (fun m => !a.contains m && two)).length ≤ 10000 := Nat.le_trans (List.length_filter_le _ _) (by rw [List.length_take]; omega)
            omega
          have hk16 : Marks16 (PA ++ (b.take i).filter (fun m => !a.contains m && two)) := fun m hm => (List.mem_append.1 hm).elim (hPA16.out m) (fun h => h16b.out m (List.mem_of_mem_take (List.mem_filter.1 h).1))
          have hmr := refmarks_any _ _ wr (marksAt_iff.2 HR.out.at) hk16 (by omega)
          have hfin : PA ++ (b.take i).filter (fun m => !a.contains m && two) = pickA a b one two both := by
            unfold pickA; rw [hPA.out, List.take_of_length_le (by omega)]
          rw [hfin] at hmr
          replace hmr := Lib.hid hmr
          rw [hfin] at hl4 ⊢
          clear hfin hk16 HR
          go_wp2_with fail
          refine hmr.out.mono ?_
          rintro e w8 ⟨v', rfl, hr8, hB8⟩
          have hr9 := hr8.lower HW.out.size
          have hB9 := HW.out.trans (hB8.mono HW.out.size)
          replace hr9 := Lib.hid hr9
          replace hB9 := Lib.hid hB9
          clear hr8 hB8 hmr
          go_wp2_with fail
          go_ret
          exact ⟨_, rfl, hr9.out, hB9.out⟩
end Go.Proofs.Ytkdbbdlkfpjdfaa
