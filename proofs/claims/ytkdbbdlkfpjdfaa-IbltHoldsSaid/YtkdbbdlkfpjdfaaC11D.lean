/- Law IbltHolds: the walk.
   Conditions: those that each theorem names. -/
import Derived.Test.YtkdbbdlkfpjdfaaC11A
import Derived.Test.YtkdbbdlkfpjdfaaIbV
import Derived.Test.YtkdbbdlkfpjdfaaMakeM
namespace Go.Proofs.Ytkdbbdlkfpjdfaa
set_option maxRecDepth 100000
set_option linter.unusedVariables false
set_option linter.unusedSimpArgs false
open Go.RowKit Go.Rg
set_option linter.unusedVariables false
attribute [local go_sem] cellV
set_option maxHeartbeats 4000000 in
theorem iholds_out (n : Int) (va vb : Value) (a b : List (List UInt8)) (hr : ¬ (fitsC n ∧ n ≤ 300 ∧ a.length ≤ 60 ∧ b.length ≤ 60)) (w : World) (ha : MarksAt w va a) (hb : MarksAt w vb b) :
    Calls Try.prog 8 #[.int .i64 n, va, vb] w fun e w' => e = .returned (.bool true) ∧ Below w.heap.size w w' := by
  obtain ⟨pa, ca, rfl, _⟩ := id ha
  obtain ⟨pb, cb, rfl, _⟩ := id hb
  clear ha hb
  by_cases hn : fitsC n
  · by_cases h3 : 300 < n
    · have e3 : decide ((300 : Int) < n) = true := decide_eq_true h3
      clear hr
      go_enter Try.func8, Try.ntmps8
      go_wp2_with fail
      refine (first11 w).mono ?_
      rintro e w1 ⟨rfl, hB1⟩
      go_wp2_with fail
      refine (rfits_yes n hn w1).mono ?_
      rintro e w' ⟨rfl, rfl⟩
      go_wp2_with fail
      go_ret
      exact ⟨rfl, hB1⟩
    · have e3 : decide ((300 : Int) < n) = false := decide_eq_false h3
      by_cases h6 : 60 < a.length
      · have e6 : decide ((60 : Int) < (a.length : Int)) = true := decide_eq_true (by omega)
        clear hr
        go_enter Try.func8, Try.ntmps8
        go_wp2_with fail
        refine (first11 w).mono ?_
        rintro e w1 ⟨rfl, hB1⟩
        go_wp2_with fail
        refine (rfits_yes n hn w1).mono ?_
        rintro e w' ⟨rfl, rfl⟩
        go_wp2_with fail
        go_ret
        exact ⟨rfl, hB1⟩
      · have h7 : 60 < b.length := by
          rcases Nat.lt_or_ge 60 b.length with h | h
          · exact h
          · exact absurd ⟨hn, by omega, by omega, h⟩ hr
        have e6 : decide ((60 : Int) < (a.length : Int)) = false := decide_eq_false (by omega)
        have e7 : decide ((60 : Int) < (b.length : Int)) = true := decide_eq_true (by omega)
        clear hr
        go_enter Try.func8, Try.ntmps8
        go_wp2_with fail
        refine (first11 w).mono ?_
        rintro e w1 ⟨rfl, hB1⟩
        go_wp2_with fail
        refine (rfits_yes n hn w1).mono ?_
        rintro e w' ⟨rfl, rfl⟩
        go_wp2_with fail
        go_ret
        exact ⟨rfl, hB1⟩
  · clear hr
    go_enter Try.func8, Try.ntmps8
    go_wp2_with fail
    refine (first11 w).mono ?_
    rintro e w1 ⟨rfl, hB1⟩
    go_wp2_with fail
    refine (rfits_no n hn w1).mono ?_
    rintro e w' ⟨rfl, rfl⟩
    go_wp2_with fail
    go_ret
    exact ⟨rfl, hB1⟩
def backL (x : List (List UInt8)) (i : Nat) : List (List UInt8) := List.replicate (x.length - i) zM ++ (x.take i).reverse
theorem backL_length (x : List (List UInt8)) (i : Nat) (hi : i ≤ x.length) : (backL x i).length = x.length := by unfold backL; simp; omega
theorem backL_set (x : List (List UInt8)) (i : Nat) (m : List UInt8) (hm : x[i]? = some m) : (backL x i).set (x.length - 1 - i) m = backL x (i + 1) := by
  have hi := (List.getElem?_eq_some_iff.1 hm).1
  unfold backL
  rw [List.set_append_left _ _ (by simp; omega), List.take_add_one, hm, List.reverse_append]
  show _ = _ ++ ([m] ++ (x.take i).reverse)
  rw [← List.append_assoc]
  congr 1
  rw [show x.length - i = (x.length - 1 - i) + 1 by omega, List.replicate_succ', List.set_append_right _ _ (by simp)]
  simp
  omega
theorem backL_all (x : List (List UInt8)) : backL x x.length = x.reverse := by unfold backL; simp
set_option maxHeartbeats 8000000 in
theorem iholds_in (t : Nat) (hn : fitsC ((3 * t : Nat) : Int)) (h3 : 3 * t ≤ 300) (va vb : Value) (a b : List (List UInt8)) (h60a : a.length ≤ 60) (h60b : b.length ≤ 60) (h16a : Marks16 a) (h16b : Marks16 b) (w : World) (ha : MarksAt w va a) (hb : MarksAt w vb b) :
    Calls Try.prog 8 #[.int .i64 ((3 * t : Nat) : Int), va, vb] w fun e w' => e = .returned (.bool true) ∧ Below w.heap.size w w' := by
  have ht : 0 < t := by have := hn.1; omega
  obtain ⟨pa, ca, rfl, hca, _⟩ := id ha
  obtain ⟨pb, cb, rfl, hcb, _⟩ := id hb
  have e3 : decide ((300 : Int) < ((3 * t : Nat) : Int)) = false := decide_eq_false (by omega)
  have e6 : decide ((60 : Int) < (a.length : Int)) = false := decide_eq_false (by omega)
  have e7 : decide ((60 : Int) < (b.length : Int)) = false := decide_eq_false (by omega)
  have hma := fun X hX => refmarks_any (.slice pa a.length ca) a X hX h16a (by omega)
  have hmb := fun X hX => refmarks_any (.slice pb b.length cb) b X hX h16b (by omega)
  have hsx := marksR_sort a
  have hsy := marksR_sort b
  have h16x := marksR_16 h16a
  have h16y := marksR_16 h16b
  have hlx := marksR_length h16a
  have hly := marksR_length h16b
  generalize marksR a = x at *
  generalize marksR b = y at *
  have hx60 : x.length ≤ 60 := by omega
  have hy60 : y.length ≤ 60 := by omega
  have hdiff := holds_diff t ht x y hsx hsy h16x h16y
  have hrev := putAll_perm t ht (List.reverse_perm x) (List.replicate (3 * t) Ce.zero) (zeros_len t)
  have hback := putAll_back t ht x (List.replicate (3 * t) Ce.zero) h16x (zeros_len t) (oks_zeros _)
  have he0 : emptyB (List.replicate (3 * t) Ce.zero) = true := (empty_iff _).2 (by rw [List.length_replicate])
  have hlen : ∀ l, (putAll Ce.add (List.replicate (3 * t) Ce.zero) l).length = 3 * t := fun l => putAll_len _ (zeros_len t) l
  have hok : ∀ l, Marks16 l → Oks (putAll Ce.add (List.replicate (3 * t) Ce.zero) l) := fun l h => putAll_ok h (oks_zeros _)
  have kp1 := fun vx vy X hX hY => pick_any vx vy x y true false false X hX hY h16x h16y (by omega) (by omega) (sort_right hsx) (sort_right hsy)
  have kp2 := fun vx vy X hX hY => pick_any vx vy x y false true false X hX hY h16x h16y (by omega) (by omega) (sort_right hsx) (sort_right hsy)
  have h16p1 : Marks16 (pickA x y true false false) := fun m hm => (List.mem_append.1 hm).elim (fun h => h16x m (List.mem_filter.1 h).1) (fun h => h16y m (List.mem_filter.1 h).1)
  have h16p2 : Marks16 (pickA x y false true false) := fun m hm => (List.mem_append.1 hm).elim (fun h => h16x m (List.mem_filter.1 h).1) (fun h => h16y m (List.mem_filter.1 h).1)
  have hlp1 : (pickA x y true false false).length ≤ 120 := by unfold pickA; rw [List.length_append]; have h1 := List.length_filter_le (pickP y true false) x; have h2 := List.length_filter_le (fun m => !x.contains m && false) y; omega
  have hlp2 : (pickA x y false true false).length ≤ 120 := by unfold pickA; rw [List.length_append]; have h1 := List.length_filter_le (pickP y false false) x; have h2 := List.length_filter_le (fun m => !x.contains m && true) y; omega
  have h16q1 := marksR_16 h16p1
  have h16q2 := marksR_16 h16p2
  have hlq1 := marksR_length h16p1
  have hlq2 := marksR_length h16p2
  generalize marksR (pickA x y true false false) = q1 at *
  generalize marksR (pickA x y false true false) = q2 at *
  have hq1l : q1.length ≤ 120 := by omega
  have hq2l : q2.length ≤ 120 := by omega
  have kO := fun v ms X hX h16 hl => cof_any (3 * t) hn v ms X hX h16 hl
  have kR := rfits_yes _ hn
  have hz : (List.replicate (3 * t) Ce.zero).length = 3 * t := zeros_len t
  have hokz := oks_zeros (3 * t)
  generalize List.replicate (3 * t) Ce.zero = Z at *
  have hq0 : 0 < 3 * t := by omega
  have hkr : ∀ l : List Ce, l.length = 3 * t → fitsC (l.length : Int) := fun l hl => by rw [hl]; exact hn
  generalize hN : 3 * t = q at *
  replace ha := Lib.hid ha
  replace hb := Lib.hid hb
  replace hma := Lib.hid hma
  replace hmb := Lib.hid hmb
  replace hsx := Lib.hid hsx
  replace hsy := Lib.hid hsy
  replace h16x := Lib.hid h16x
  replace h16y := Lib.hid h16y
  replace hdiff := Lib.hid hdiff
  replace hrev := Lib.hid hrev
  replace hback := Lib.hid hback
  replace he0 := Lib.hid he0
  replace hlen := Lib.hid hlen
  replace hok := Lib.hid hok
  replace kp1 := Lib.hid kp1
  replace kp2 := Lib.hid kp2
  replace h16q1 := Lib.hid h16q1
  replace h16q2 := Lib.hid h16q2
  replace kO := Lib.hid kO
  replace kR := Lib.hid kR
  replace hz := Lib.hid hz
  replace hokz := Lib.hid hokz
  replace hkr := Lib.hid hkr
  replace hN := Lib.hid hN
  clear hn h16a h16b hlx hly h16p1 h16p2 hlp1 hlp2 hlq1 hlq2
  go_enter Try.func8, Try.ntmps8
  go_wp2_with fail
  refine (first11 w).mono ?_
  rintro e w1 ⟨rfl, hB⟩
  have BW := hB
  replace BW := Lib.hid BW
  clear hB
  go_wp2_with fail
  refine (kR.out w1).mono ?_
  rintro e w' ⟨rfl, rfl⟩
  go_wp2_with fail
  refine (hma.out w1 (ha.out.below BW.out)).mono ?_
  rintro e w2 ⟨vx, rfl, HX, hB⟩
  obtain ⟨px, cx, rfl, hcx⟩ := HX.shape
  rw [rawM_length] at HX hcx ⊢
  have hxl0 : ∀ g, (Value.slice px x.length cx).ownBlock = some g → g < w2.heap.size := fun g hg => HX.own.lt hg
  replace HX := Lib.hid HX
  replace BW := Lib.hid (BW.out.trans (hB.mono BW.out.size))
  clear hB
  go_wp2_with fail
  refine (hmb.out w2 (hb.out.below BW.out)).mono ?_
  rintro e w3 ⟨vy, rfl, HY, hB⟩
  obtain ⟨py, cy, rfl, hcy⟩ := HY.shape
  rw [rawM_length] at HY hcy ⊢
  replace HY := Lib.hid HY
  have hs23 : w2.heap.size ≤ w3.heap.size := hB.size
  replace HX := Lib.hid (HX.out.below hB)
  replace BW := Lib.hid (BW.out.trans (hB.mono BW.out.size))
  clear hB
  clear hma hmb
  have hsw : w.heap.size ≤ w3.heap.size := BW.out.size
  go_wp2_with fail
  refine (kO.out _ x w3 (marksAt_iff.2 HX.out.at) h16x.out (by omega)).mono ?_
  rintro e w4 ⟨ks, vs, rfl, HS, hks, hgs, hB⟩
  replace HS := Lib.hid HS
  replace HX := Lib.hid (HX.out.below hB)
  replace HY := Lib.hid (HY.out.below hB)
  replace BW := Lib.hid (BW.out.trans (hB.mono BW.out.size))
  clear hB
  go_wp2_with fail
  refine (kO.out _ y w4 (marksAt_iff.2 HY.out.at) h16y.out (by omega)).mono ?_
  rintro e w5 ⟨kt, vt, rfl, HT, hkt, hgt, hB⟩
  replace HT := Lib.hid HT
  have hs45 : w4.heap.size ≤ w5.heap.size := hB.size
  have hgs4 : ∀ g, vs.ownBlock = some g → g < w4.heap.size := fun g hg => HS.out.o.lt hg
  have hks4 : ks < w4.heap.size := HS.out.lt
  have hxl : ∀ g, (Value.slice px x.length cx).ownBlock = some g → g < w3.heap.size := by
    intro g hg
    exact Nat.lt_of_lt_of_le (hxl0 g hg) hs23
  replace HX := Lib.hid (HX.out.below hB)
  replace HY := Lib.hid (HY.out.below hB)
  replace HS := Lib.hid (HS.out.below hB)
  replace BW := Lib.hid (BW.out.trans (hB.mono BW.out.size))
  clear hB
  have mk := make_marks x.length (by omega) w5
  have hr0 := RowM.made w.heap.size x.length (by omega) w5 BW.out.size
  have hBm : Below w5.heap.size w5 (w5.alloc (.cells (rawM (List.replicate x.length zM)).flatten.toArray 23)) := (Below.refl _ _).alloc (Nat.le_refl _) _
  go_wp2_with (first | (refine wpList_msl_at rfl rfl rfl rfl mk ?_))
  clear mk
  generalize w5.alloc (.cells (rawM (List.replicate x.length zM)).flatten.toArray 23) = w6 at *
  generalize hkb : w5.heap.size = kb at *
  have hr0' : RowF w.heap.size 23 16 w6 (.slice (some ⟨kb, 0, none⟩) x.length x.length) (rawM (backL x 0)) := by
    have : backL x 0 = List.replicate x.length zM := by unfold backL; simp
    rw [this]; exact hr0
  replace hr0' := Lib.hid hr0'
  replace hBm := Lib.hid hBm
  clear hr0
  go_loopw [14, 15, 69] (fun _ _ c wr => ∃ i : Nat, i ≤ x.length ∧ c = .int .i64 i ∧ Hid (RowF w.heap.size 23 16 wr (.slice (some ⟨kb, 0, none⟩) x.length x.length) (rawM (backL x i))) ∧ Hid (Touch (fun b => b = kb) w6 wr)) (fun _ _ c _ => x.length - (intOf c).toNat)
  case atStart => exact ⟨0, by omega, rfl, hr0', Lib.hid (Touch.refl _ _)⟩
  case round =>
    obtain ⟨i, hi, rfl, HR, HT2⟩ := hrel
    have hB6r : Below kb w6 wr := HT2.out.below (n := kb) (fun j hj => by show kb ≤ j; rw [hj]; exact Nat.le_refl _) (by have := hBm.out.size; omega)
    have hB5r : Below w5.heap.size w5 wr := by rw [hkb]; exact hBm.out.trans hB6r
    by_cases hil : i < x.length
    · have e1 : decide ((i : Int) < (x.length : Int)) = true := decide_eq_true (by omega)
      obtain ⟨m, hm⟩ : ∃ m, x[i]? = some m := ⟨_, List.getElem?_eq_getElem hil⟩
      have hm16 := h16x.out m (List.mem_of_getElem? hm)
      obtain ⟨g, o, hpe, _, hld⟩ := RowM.load (HX.out.below hB5r) h16x.out hm
      subst hpe
      have hL := hld wr (Below.refl _ _)
      have bm := boxedM wr m hm16
      have a1 := bm.a1
      have l1 := bm.l1
      obtain ⟨j, hj⟩ : ∃ j, x.length - 1 - i = j := ⟨_, rfl⟩
      have hjl : j < x.length := by omega
      have e5 : (x.length : Int) - 1 - (i : Int) = (j : Int) := by omega
      have j0 : (0 : Int) ≤ (j : Int) := Int.natCast_nonneg _
      have j1 : (j : Int) < (x.length : Int) := by omega
      have hst := RowM.store (HR.out.below bm.B) (i := j) (by rw [backL_length x i (by omega)]; exact hjl) hm16
      have hbs := backL_set x i m hm
      rw [hj] at hbs
      rw [hbs] at hst
      obtain ⟨-, hst1, hst2⟩ := hst
      have hT7 := (HT2.out.trans (Touch.of_below (M := fun b => b = kb) bm.B) (fun _ _ h => h)).setCells kb (j * 16) (m.map byteV) (.inl rfl)
      replace hst2 := Lib.hid hst2
      replace hT7 := Lib.hid hT7
      clear bm hld hm HR HT2 hB6r hB5r hbs hj
      go_wp2_with (first | (refine wpList_load_at rfl _ _ rfl rfl (hL) ?_) | (refine wpList_store_at rfl _ _ _ rfl rfl rfl (a1) ?_) | (refine wpList_load_at rfl _ _ rfl rfl (l1) ?_) | (refine wpList_store_at rfl _ _ _ rfl rfl rfl (hst1) ?_))
      go_roundw
      case rel => exact ⟨i + 1, by omega, by go_num, hst2, hT7⟩
      case measure => simp [intOf]; omega
    · have e1 : decide ((i : Int) < (x.length : Int)) = false := decide_eq_false (by omega)
      have hRb := HR.out
      rw [show i = x.length by omega, backL_all] at hRb
      have hBx : Below w5.heap.size w5 wr := hB5r
      have hs5r : w5.heap.size ≤ wr.heap.size := hBx.size
      replace HX := Lib.hid (HX.out.below hBx)
      replace HY := Lib.hid (HY.out.below hBx)
      replace HS := Lib.hid (HS.out.below hBx)
      replace HT := Lib.hid (HT.out.below hBx)
      replace BW := Lib.hid (BW.out.trans (hBx.mono BW.out.size))
      clear hBx
      replace hRb := Lib.hid hRb
      clear HR HT2 hB6r hB5r e1 hr0' hBm
      generalize wr = w7 at *
      have h16r : Marks16 x.reverse := fun m hm => h16x.out m (List.mem_reverse.1 hm)
      go_wp2_with fail
      refine (kO.out _ x.reverse w7 (marksAt_iff.2 hRb.out.at) h16r (by simp; omega)).mono ?_
      rintro e w8 ⟨ku, vu, rfl, HU, hku, hgu, hB⟩
      rw [hrev.out] at HU
      replace HU := Lib.hid HU
      have hs78 : w7.heap.size ≤ w8.heap.size := hB.size
      replace HX := Lib.hid (HX.out.below hB)
      replace HY := Lib.hid (HY.out.below hB)
      replace HS := Lib.hid (HS.out.below hB)
      replace HT := Lib.hid (HT.out.below hB)
      replace BW := Lib.hid (BW.out.trans (hB.mono BW.out.size))
      clear hB
      clear hRb h16r
      obtain ⟨S, hS⟩ : ∃ S, putAll Ce.add Z x = S := ⟨_, rfl⟩
      have hSl : S.length = q := hS ▸ hlen.out x
      have hSk : Oks S := hS ▸ hok.out x h16x.out
      obtain ⟨T, hTT⟩ : ∃ T, putAll Ce.add Z y = T := ⟨_, rfl⟩
      have hTl : T.length = q := hTT ▸ hlen.out y
      rw [hS] at HS HU
      rw [hTT] at HT
      have hdf := hdiff.out
      rw [hS, hTT] at hdf
      have hbk := hback.out
      rw [hS] at hbk
      replace hSk := Lib.hid hSk
      replace hdf := Lib.hid hdf
      replace hbk := Lib.hid hbk
      clear hdiff hback hS hTT hrev
      go_wp2_with fail
      refine (lawcells_any ks vs S 1536 w8 HS.out (by omega)).mono ?_
      rintro e w9 ⟨v1, rfl, hO1, -, hB⟩
      rw [List.take_of_length_le (by show S.length ≤ 1536; omega)] at hO1
      replace hO1 := Lib.hid hO1
      have z89 := hB.size
      replace HX := Lib.hid (HX.out.below hB)
      replace HY := Lib.hid (HY.out.below hB)
      replace HS := Lib.hid (HS.out.below hB)
      replace HT := Lib.hid (HT.out.below hB)
      replace HU := Lib.hid (HU.out.below hB)
      replace BW := Lib.hid (BW.out.trans (hB.mono BW.out.size))
      clear hB
      go_wp2_with fail
      refine (lawcells_any ku vu S 1536 w9 HU.out (by omega)).mono ?_
      rintro e w10 ⟨v2, rfl, hO2, -, hB⟩
      rw [List.take_of_length_le (by show S.length ≤ 1536; omega)] at hO2
      replace hO2 := Lib.hid hO2
      have z910 := hB.size
      replace HX := Lib.hid (HX.out.below hB)
      replace HY := Lib.hid (HY.out.below hB)
      replace HS := Lib.hid (HS.out.below hB)
      replace HT := Lib.hid (HT.out.below hB)
      replace HU := Lib.hid (HU.out.below hB)
      replace hO1 := Lib.hid (hO1.out.below hB)
      replace BW := Lib.hid (BW.out.trans (hB.mono BW.out.size))
      clear hB
      go_wp2_with fail
      refine (refsame_any v1 v2 S S w10 (cellsAt_iff.2 hO1.out.at) (cellsAt_iff.2 hO2.out.at) hSk.out hSk.out (by omega) (by omega)).mono ?_
      rintro e w11 ⟨rfl, hB⟩
      rw [sameB_self]
      have z1011 := hB.size
      replace HX := Lib.hid (HX.out.below hB)
      replace HY := Lib.hid (HY.out.below hB)
      replace HS := Lib.hid (HS.out.below hB)
      replace HT := Lib.hid (HT.out.below hB)
      replace HU := Lib.hid (HU.out.below hB)
      replace BW := Lib.hid (BW.out.trans (hB.mono BW.out.size))
      clear hB
      clear hO1 hO2
      go_wp2_with fail
      refine (csub_any ks kt vs vt S T w11 HS.out HT.out (by omega) (by omega) (by omega)).mono ?_
      rintro e w12 ⟨kd, vd, rfl, HD, hkd, hgd, hB⟩
      replace HD := Lib.hid HD
      have z1112 := hB.size
      have z411 : w4.heap.size ≤ w11.heap.size := by omega
      have z47 : w4.heap.size ≤ w7.heap.size := by omega
      replace HX := Lib.hid (HX.out.below hB)
      replace HY := Lib.hid (HY.out.below hB)
      replace HS := Lib.hid (HS.out.below hB)
      replace HT := Lib.hid (HT.out.below hB)
      replace HU := Lib.hid (HU.out.below hB)
      replace BW := Lib.hid (BW.out.trans (hB.mono BW.out.size))
      clear hB
      go_wp2_with fail
      refine (kp1.out _ _ w12 (marksAt_iff.2 HX.out.at) (marksAt_iff.2 HY.out.at)).mono ?_
      rintro e w13 ⟨vp1, rfl, HP1, hB⟩
      obtain ⟨pp1, cp1, rfl, _⟩ := HP1.shape
      rw [rawM_length] at HP1 ⊢
      replace HP1 := Lib.hid HP1
      have z1213 := hB.size
      replace HX := Lib.hid (HX.out.below hB)
      replace HY := Lib.hid (HY.out.below hB)
      replace HS := Lib.hid (HS.out.below hB)
      replace HT := Lib.hid (HT.out.below hB)
      replace HU := Lib.hid (HU.out.below hB)
      replace HD := Lib.hid (HD.out.below hB)
      replace BW := Lib.hid (BW.out.trans (hB.mono BW.out.size))
      clear hB
      go_wp2_with fail
      refine (kO.out _ q1 w13 (marksAt_iff.2 HP1.out.at) h16q1.out (by omega)).mono ?_
      rintro e w14 ⟨kp, vp, rfl, HP, hkp, hgp, hB⟩
      replace HP := Lib.hid HP
      have z1314 := hB.size
      replace HX := Lib.hid (HX.out.below hB)
      replace HY := Lib.hid (HY.out.below hB)
      replace HS := Lib.hid (HS.out.below hB)
      replace HT := Lib.hid (HT.out.below hB)
      replace HU := Lib.hid (HU.out.below hB)
      replace HD := Lib.hid (HD.out.below hB)
      replace BW := Lib.hid (BW.out.trans (hB.mono BW.out.size))
      clear hB
      clear HP1
      go_wp2_with fail
      refine (kp2.out _ _ w14 (marksAt_iff.2 HX.out.at) (marksAt_iff.2 HY.out.at)).mono ?_
      rintro e w15 ⟨vp2, rfl, HP2, hB⟩
      obtain ⟨pp2, cp2, rfl, _⟩ := HP2.shape
      rw [rawM_length] at HP2 ⊢
      replace HP2 := Lib.hid HP2
      have z1415 := hB.size
      replace HX := Lib.hid (HX.out.below hB)
      replace HY := Lib.hid (HY.out.below hB)
      replace HS := Lib.hid (HS.out.below hB)
      replace HT := Lib.hid (HT.out.below hB)
      replace HU := Lib.hid (HU.out.below hB)
      replace HD := Lib.hid (HD.out.below hB)
      replace HP := Lib.hid (HP.out.below hB)
      replace BW := Lib.hid (BW.out.trans (hB.mono BW.out.size))
      clear hB
      go_wp2_with fail
      refine (kO.out _ q2 w15 (marksAt_iff.2 HP2.out.at) h16q2.out (by omega)).mono ?_
      rintro e w16 ⟨km, vm, rfl, HM, hkm, hgm, hB⟩
      replace HM := Lib.hid HM
      have z1516 := hB.size
      replace HX := Lib.hid (HX.out.below hB)
      replace HY := Lib.hid (HY.out.below hB)
      replace HS := Lib.hid (HS.out.below hB)
      replace HT := Lib.hid (HT.out.below hB)
      replace HU := Lib.hid (HU.out.below hB)
      replace HD := Lib.hid (HD.out.below hB)
      replace HP := Lib.hid (HP.out.below hB)
      replace BW := Lib.hid (BW.out.trans (hB.mono BW.out.size))
      clear hB
      clear HP2 kp1 kp2
      go_wp2_with fail
      refine (csub_any kp km vp vm _ _ w16 HP.out HM.out (by rw [hlen.out, hlen.out]) (by rw [hlen.out]; exact hq0) (by rw [hlen.out]; omega)).mono ?_
      rintro e w17 ⟨kw, vw, rfl, HW, hkw, hgw, hB⟩
      rw [← hdf.out] at HW
      replace HW := Lib.hid HW
      have z1617 := hB.size
      have z416 : w4.heap.size ≤ w16.heap.size := by omega
      replace HX := Lib.hid (HX.out.below hB)
      replace HS := Lib.hid (HS.out.below hB)
      replace HT := Lib.hid (HT.out.below hB)
      replace HU := Lib.hid (HU.out.below hB)
      replace HD := Lib.hid (HD.out.below hB)
      replace BW := Lib.hid (BW.out.trans (hB.mono BW.out.size))
      clear hB
      clear HP HM hdf HY
      go_wp2_with fail
      go_loopw [28, 124] (fun _ c wr => ∃ i : Nat, i ≤ x.length ∧ c = .int .i64 i ∧ Hid (SkAt ks vs (putAll Ce.sub S (x.take i)) wr) ∧ Hid (Touch (fun b => vs.ownBlock = some b) w17 wr)) (fun _ c _ => x.length - (intOf c).toNat)
      case atStart => exact ⟨0, by omega, rfl, HS, Lib.hid (Touch.refl _ _)⟩
      case round =>
        clear HS
        obtain ⟨i, hi, rfl, HR, HTo⟩ := hrel
        have hXr := HX.out.kept (fun g hg => HTo.out.block g (HX.out.own.lt hg) (fun e => by have := hxl g hg; have := hgs g e; omega))
        by_cases hil : i < x.length
        · have e1 : decide ((i : Int) < (x.length : Int)) = true := decide_eq_true (by omega)
          obtain ⟨m, hm⟩ : ∃ m, x[i]? = some m := ⟨_, List.getElem?_eq_getElem hil⟩
          have hm16 := h16x.out m (List.mem_of_getElem? hm)
          obtain ⟨g, o, hpe, _, hld⟩ := RowM.load hXr h16x.out hm
          subst hpe
          have hL := hld wr (Below.refl _ _)
          have bm := boxedM wr m hm16
          have a1 := bm.a1
          have l1 := bm.l1
          have hc := cremove_any ks vs _ m _ (HR.out.below bm.B) (hkr.out _ (by rw [putAll_length]; exact hSl)) hm16
          have hnx : putC Ce.sub (putAll Ce.sub S (x.take i)) m = putAll Ce.sub S (x.take (i + 1)) := by rw [← putAll_snoc, List.take_add_one, hm]; rfl
          rw [hnx] at hc
          unfold markV at hc
          have hT5 := HTo.out.trans (Touch.of_below (M := fun b => vs.ownBlock = some b) bm.B) (fun _ _ h => h)
          replace hc := Lib.hid hc
          replace hT5 := Lib.hid hT5
          clear bm hld hm hnx HR HTo hXr hm16
          go_wp2_with (first | (refine wpList_load_at rfl _ _ rfl rfl (hL) ?_) | (refine wpList_store_at rfl _ _ _ rfl rfl rfl (a1) ?_) | (refine wpList_load_at rfl _ _ rfl rfl (l1) ?_))
          refine hc.out.mono ?_
          rintro e w18 ⟨⟨u, rfl⟩, hS2, hT6⟩
          have hT7 := hT5.out.trans hT6 (fun _ _ h => h)
          replace hS2 := Lib.hid hS2
          replace hT7 := Lib.hid hT7
          clear hc hT5 hT6 hL a1 l1
          go_wp2_with fail
          go_roundw
          case rel => exact ⟨i + 1, by omega, by go_num, hS2, hT7⟩
          case measure => simp [intOf]; omega
        · have e1 : decide ((i : Int) < (x.length : Int)) = false := decide_eq_false (by omega)
          have hR := HR.out
          rw [List.take_of_length_le (by omega), hbk.out] at hR
          have nT : ∀ {k : Nat} {v : Value} {cs : List Ce}, SkAt k v cs w17 → w4.heap.size ≤ k → (∀ g, v.ownBlock = some g → w4.heap.size ≤ g) → SkAt k v cs wr := fun h h1 h2 =>
            h.touch HTo.out (fun e => by have := hgs4 _ e; omega) (fun g hg e => by have := hgs4 _ e; have := h2 g hg; omega)
          replace HT := Lib.hid (nT HT.out hkt hgt)
          replace HU := Lib.hid (nT HU.out (by omega) (fun g hg => by have := hgu g hg; omega))
          replace HD := Lib.hid (nT HD.out (by omega) (fun g hg => by have := hgd g hg; omega))
          replace HW := Lib.hid (nT HW.out (by omega) (fun g hg => by have := hgw g hg; omega))
          replace BW := Lib.hid (BW.out.trans (HTo.out.below (n := w.heap.size) (fun j hj => by have := hgs j hj; have := hsw; omega) BW.out.size))
          replace hR := Lib.hid hR
          clear HR HTo hXr HX nT e1
          generalize wr = w18 at *
          have hDl : (subL S T).length = q := by rw [subL_length]; exact hSl
          have hDk : Oks (subL S T) := HD.out.ok
          generalize subL S T = D at *
          go_wp2_with fail
          refine (lawcells_any kd vd D 1536 w18 HD.out (by omega)).mono ?_
          rintro e w19 ⟨v1, rfl, hO1, -, hB⟩
          rw [List.take_of_length_le (by show D.length ≤ 1536; omega)] at hO1
          replace hO1 := Lib.hid hO1
          replace hR := Lib.hid (hR.out.below hB)
          replace HT := Lib.hid (HT.out.below hB)
          replace HU := Lib.hid (HU.out.below hB)
          replace HW := Lib.hid (HW.out.below hB)
          replace BW := Lib.hid (BW.out.trans (hB.mono BW.out.size))
          clear hB
          go_wp2_with fail
          refine (lawcells_any kw vw D 1536 w19 HW.out (by omega)).mono ?_
          rintro e w20 ⟨v2, rfl, hO2, -, hB⟩
          rw [List.take_of_length_le (by show D.length ≤ 1536; omega)] at hO2
          replace hO2 := Lib.hid hO2
          replace hR := Lib.hid (hR.out.below hB)
          replace HT := Lib.hid (HT.out.below hB)
          replace HU := Lib.hid (HU.out.below hB)
          replace hO1 := Lib.hid (hO1.out.below hB)
          replace BW := Lib.hid (BW.out.trans (hB.mono BW.out.size))
          clear hB
          go_wp2_with fail
          refine (refsame_any v1 v2 D D w20 (cellsAt_iff.2 hO1.out.at) (cellsAt_iff.2 hO2.out.at) hDk hDk (by omega) (by omega)).mono ?_
          rintro e w21 ⟨rfl, hB⟩
          rw [sameB_self]
          replace hR := Lib.hid (hR.out.below hB)
          replace HT := Lib.hid (HT.out.below hB)
          replace HU := Lib.hid (HU.out.below hB)
          replace BW := Lib.hid (BW.out.trans (hB.mono BW.out.size))
          clear hB
          clear hO1 hO2
          go_wp2_with fail
          refine (cempty_any ks vs Z w21 hR.out (by rw [hz.out]; omega)).mono ?_
          rintro e w22 ⟨rfl, hB⟩
          rw [he0.out]
          replace HT := Lib.hid (HT.out.below hB)
          replace HU := Lib.hid (HU.out.below hB)
          replace BW := Lib.hid (BW.out.trans (hB.mono BW.out.size))
          clear hB
          go_wp2_with fail
          refine (lawcells_any ku vu S 1536 w22 HU.out (by omega)).mono ?_
          rintro e w23 ⟨v3, rfl, hO3, -, hB⟩
          rw [List.take_of_length_le (by show S.length ≤ 1536; omega)] at hO3
          obtain ⟨p3, c3, rfl, _, _, _⟩ := hO3.shape
          rw [rawC_length, hSl] at hO3 ⊢
          replace HT := Lib.hid (HT.out.below hB)
          replace BW := Lib.hid (BW.out.trans (hB.mono BW.out.size))
          clear hB
          clear hO3
          go_wp2_with fail
          refine (csize_any kt vt T w23 HT.out).mono ?_
          rintro e w' ⟨rfl, rfl⟩
          rw [hTl]
          go_wp2_with fail
          go_ret
          exact ⟨rfl, BW.out⟩
theorem iholds_walk (n : Int) (va vb : Value) (a b : List (List UInt8)) (h16a : Marks16 a) (h16b : Marks16 b) (w : World) (ha : MarksAt w va a) (hb : MarksAt w vb b) :
    Calls Try.prog 8 #[.int .i64 n, va, vb] w fun e w' => e = .returned (.bool true) ∧ Below w.heap.size w w' := by
  by_cases hn : fitsC n ∧ n ≤ 300 ∧ a.length ≤ 60 ∧ b.length ≤ 60
  · obtain ⟨h1, h2, h3, h4⟩ := hn
    obtain ⟨t, rfl⟩ : ∃ t : Nat, n = ((3 * t : Nat) : Int) := ⟨(n / 3).toNat, by obtain ⟨h1, h2, h3⟩ := h1; omega⟩
    exact iholds_in t h1 (by omega) va vb a b h3 h4 h16a h16b w ha hb
  · exact iholds_out n va vb a b hn w ha hb
end Go.Proofs.Ytkdbbdlkfpjdfaa
