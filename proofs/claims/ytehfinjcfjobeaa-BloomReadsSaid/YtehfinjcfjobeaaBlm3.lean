/- Filters read: the document's bits of bytes.
   Conditions: those that each theorem names. -/
import Derived.Test.YtehfinjcfjobeaaBlm2
import Derived.IntWalk
import Derived.Deep.CutBlock
import Derived.Deep.DeepCutAuto
namespace Go.Proofs.Ytehfinjcfjobeaa
set_option maxRecDepth 100000
set_option linter.unusedVariables false
set_option linter.unusedSimpArgs false
open Go.RowKit Go.Rg
set_option linter.unusedVariables false
theorem Ey.fixed_upto' (x : Ey) (n : Nat) : (x.fixed (n : Int)).1.length ≤ n := by
  unfold Ey.fixed
  split
  · simp
  · split
    · simp
    · split
      · simp
      · simp; omega
theorem infoEB : InfoE 4 1 1 := by
  obtain ⟨i0, hi0, hz0, hz1, hz2⟩ := info_parts infoBo
  exact ⟨i0, _, hi0, hz0, hz1, hz2, rfl⟩
def bitsY (y : UInt8) (j : Nat) : List Value := (List.range j).map fun r => Value.bool (decide (y.toNat / 2 ^ r % 2 = 1))
theorem bitsY_succ (y : UInt8) (j : Nat) : bitsY y (j + 1) = bitsY y j ++ [.bool (decide (y.toNat / 2 ^ j % 2 = 1))] := by
  unfold bitsY; rw [List.range_succ, List.map_append]; rfl
theorem bits_take (s : List UInt8) (i : Nat) (y : UInt8) (hy : s[i]? = some y) : boolsV (bitsOf (s.take i)) ++ bitsY y 8 = boolsV (bitsOf (s.take (i + 1))) := by
  have hi := (List.getElem?_eq_some_iff.1 hy).1
  have h1 : (s.take i).length = i := by rw [List.length_take]; omega
  have h2 : (s.take (i + 1)).length = i + 1 := by rw [List.length_take]; omega
  apply List.ext_getElem?
  intro q
  by_cases hq : q < 8 * i
  · rw [List.getElem?_append_left (by rw [boolsV_length, bitsOf_length, h1]; exact hq), boolsV_get (by rw [h1]; exact hq), boolsV_get (by rw [h2]; omega)]
    have e1 : (s.take i).getD (q / 8) 0 = s.getD (q / 8) 0 := by rw [List.getD_eq_getElem?_getD, List.getD_eq_getElem?_getD, List.getElem?_take, if_pos (by omega)]
    have e2 : (s.take (i + 1)).getD (q / 8) 0 = s.getD (q / 8) 0 := by rw [List.getD_eq_getElem?_getD, List.getD_eq_getElem?_getD, List.getElem?_take, if_pos (by omega)]
    unfold bitB
    rw [e1, e2]
  · rw [List.getElem?_append_right (by rw [boolsV_length, bitsOf_length, h1]; omega), boolsV_length, bitsOf_length, h1]
    by_cases hq2 : q < 8 * i + 8
    · rw [boolsV_get (by rw [h2]; omega)]
      unfold bitsY bitB
      rw [List.getElem?_map, List.getElem?_range (by omega), List.getD_eq_getElem?_getD, List.getElem?_take, if_pos (by omega), show q / 8 = i by omega, hy, show q % 8 = q - 8 * i by omega]; rfl
    · rw [List.getElem?_eq_none (by simp [bitsY]; omega), List.getElem?_eq_none (by rw [boolsV_length, bitsOf_length, h2]; omega)]
set_option maxHeartbeats 4000000 in
theorem refget15 (b : Nat) (x : Ey) (w : World) (h : RefAt b x w) (hn : x.s.length ≤ 1000000000) :
    Calls Try.prog 26 #[ptr b] w fun e w' => ∃ v, e = .returned v ∧ RowL w.heap.size 4 w' v (boolsV (bitsOf x.flt.1)) ∧ RefAt b x.flt.2 w' ∧ Touch (fun k => k = b) w w' := by
  have hle := x.number_le 1024
  have hyl := Ey.number_len x 1024
  have k1 : Calls Try.prog 42 #[ptr b, .int .u64 1024] w _ := ref_num b x 1024 w h hn
  obtain ⟨n, hn0⟩ : ∃ n, (x.number 1024).1 = n := ⟨_, rfl⟩
  obtain ⟨y, hm⟩ : ∃ y, (x.number 1024).2 = y := ⟨_, rfl⟩
  rw [hn0] at hle k1
  rw [hm] at hyl k1
  have hle2 : n ≤ 1024 := hle
  have hU : U (UInt64.ofNat n) = (n : Int) := by unfold U; rw [UInt64.toNat_ofNat', Nat.mod_eq_of_lt (by omega)]
  rw [hU] at k1
  have n0 : (0 : Int) ≤ (n : Int) := Int.natCast_nonneg _
  have n1 : (n : Int) ≤ 1024 := by omega
  have hbw : b < w.heap.size := blk_lt h
  replace k1 := Lib.hid k1
  replace hn0 := Lib.hid hn0
  replace hm := Lib.hid hm
  clear h hU hle
  go_enter Try.func26, Try.ntmps26
  go_wp2_with fail
  refine k1.out.mono ?_
  rintro e w2 ⟨rfl, hE2, hT2⟩
  obtain ⟨c0, c1, f0, f1⟩ := RefAt.cells hE2
  have hflt : x.flt = (if y.e = 0 ∧ n < 8 then y.fail 11 else y).fixed (n : Int) := by unfold Ey.flt; rw [hn0.out, hm.out]
  have kf := ref_fail b y 11 w2 hE2
  have hgo : (y.e = 0 ∧ n < 8) ∨ (y.e = 0 ∧ ¬ n < 8) ∨ ¬ y.e = 0 := by
    by_cases h0 : y.e = 0
    · by_cases h8 : n < 8
      · exact .inl ⟨h0, h8⟩
      · exact .inr (.inl ⟨h0, h8⟩)
    · exact .inr (.inr h0)
  replace hflt := Lib.hid hflt
  replace hE2 := Lib.hid hE2
  replace hT2 := Lib.hid hT2
  replace kf := Lib.hid kf
  clear k1
  rcases hgo with ⟨h0, h8⟩ | ⟨h0, h8⟩ | h0
  focus
    have e1 : (y.e == 0) = true := by simp [h0]
    have e2 : decide ((n : Int) < 8) = true := decide_eq_true (by omega)
    have e2n : decide (n < 8) = true := decide_eq_true h8
    have hxf : x.flt = (y.fail 11).fixed (n : Int) := by rw [hflt.out, if_pos ⟨h0, h8⟩]
    have hYl := Nat.le_trans (Ey.fail_len y 11) (Nat.le_trans hyl hn)
    replace h0 := Lib.hid h0
    replace h8 := Lib.hid h8
    go_wp2_with fail
    refine kf.out.mono ?_
    rintro e w3 ⟨⟨u, rfl⟩, hY, hT⟩
    have hT3 := hT2.out.trans hT (fun _ _ h => h)
    replace hY := Lib.hid hY
    replace hT3 := Lib.hid hT3
    clear hT hT2 kf hE2 hflt
    generalize y.fail 11 = Y at *
    go_wp2_with fail
    clear c0 c1 f0 f1 e1 e2 e2n
  rotate_left 1
  focus
    have e1 : (y.e == 0) = true := by simp [h0]
    have e2 : decide ((n : Int) < 8) = false := decide_eq_false (by omega)
    have e2n : decide (n < 8) = false := decide_eq_false h8
    have hxf : x.flt = y.fixed (n : Int) := by rw [hflt.out, if_neg (fun h => h8 h.2)]
    have hYl := Nat.le_trans hyl hn
    have hY := hE2
    have hT3 := hT2
    replace h0 := Lib.hid h0
    replace h8 := Lib.hid h8
    go_wp2_with fail
    clear hT2 kf hE2 hflt c0 c1 f0 f1 e1 e2 e2n
    generalize y = Y at *
    generalize w2 = w3 at *
  rotate_left 1
  focus
    have e1 : (y.e == 0) = false := by simp [h0]
    have hxf : x.flt = y.fixed (n : Int) := by rw [hflt.out, if_neg (fun h => h0 h.1)]
    have hYl := Nat.le_trans hyl hn
    have hY := hE2
    have hT3 := hT2
    replace h0 := Lib.hid h0
    go_wp2_with fail
    clear hT2 kf hE2 hflt c0 c1 f0 f1 e1
    generalize y = Y at *
    generalize w2 = w3 at *
  rotate_left 1
  all_goals
    refine (ref_fixed b Y (n : Int) w3 hY.out).mono ?_
    rintro e w4 ⟨rfl, hE4, hT4⟩
    have hTT := hT3.out.trans hT4 (fun _ _ h => h)
    have hfl := (Ey.fixed_len Y (n : Int)).1
    obtain ⟨R, hR⟩ : ∃ R, Y.fixed (n : Int) = R := ⟨_, rfl⟩
    rw [hR] at hE4 hfl hxf ⊢
    obtain ⟨s, Z⟩ := R
    dsimp only at hE4 hfl hxf ⊢
    have hsl : s.length ≤ 1000000000 := Nat.le_trans hfl hYl
    have hb4 : b < w4.heap.size := Nat.lt_of_lt_of_le hbw hTT.size
    have hs1024 : s.length ≤ 1024 := by
      have h1 := Ey.fixed_upto' Y n
      rw [hR] at h1
      exact Nat.le_trans h1 hle2
    replace hE4 := Lib.hid hE4
    replace hTT := Lib.hid hTT
    replace hxf := Lib.hid hxf
    clear hT4 hT3 hY hR hfl
    go_wp2_with fail
    go_loopw [5, 6, 7, 8] (fun u c _ _ wr => ∃ i : Nat, i ≤ s.length ∧ c = .int .i64 i ∧ ∃ q d, u = .slice q (8 * i) d ∧ Hid (RowL w.heap.size 4 wr (.slice q (8 * i) d) (boolsV (bitsOf (s.take i)))) ∧ Hid (∀ k, (Value.slice q (8 * i) d).ownBlock = some k → w4.heap.size ≤ k) ∧ Hid (Below w4.heap.size w4 wr)) (fun _ c _ _ _ => s.length - (intOf c).toNat)
    case atStart => exact ⟨0, by omega, rfl, none, 0, rfl, Lib.hid (RowL.nil _ _ _), Lib.hid (fun k hk => by cases hk), Lib.hid (Below.refl _ _)⟩
    case round =>
      obtain ⟨i, hi, rfl, q, d, rfl, HR, hfresh, HW⟩ := hrel
      by_cases hil : i < s.length
      · have e1 : decide ((i : Int) < (s.length : Int)) = true := decide_eq_true (by omega)
        have i1 : (i : Int) < (s.length : Int) := by omega
        obtain ⟨y, hy⟩ : ∃ y, s[i]? = some y := ⟨_, List.getElem?_eq_getElem hil⟩
        have hyb : y.toNat < 256 := y.toNat_lt
        have hLi : (boolsV (bitsOf (s.take i))).length = 8 * i := by rw [boolsV_length, bitsOf_length, List.length_take]; omega
        have hbt := bits_take s i y hy
        obtain ⟨I, hI⟩ : ∃ I, 8 * i = I := ⟨_, rfl⟩
        rw [hI] at HR hfresh hLi ⊢
        have hI8 : I ≤ 8192 := by omega
        have hszb : i < (⟨s.toArray⟩ : ByteArray).size := by rw [bytes_size]; exact hil
        have hyi : (⟨s.toArray⟩ : ByteArray)[i]'hszb = y := (List.getElem?_eq_some_iff.1 hy).2
        have hyb2 : (y.toNat : Int) < 256 := by omega
        have hyb3 : (0 : Int) ≤ (y.toNat : Int) := Int.natCast_nonneg _
        replace hLi := Lib.hid hLi
        replace hbt := Lib.hid hbt
        replace hI := Lib.hid hI
        clear hy
        go_wp2_with fail
        clear hyi
        go_loopw [5, 7, 8] (fun u xx k wr => ∃ j : Nat, j ≤ 8 ∧ k = .int .i64 j ∧ xx = .int .i64 ((y.toNat / 2 ^ j : Nat) : Int) ∧ ∃ q d, u = .slice q (I + j) d ∧ Hid (RowL w.heap.size 4 wr (.slice q (I + j) d) (boolsV (bitsOf (s.take i)) ++ bitsY y j)) ∧ Hid (∀ k, (Value.slice q (I + j) d).ownBlock = some k → w4.heap.size ≤ k) ∧ Hid (Below w4.heap.size w4 wr)) (fun _ _ k _ => 8 - (intOf k).toNat)
        case atStart => exact ⟨0, by omega, rfl, by simp, q, d, rfl, Lib.hid (by rw [show bitsY y 0 = [] from rfl, List.append_nil]; exact HR.out), hfresh, HW⟩
        case round =>
          clear hfresh HR HW
          obtain ⟨j, hj, rfl, rfl, q, d, rfl, HR, hfresh, HY⟩ := hrel
          by_cases hjl : j < 8
          · have e2 : decide ((j : Int) < 8) = true := decide_eq_true (by omega)
            have hr2d : y.toNat / 2 ^ (j + 1) = y.toNat / 2 ^ j / 2 := by rw [Nat.pow_succ, Nat.div_div_eq_div_mul]
            have hby := bitsY_succ y j
            have hrl : y.toNat / 2 ^ j ≤ 255 := Nat.le_trans (Nat.div_le_self _ _) (by omega)
            have hLj : (boolsV (bitsOf (s.take i)) ++ bitsY y j).length = I + j := by rw [List.length_append, hLi.out]; simp [bitsY]
            obtain ⟨r, hr⟩ : ∃ r, y.toNat / 2 ^ j = r := ⟨_, rfl⟩
            rw [hr] at hr2d hby hrl ⊢
            have r0 : (0 : Int) ≤ (r : Int) := Int.natCast_nonneg _
            have r1 : (r : Int) ≤ 255 := by omega
            obtain ⟨r2, hr2e⟩ : ∃ r2, r / 2 = r2 := ⟨_, rfl⟩
            have f2 : (r : Int) / 2 = (r2 : Int) := by omega
            rw [hr2e] at hr2d
            replace hr2d := Lib.hid hr2d
            replace hr := Lib.hid hr
            replace hr2e := Lib.hid hr2e
            replace hLj := Lib.hid hLj
            by_cases hb : r % 2 = 1
            · have hd : decide (r % 2 = 1) = true := decide_eq_true hb
              have f1 : (r : Int) % 2 = 1 := by omega
              have hBa : Below wr.heap.size wr (wr.alloc (.cells #[.bool true] 4)) := (Below.refl _ _).alloc (Nat.le_refl _) _
              have hr1 := HR.out.below hBa
              have hs1 : SlL (wr.alloc (.cells #[.bool true] 4)) (.slice (some ⟨wr.heap.size, 0, none⟩) 1 1) [.bool true] := SlL.lit (World.alloc_heap_new _ _) (Nat.le_refl _)
              have hlo : w.heap.size ≤ (wr.alloc (.cells #[.bool true] 4)).heap.size := Nat.le_trans hTT.out.size (Nat.le_trans HY.out.size hBa.size)
              have hone : ∀ u ∈ [Value.bool true], u.oneCell' = true := by intro u hu; simp at hu; subst hu; rfl
              rw [hd] at hby
              have hYa := HY.out.alloc HY.out.size (.cells #[.bool true] 4)
              replace hr1 := Lib.hid hr1
              replace hs1 := Lib.hid hs1
              replace hone := Lib.hid hone
              replace hby := Lib.hid hby
              replace hYa := Lib.hid hYa
              clear hBa hd hb HR HY
              go_wp2_with (at_builtin; refine wpList_appL rfl _ _ 46 rfl 4 1 Try.underlying46 infoEB rfl hr1.out rfl hs1.out hone.out (by rw [hLj.out]; simp; unfold maxLen; omega) (by rw [hLj.out]; simp; omega) hlo ?_)
              intro v' w6 hr2 hB2 hg2 hat2
              have hl2 := hLj.out
              rw [← hby.out] at hr2
              obtain ⟨p3, c3, rfl, _, _, _⟩ := hr2.shape
              have hl3 : (boolsV (bitsOf (s.take i)) ++ bitsY y (j + 1)).length = I + (j + 1) := by rw [List.length_append, hLi.out]; simp [bitsY]
              rw [hl3] at hr2 hat2 ⊢
              have hst : Below w4.heap.size w4 w6 := by
                refine hYa.out.grown hg2 hYa.out.size (fun k hk => ?_)
                exact hfresh.out k hk
              have hfresh2 : ∀ k, (Value.slice p3 (I + (j + 1)) c3).ownBlock = some k → w4.heap.size ≤ k := fun k hk => by
                rcases hat2 with e | e
                · exact hfresh.out k (e ▸ hk)
                · rw [e] at hk; cases hk; exact Nat.le_trans hYa.out.size (by simp)
              replace hr2 := Lib.hid hr2
              replace hst := Lib.hid hst
              replace hfresh2 := Lib.hid hfresh2
              clear hr1 hs1 hone hby hYa hB2 hg2 hat2 hl2 hl3
              go_wp2_with fail
              go_roundw
              case rel => exact ⟨j + 1, by omega, by go_num, by rw [hr2d.out], p3, c3, rfl, hr2, hfresh2, hst⟩
              case measure => simp [intOf]; omega
            · have hd : decide (r % 2 = 1) = false := decide_eq_false hb
              have f1 : (r : Int) % 2 = 0 := by omega
              have hBa : Below wr.heap.size wr (wr.alloc (.cells #[.bool false] 4)) := (Below.refl _ _).alloc (Nat.le_refl _) _
              have hr1 := HR.out.below hBa
              have hs1 : SlL (wr.alloc (.cells #[.bool false] 4)) (.slice (some ⟨wr.heap.size, 0, none⟩) 1 1) [.bool false] := SlL.lit (World.alloc_heap_new _ _) (Nat.le_refl _)
              have hlo : w.heap.size ≤ (wr.alloc (.cells #[.bool false] 4)).heap.size := Nat.le_trans hTT.out.size (Nat.le_trans HY.out.size hBa.size)
              have hone : ∀ u ∈ [Value.bool false], u.oneCell' = true := by intro u hu; simp at hu; subst hu; rfl
              rw [hd] at hby
              have hYa := HY.out.alloc HY.out.size (.cells #[.bool false] 4)
              replace hr1 := Lib.hid hr1
              replace hs1 := Lib.hid hs1
              replace hone := Lib.hid hone
              replace hby := Lib.hid hby
              replace hYa := Lib.hid hYa
              clear hBa hd hb HR HY
              go_wp2_with (at_builtin; refine wpList_appL rfl _ _ 46 rfl 4 1 Try.underlying46 infoEB rfl hr1.out rfl hs1.out hone.out (by rw [hLj.out]; simp; unfold maxLen; omega) (by rw [hLj.out]; simp; omega) hlo ?_)
              intro v' w6 hr2 hB2 hg2 hat2
              have hl2 := hLj.out
              rw [← hby.out] at hr2
              obtain ⟨p3, c3, rfl, _, _, _⟩ := hr2.shape
              have hl3 : (boolsV (bitsOf (s.take i)) ++ bitsY y (j + 1)).length = I + (j + 1) := by rw [List.length_append, hLi.out]; simp [bitsY]
              rw [hl3] at hr2 hat2 ⊢
              have hst : Below w4.heap.size w4 w6 := by
                refine hYa.out.grown hg2 hYa.out.size (fun k hk => ?_)
                exact hfresh.out k hk
              have hfresh2 : ∀ k, (Value.slice p3 (I + (j + 1)) c3).ownBlock = some k → w4.heap.size ≤ k := fun k hk => by
                rcases hat2 with e | e
                · exact hfresh.out k (e ▸ hk)
                · rw [e] at hk; cases hk; exact Nat.le_trans hYa.out.size (by simp)
              replace hr2 := Lib.hid hr2
              replace hst := Lib.hid hst
              replace hfresh2 := Lib.hid hfresh2
              clear hr1 hs1 hone hby hYa hB2 hg2 hat2 hl2 hl3
              go_wp2_with fail
              go_roundw
              case rel => exact ⟨j + 1, by omega, by go_num, by rw [hr2d.out], p3, c3, rfl, hr2, hfresh2, hst⟩
              case measure => simp [intOf]; omega
          · have e2 : decide ((j : Int) < 8) = false := decide_eq_false (by omega)
            obtain rfl : j = 8 := by omega
            have hR8 := HR.out
            rw [hbt.out] at hR8
            have hI2 : I + 8 = 8 * (i + 1) := by have := hI.out; omega
            rw [hI2] at hR8 hfresh ⊢
            replace hR8 := Lib.hid hR8
            go_wp2_with fail
            go_roundw
            case rel => exact ⟨i + 1, by omega, by go_num, q, d, rfl, hR8, hfresh, HY⟩
            case measure => simp [intOf]; omega
      · have e1 : decide ((i : Int) < (s.length : Int)) = false := decide_eq_false (by omega)
        have hR := HR.out
        rw [List.take_of_length_le (by omega)] at hR
        replace hR := Lib.hid hR
        go_wp2_with fail
        go_ret
        refine ⟨_, rfl, ?_, ?_, ?_⟩
        · rw [hxf.out]; exact hR.out
        · rw [hxf.out]; exact hE4.out.below HW.out
        · exact hTT.out.trans (Touch.of_below (M := fun k => k = b) HW.out) (fun _ _ h => h)
end Go.Proofs.Ytehfinjcfjobeaa
