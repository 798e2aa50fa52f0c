/- Law SizesHold: the walk.
   Conditions: those that the theorem names. -/
import Derived.Test.YtkdbbdlkfpjdfaaSzP
import Derived.Test.YtkdbbdlkfpjdfaaC11A
import Derived.Test.YtkdbbdlkfpjdfaaIbT
import Derived.Test.YtkdbbdlkfpjdfaaRef10
import Derived.IntWalk
import Derived.Deep.CutBlock
import Derived.Deep.DeepCutAuto
namespace Go.Proofs.Ytkdbbdlkfpjdfaa
set_option maxRecDepth 100000
set_option linter.unusedVariables false
set_option linter.unusedSimpArgs false
open Go.RowKit Go.Rg
set_option linter.unusedVariables false
attribute [local go_sem] cellV Rg.max2_int Rg.min2_int Rg.max_two Rg.min_two
theorem partsV_fit (n : Int) (h : fit n = true) : partsV n = (n + 47) / 48 := if_pos h
theorem PenM.lt' {b : Nat} {r : Option Nat} {n : Nat} (hb : n ≤ b) (hr : ∀ k, r = some k → n ≤ k) : ∀ j, PenM b r j → n ≤ j := by
  rintro j (rfl | e)
  · exact hb
  · exact hr j e.symm
set_option maxHeartbeats 8000000 in
theorem shold_walk (gs : Int) (v : Value) (cs : List Ce) (hk : Oks cs) (w : World) (h : CellsAt w v cs) :
    Calls Try.prog 11 #[.int .i64 gs, v] w fun e w' => e = .returned (.bool true) ∧ Below w.heap.size w w' := by
  obtain ⟨p, cap, rfl, hcap⟩ := id h
  replace h := Lib.hid h
  replace hk := Lib.hid hk
  by_cases hl : 60 < cs.length
  · have e1 : decide ((60 : Int) < (cs.length : Int)) = true := decide_eq_true (by omega)
    go_enter Try.func11, Try.ntmps11
    go_wp2_with fail
    refine (szfirst_any w).mono ?_
    rintro e w1 ⟨rfl, hB⟩
    go_wp2_with fail
    go_ret
    exact ⟨rfl, hB⟩
  have e1 : decide ((60 : Int) < (cs.length : Int)) = false := decide_eq_false (by omega)
  go_enter Try.func11, Try.ntmps11
  go_wp2_with fail
  refine (szfirst_any w).mono ?_
  rintro e w1 ⟨rfl, hB⟩
  have BW := hB
  replace BW := Lib.hid BW
  clear hB
  go_wp2_with fail
  refine (lawround_any gs 9 w1).mono ?_
  rintro e w2 ⟨va, vb, rfl, -, rb, hB⟩
  have e4 : (rnds gs).take (Int.toNat 9) = rup gs 4 := List.take_of_length_le (by rw [show (rnds gs).length = 4 from rup_len gs 4]; decide)
  rw [e4, rup_len] at rb
  obtain ⟨gb, cb, rfl, hcb, _, fb⟩ := row_cells_int rb (by decide)
  have hget : ∀ X, Below w2.heap.size w2 X → ∀ i, i < 4 → X.cell? ⟨gb, i, none⟩ = some (.int .i64 (sizeAt gs i)) := fun X hX i hi => by
    rw [hX.cell (p := ⟨gb, i, none⟩) (rb.lt gb rfl).2, fb i hi]
    exact rup_get gs 4 i hi (fun x => .int .i64 x.2)
  replace BW := Lib.hid (BW.out.trans (hB.mono BW.out.size))
  clear hB
  obtain ⟨G, hG⟩ : ∃ G, max 0 (min gs 4096) = G := ⟨_, rfl⟩
  have hG0 : 0 ≤ G := by omega
  have hG1 : G ≤ 4096 := by omega
  have hbig := size_big gs
  rw [hG] at hbig
  replace hget := Lib.hid hget
  replace hbig := Lib.hid hbig
  clear rb fb e4
  go_wp2_with fail
  clear hG
  go_loopw [8, 9, 10, 11, 12, 13, 14, 35] (fun _ _ _ _ _ _ _ c wr => ∃ i : Nat, i ≤ 4 ∧ c = .int .i64 i ∧ wr = w2) (fun _ _ _ _ _ _ _ c _ => 4 - (intOf c).toNat)
  case atStart => exact ⟨0, by omega, rfl, rfl⟩
  case round =>
    obtain ⟨i, hi, rfl, rfl⟩ := hrel
    generalize wr = w2 at *
    by_cases hil : i < 4
    · have e2 : decide ((i : Int) < 4) = true := decide_eq_true (by omega)
      have i1 : (i : Int) < 4 := by omega
      have hfit := fit_size gs i
      have hfc := (fit_iff _).1 hfit
      have hci := hget.out w2 (Below.refl _ _) i hil
      have hb := hbig.out i
      have hmo : ∀ j, j + 1 = i → sizeAt gs j ≤ sizeAt gs i := fun j e => by subst e; exact size_mono gs j
      obtain ⟨m, hm⟩ : ∃ m : Nat, sizeAt gs i = (m : Int) := ⟨(sizeAt gs i).toNat, by have := hfc.1; omega⟩
      rw [hm] at hfit hfc hci hb hmo
      have m3 : 3 ≤ m := by have := hfc.1; omega
      have m15 : m ≤ 1536 := by have := hfc.2.1; omega
      have kF := cfits_yes _ hfc
      replace kF := Lib.hid kF
      replace hm := Lib.hid hm
      replace hfit := Lib.hid hfit
      replace hfc := Lib.hid hfc
      replace hmo := Lib.hid hmo
      replace hb := Lib.hid hb
      go_upto_region 10 with fail
      clear hci
      go_cut [66] (fun b wx => b = .bool false ∧ wx = w2)
      case first =>
        go_wp2_with fail
        refine (kF.out w2).mono ?_
        rintro e w' ⟨rfl, rfl⟩
        cases i with
        | zero =>
          by_cases h15 : m < 1536
          · have d1 : decide ((m : Int) < 1536) = true := decide_eq_true (by omega)
            have d1n : decide (m < 1536) = true := decide_eq_true h15
            have d2 : decide (2 * (m : Int) < 3 * G) = false := decide_eq_false (by have := hb.out (by omega); omega)
            go_wp2_with fail
            go_meet
            case rel => exact ⟨rfl, rfl⟩
          · have d1 : decide ((m : Int) < 1536) = false := decide_eq_false (by omega)
            have d1n : decide (m < 1536) = false := decide_eq_false h15
            go_wp2_with fail
            go_meet
            case rel => exact ⟨rfl, rfl⟩
        | succ j =>
          have hcj := hget.out w2 (Below.refl _ _) j (by omega)
          have hj := hmo.out j rfl
          have hfj := (fit_iff _).1 (fit_size gs j)
          obtain ⟨q, hq⟩ : ∃ q : Nat, sizeAt gs j = (q : Int) := ⟨(sizeAt gs j).toNat, by have := hfj.1; omega⟩
          rw [hq] at hcj hj
          have i0 : decide ((0 : Int) < ((j + 1 : Nat) : Int)) = true := decide_eq_true (by omega)
          have i4 : IntKind.i64.wrap (j : Int) = (j : Int) := IntWalk.i64_in _ (by omega)
          have i5 : (j : Int) < 4 := by omega
          have d0 : decide ((m : Int) < (q : Int)) = false := decide_eq_false (by omega)
          have d0n : decide (m < q) = false := decide_eq_false (by omega)
          replace hq := Lib.hid hq
          replace hfj := Lib.hid hfj
          by_cases h15 : m < 1536
          · have d1 : decide ((m : Int) < 1536) = true := decide_eq_true (by omega)
            have d1n : decide (m < 1536) = true := decide_eq_true h15
            have d2 : decide (2 * (m : Int) < 3 * G) = false := decide_eq_false (by have := hb.out (by omega); omega)
            go_wp2_with fail
            go_meet
            case rel => exact ⟨rfl, rfl⟩
          · have d1 : decide ((m : Int) < 1536) = false := decide_eq_false (by omega)
            have d1n : decide (m < 1536) = false := decide_eq_false h15
            go_wp2_with fail
            go_meet
            case rel => exact ⟨rfl, rfl⟩
      case rest =>
        obtain ⟨rfl, hw⟩ := hcut
        subst hw
        have hpv := partsV_fit _ hfit.out
        obtain ⟨k, hkd⟩ : ∃ k, (m + 47) / 48 = k := ⟨_, rfl⟩
        have hpk : partsV (m : Int) = (k : Int) := by rw [hpv]; omega
        have kP := szparts_any (m : Int)
        rw [hpk] at kP
        have kR := fun j => szrange_any (m : Int) j
        replace kP := Lib.hid kP
        replace hpk := Lib.hid hpk
        clear hpv
        go_wp2_with fail
        refine (kP.out wc).mono ?_
        rintro e w' ⟨rfl, rfl⟩
        go_wp2_with fail
        go_loopw [10, 11, 12, 13, 14, 69] (fun at' _ _ _ _ c wr => ∃ j : Nat, j ≤ k ∧ c = .int .i64 j ∧ at' = .int .i64 ((min m (48 * j) : Nat) : Int) ∧ wr = wc) (fun _ _ _ _ _ c _ => k - (intOf c).toNat)
        case atStart => exact ⟨0, by omega, rfl, by simp, rfl⟩
        case round =>
          obtain ⟨j, hj, rfl, rfl, hw⟩ := hrel
          subst hw
          by_cases hjl : j < k
          · have e5 : decide ((j : Int) < (k : Int)) = true := decide_eq_true (by omega)
            have hro : rangeOk (m : Int) (j : Int) = true := by unfold rangeOk; rw [hpk.out, decide_eq_true_eq]; omega
            have hra : rangeA (m : Int) (j : Int) = (min m (48 * j) : Nat) := by unfold rangeA; rw [if_pos hro]; omega
            have hrb : rangeB (m : Int) (j : Int) = (min m (48 * (j + 1)) : Nat) := by unfold rangeB; rw [if_pos hro]; omega
            have hk1 := kR (j : Int) wr
            rw [hro, hra, hrb] at hk1
            have hlt : min m (48 * j) < min m (48 * (j + 1)) := by omega
            obtain ⟨x, hx⟩ : ∃ x, min m (48 * j) = x := ⟨_, rfl⟩
            obtain ⟨y, hy⟩ : ∃ y, min m (48 * (j + 1)) = y := ⟨_, rfl⟩
            rw [hx] at hk1 hlt ⊢
            rw [hy] at hk1 hlt
            have d6 : decide ((y : Int) ≤ (x : Int)) = false := decide_eq_false (by omega)
            have d6n : decide (y ≤ x) = false := decide_eq_false (by omega)
            replace hk1 := Lib.hid hk1
            replace hx := Lib.hid hx
            replace hy := Lib.hid hy
            clear hro hra hrb
            go_wp2_with fail
            refine hk1.out.mono ?_
            rintro e w' ⟨rfl, rfl⟩
            go_wp2_with fail
            go_roundw
            case rel => exact ⟨j + 1, by omega, by go_num, by rw [hy.out], by first | rfl | trivial⟩
            case measure => simp [intOf]; omega
          · have e5 : decide ((j : Int) < (k : Int)) = false := decide_eq_false (by omega)
            have hmn : min m (48 * j) = m := by omega
            rw [hmn]
            clear hmn
            go_wp2_with fail
            go_roundw
            case rel => exact ⟨i + 1, by omega, by go_num, by first | rfl | trivial⟩
            case measure => simp [intOf]; omega
    · have e2 : decide ((i : Int) < 4) = false := decide_eq_false (by omega)
      by_cases hfc : fitsC (cs.length : Int)
      rotate_left
      · have kf := cfrom_no (.slice p cs.length cap) cs w2 (h.out.below BW.out) hfc
        replace kf := Lib.hid kf
        clear hfc
        go_wp2_with fail
        refine kf.out.mono ?_
        rintro e w3 ⟨rfl, hB⟩
        replace BW := Lib.hid (BW.out.trans (hB.mono BW.out.size))
        clear hB
        go_wp2_with fail
        go_ret
        exact ⟨rfl, BW.out⟩
      have kf := cfrom_yes (.slice p cs.length cap) cs w2 (h.out.below BW.out) hk.out hfc
      replace kf := Lib.hid kf
      replace hfc := Lib.hid hfc
      go_wp2_with fail
      refine kf.out.mono ?_
      rintro e w3 ⟨ks, vs, rfl, HS, -, -, hB⟩
      replace HS := Lib.hid HS
      replace BW := Lib.hid (BW.out.trans (hB.mono BW.out.size))
      clear hB
      clear kf hget hbig
      have hp : PenAt w3.heap.size none [] (w3.alloc (.cells #[.slice none 0 0] 44)) := ⟨.slice none 0 0, World.alloc_heap_new _ _, rfl, OwnB.nil _⟩
      have hBp : Below w3.heap.size w3 (w3.alloc (.cells #[.slice none 0 0] 44)) := (Below.refl _ _).alloc (Nat.le_refl _) _
      have hS4 := HS.out.below hBp
      have BW4 := BW.out.trans (hBp.mono BW.out.size)
      have hks3 : ks < w3.heap.size := HS.out.lt
      have hgs3 : ∀ g, vs.ownBlock = some g → g < w3.heap.size := fun g hg => HS.out.o.lt hg
      have hw3 : w.heap.size ≤ w3.heap.size := BW.out.size
      have hcl := lawcells_any ks vs cs 99 _ hS4 (by omega)
      rw [List.take_of_length_le (by show cs.length ≤ 99; omega)] at hcl
      replace hp := Lib.hid hp
      replace hS4 := Lib.hid hS4
      replace BW4 := Lib.hid BW4
      replace hcl := Lib.hid hcl
      clear HS BW hBp
      go_wp2_with fail
      generalize w3.alloc (.cells #[.slice none 0 0] 44) = w4 at *
      generalize w3.heap.size = kp at *
      refine hcl.out.mono ?_
      rintro e w5 ⟨vb, rfl, hO, hfr, hB⟩
      obtain ⟨pv, cv, rfl, _, _, _⟩ := hO.shape
      rw [rawC_length] at hO hfr ⊢
      have hpl : kp < w4.heap.size := hp.out.lt.1
      have hob : ∀ g, (Value.slice pv cs.length cv).ownBlock = some g → g < w5.heap.size := fun g hg => hO.lt hg
      have hp5 : ∃ r, PenAt kp r (cellsB cs 0) w5 ∧ ∀ g, r = some g → w5.heap.size ≤ g := ⟨none, by unfold cellsB; simpa using hp.out.below hB, fun g hg => by cases hg⟩
      have hw5 : kp < w5.heap.size := Nat.lt_of_lt_of_le hpl hB.size
      replace hO := Lib.hid hO
      replace hp5 := Lib.hid hp5
      replace hS4 := Lib.hid (hS4.out.below hB)
      replace BW4 := Lib.hid (BW4.out.trans (hB.mono BW4.out.size))
      clear hB
      clear hcl hp
      go_wp2_with fail
      go_loopw [19, 109] (fun _ c wr => ∃ i : Nat, i ≤ cs.length ∧ c = .int .i64 i ∧ Hid (∃ r, PenAt kp r (cellsB cs i) wr ∧ ∀ g, r = some g → w5.heap.size ≤ g) ∧ Hid (OwnV 26 18 wr (.slice pv cs.length cv) (rawC cs)) ∧ Hid (SkAt ks vs cs wr) ∧ Hid (Below w.heap.size w wr) ∧ Hid (w5.heap.size ≤ wr.heap.size)) (fun _ c _ => cs.length - (intOf c).toNat)
      case atStart => exact ⟨0, by omega, rfl, hp5, hO, hS4, BW4, Lib.hid (Nat.le_refl _)⟩
      case round =>
        clear hp5 hO hS4 BW4
        obtain ⟨i, hi, rfl, HP, HO, HS, HW, HZ⟩ := hrel
        obtain ⟨r, hpr, hrn⟩ := HP.out
        have hcl := cellsB_le cs hk.out i hi
        have hz5 := HZ.out
        by_cases hil : i < cs.length
        · have e5 : decide ((i : Int) < (cs.length : Int)) = true := decide_eq_true (by omega)
          obtain ⟨c, hc⟩ : ∃ c, cs[i]? = some c := ⟨_, List.getElem?_eq_getElem hil⟩
          have hcok := hk.out c (List.mem_of_getElem? hc)
          obtain ⟨g, hpv⟩ : ∃ g, pv = some ⟨g, 0, none⟩ := by
            obtain ⟨p', c', e, _, h1, h2⟩ := HO.out.shape
            injection e with e1 _ _
            subst e1
            cases pv with
            | none => have := congrArg List.length (h1 rfl).1; rw [rawC_length] at this; simp at this; subst this; simp at hil
            | some a => obtain ⟨g, rfl⟩ := h2 a rfl; exact ⟨g, rfl⟩
          subst hpv
          have hL := OwnC.load HO.out rfl hk.out hc
          have hg4 := hfr g rfl
          have hg5 := hob g rfl
          have bc := boxedC wr c hcok.m
          have a1 := bc.a1
          have l1 := bc.l1
          have hbx := bc.b
          have hbs := cellsB_succ cs i c hc
          have hpr' := hpr.below bc.B
          have hO' := HO.out.below bc.B
          have hS' := HS.out.below bc.B
          have hW' := HW.out.trans (bc.B.mono HW.out.size)
          have hZ' := Nat.le_trans hz5 bc.B.size
          replace hbx := Lib.hid hbx
          replace hbs := Lib.hid hbs
          replace hpr' := Lib.hid hpr'
          replace hO' := Lib.hid hO'
          replace hS' := Lib.hid hS'
          replace hW' := Lib.hid hW'
          replace hcok := Lib.hid hcok
          replace hrn := Lib.hid hrn
          clear bc hc HP HO HS HW HZ hpr
          generalize hlst : cellsB cs i = l at *
          have hll : l.length ≤ 100000000 := by omega
          replace hlst := Lib.hid hlst
          go_wp2_with (first | (refine wpList_load_at rfl _ _ rfl rfl (hL) ?_) | (refine wpList_store_at rfl _ _ _ rfl rfl rfl (a1) ?_) | (refine wpList_load_at rfl _ _ rfl rfl (l1) ?_))
          clear hL a1 l1
          generalize (wr.alloc (.cells zeroCells 26)).setCells wr.heap.size 0 c.vals = w6 at *
          generalize wr.heap.size = kx at *
          cases hr : c.right
          · refine (show Calls Try.prog 25 #[ptr kp, .agg c.vals.toArray] w6 _ from put_wrong c hcok.out hr (ptr kp) w6).mono ?_
            rintro e w7 ⟨rfl, hB⟩
            have hbx7 := hbx.out.below hB (blk_lt hbx.out)
            have l7 := hbx7.whole hcok.out.m
            have hZ7 := Nat.le_trans hZ' hB.size
            have kr := fun X => refright_any c hcok.out X
            rw [show decide (-1048576 ≤ c.n ∧ c.n ≤ 1048576) = c.right from rfl, hr] at kr
            unfold cellV at kr
            rw [hr] at hbs
            have hnx : cellsB cs (i + 1) = l := by rw [hbs.out]; simp
            replace kr := Lib.hid kr
            replace hbx7 := Lib.hid hbx7
            replace hnx := Lib.hid hnx
            replace hr := Lib.hid hr
            replace hpr' := Lib.hid (hpr'.out.below hB)
            replace hO' := Lib.hid (hO'.out.below hB)
            replace hS' := Lib.hid (hS'.out.below hB)
            replace hW' := Lib.hid (hW'.out.trans (hB.mono hW'.out.size))
            clear hB
            clear hbx hbs
            go_wp2_with (first | (refine wpList_load_at rfl _ _ rfl rfl (l7) ?_) | (refine wpList_load_w rfl rfl (l7) (by first | rfl | (go_simp; done)) ?_))
            refine (kr.out w7).mono ?_
            rintro e w8 ⟨rfl, hB⟩
            have hZ8 := Nat.le_trans hZ7 hB.size
            replace hpr' := Lib.hid (hpr'.out.below hB)
            replace hO' := Lib.hid (hO'.out.below hB)
            replace hS' := Lib.hid (hS'.out.below hB)
            replace hW' := Lib.hid (hW'.out.trans (hB.mono hW'.out.size))
            clear hB
            clear l7
            go_wp2_with fail
            go_roundw
            case rel => exact ⟨i + 1, by omega, by go_num, Lib.hid ⟨r, by rw [hnx.out]; exact hpr'.out, hrn.out⟩, hO', hS', hW', Lib.hid hZ8⟩
            case measure => simp [intOf]; omega
          · refine (show Calls Try.prog 25 #[ptr kp, .agg c.vals.toArray] w6 _ from put_any c hcok.out hr kp r l w6 hpr'.out hll).mono ?_
            rintro e w7 ⟨rfl, r', hN, hp7, hT⟩
            rw [hr] at hbs
            have hnx : cellsB cs (i + 1) = l ++ c.bytes := by rw [hbs.out]; simp
            have hnM : ∀ j, j < w5.heap.size → j ≠ kp → ¬ PenM kp r j := by
              rintro j h1 h2 (e | e)
              · exact h2 e
              · have := hrn.out j e.symm; omega
            have hO7 := hO'.out.kept (fun g' hg' => hT.block g' (hO'.out.lt hg') (hnM g' (hob g' hg') (by have := hfr g' hg'; omega)))
            have hS7 := hS'.out.touch hT (hnM ks (by omega) (by omega)) (fun g' hg' => hnM g' (by have := hgs3 g' hg'; omega) (by have := hgs3 g' hg'; omega))
            have hW7 := hW'.out.trans (hT.below (n := w.heap.size) (PenM.lt' (by omega) (fun k e => by have := hrn.out k e; omega)) hW'.out.size)
            have hZ7 := Nat.le_trans hZ' hT.size
            have hrn7 : ∀ g, r' = some g → w5.heap.size ≤ g := by
              intro g' e
              rcases hN with hN | ⟨k', hN, hk'⟩
              · exact hrn.out g' (hN ▸ e)
              · rw [hN] at e; cases e; omega
            replace hp7 := Lib.hid hp7
            replace hO7 := Lib.hid hO7
            replace hS7 := Lib.hid hS7
            replace hW7 := Lib.hid hW7
            replace hrn7 := Lib.hid hrn7
            replace hnx := Lib.hid hnx
            replace hr := Lib.hid hr
            clear hN hT hnM hpr' hO' hS' hW' hbs hbx
            go_wp2_with fail
            go_roundw
            case rel => exact ⟨i + 1, by omega, by go_num, Lib.hid ⟨r', by rw [hnx.out]; exact hp7.out, hrn7.out⟩, hO7, hS7, hW7, Lib.hid hZ7⟩
            case measure => simp [intOf]; omega
        · have e5 : decide ((i : Int) < (cs.length : Int)) = false := decide_eq_false (by omega)
          have hie : i = cs.length := by omega
          subst hie
          obtain ⟨l, hlst⟩ : ∃ l, cellsB cs cs.length = l := ⟨_, rfl⟩
          rw [hlst] at hpr hcl
          replace hpr := Lib.hid hpr
          replace hlst := Lib.hid hlst
          clear HP HO HZ
          go_wp2_with fail
          refine (bytes_any kp r l wr hpr.out (by omega)).mono ?_
          rintro e w7 ⟨v', rfl, hOb, -, hB⟩
          obtain ⟨pb, cb', rfl, _, _, _⟩ := hOb.shape
          replace HS := Lib.hid (HS.out.below hB)
          replace HW := Lib.hid (HW.out.trans (hB.mono HW.out.size))
          clear hB
          clear hOb hpr
          go_wp2_with fail
          refine (csize_any ks vs cs w7 HS.out).mono ?_
          rintro e w' ⟨rfl, rfl⟩
          have kb := szbytes_any (cs.length : Int) w7
          rw [show bytesV (cs.length : Int) = 28 * (cs.length : Int) from if_pos ((fit_iff _).2 hfc.out)] at kb
          have d9 : decide ((l.length : Int) ≤ 28 * (cs.length : Int)) = true := decide_eq_true (by omega)
          replace kb := Lib.hid kb
          go_wp2_with fail
          refine kb.out.mono ?_
          rintro e w' ⟨rfl, rfl⟩
          go_wp2_with fail
          go_ret
          exact ⟨rfl, HW.out⟩
end Go.Proofs.Ytkdbbdlkfpjdfaa
