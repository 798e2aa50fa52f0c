/- The walk of the law SipHalves.
   Conditions: those that the theorem names. -/
import Derived.Test.YtfebfpfmjdeedaaHalv0
import Derived.Test.YtfebfpfmjdeedaaJ
namespace Go.Proofs.Ytfebfpfmjdeedaa
set_option linter.unusedVariables false
open Go.RowKit Go.Rg
set_option maxRecDepth 100000 in
set_option maxHeartbeats 2000000 in
theorem halves_walk (v : Value) (ls : List (List UInt8)) (w : World) (hr : RowsAt w v ls) (hk : ls.length ≤ 1000000000000000) (hs : ∀ i : Nat, (ls[i]?.getD []).length ≤ 1000000000000000) :
    Calls Try.prog 5 #[v] w fun e w' => e = .returned (.bool true) ∧ Below w.heap.size w w' := by
  have HR := Lib.hid hr
  clear hr
  go_enter Try.func5, Try.ntmps5
  go_wp2_with fail
  refine (first_any w).mono ?_
  rintro e w1 ⟨rfl, hB01⟩
  have HR1 := Lib.hid (HR.out.below hB01)
  clear HR
  go_wp2_with fail
  refine (great_any v ls w1 HR1.out hk hs).mono ?_
  rintro e w2 ⟨rfl, rfl⟩
  by_cases hg : 3000 < tot ls
  · rw [decide_eq_true hg]
    go_wp2_with fail
    go_ret
    exact ⟨rfl, hB01⟩
  · rw [decide_eq_false hg]
    have hfl : ls.flatten.length ≤ 3000 := by unfold tot at hg; omega
    have hg0 : ls.length ≤ 3000 := by unfold tot at hg; omega
    clear hs hg
    go_wp2_with fail
    refine (mark_any v ls w1 HR1.out (by omega) (by omega)).mono ?_
    rintro e w2 ⟨rfl, hB2⟩
    have hB02 := hB01.trans (hB2.mono hB01.size)
    have HR2 := Lib.hid (HR1.out.below hB2)
    unfold markB
    generalize hh1 : hashS (sA 1) (sB 1) ls.flatten = h1
    generalize hh2 : hashS (sA 2) (sB 2) ls.flatten = h2
    have HH1 := Lib.hid hh1
    have HH2 := Lib.hid hh2
    clear hh1 hh2
    have e : markV ((List.range 16).map (markH h1 h2)) = .agg #[.int .u8 ((markH h1 h2 0).toNat : Int), .int .u8 ((markH h1 h2 1).toNat : Int), .int .u8 ((markH h1 h2 2).toNat : Int), .int .u8 ((markH h1 h2 3).toNat : Int), .int .u8 ((markH h1 h2 4).toNat : Int), .int .u8 ((markH h1 h2 5).toNat : Int), .int .u8 ((markH h1 h2 6).toNat : Int), .int .u8 ((markH h1 h2 7).toNat : Int), .int .u8 ((markH h1 h2 8).toNat : Int), .int .u8 ((markH h1 h2 9).toNat : Int), .int .u8 ((markH h1 h2 10).toNat : Int), .int .u8 ((markH h1 h2 11).toNat : Int), .int .u8 ((markH h1 h2 12).toNat : Int), .int .u8 ((markH h1 h2 13).toNat : Int), .int .u8 ((markH h1 h2 14).toNat : Int), .int .u8 ((markH h1 h2 15).toNat : Int)] := rfl
    rw [e]
    clear e hB2 hB01 HR1
    go_wp2_with fail
    have hb0 : (w2.alloc (.cells #[.int .u8 ((markH h1 h2 0).toNat : Int), .int .u8 ((markH h1 h2 1).toNat : Int), .int .u8 ((markH h1 h2 2).toNat : Int), .int .u8 ((markH h1 h2 3).toNat : Int), .int .u8 ((markH h1 h2 4).toNat : Int), .int .u8 ((markH h1 h2 5).toNat : Int), .int .u8 ((markH h1 h2 6).toNat : Int), .int .u8 ((markH h1 h2 7).toNat : Int), .int .u8 ((markH h1 h2 8).toNat : Int), .int .u8 ((markH h1 h2 9).toNat : Int), .int .u8 ((markH h1 h2 10).toNat : Int), .int .u8 ((markH h1 h2 11).toNat : Int), .int .u8 ((markH h1 h2 12).toNat : Int), .int .u8 ((markH h1 h2 13).toNat : Int), .int .u8 ((markH h1 h2 14).toNat : Int), .int .u8 ((markH h1 h2 15).toNat : Int)] 32)).heap[w2.heap.size]? = some (.cells #[.int .u8 ((markH h1 h2 0).toNat : Int), .int .u8 ((markH h1 h2 1).toNat : Int), .int .u8 ((markH h1 h2 2).toNat : Int), .int .u8 ((markH h1 h2 3).toNat : Int), .int .u8 ((markH h1 h2 4).toNat : Int), .int .u8 ((markH h1 h2 5).toNat : Int), .int .u8 ((markH h1 h2 6).toNat : Int), .int .u8 ((markH h1 h2 7).toNat : Int), .int .u8 ((markH h1 h2 8).toNat : Int), .int .u8 ((markH h1 h2 9).toNat : Int), .int .u8 ((markH h1 h2 10).toNat : Int), .int .u8 ((markH h1 h2 11).toNat : Int), .int .u8 ((markH h1 h2 12).toNat : Int), .int .u8 ((markH h1 h2 13).toNat : Int), .int .u8 ((markH h1 h2 14).toNat : Int), .int .u8 ((markH h1 h2 15).toNat : Int)] 32 (0, 0)) := World.alloc_heap_new _ _
    have hB3 : Below w.heap.size w (w2.alloc (.cells #[.int .u8 ((markH h1 h2 0).toNat : Int), .int .u8 ((markH h1 h2 1).toNat : Int), .int .u8 ((markH h1 h2 2).toNat : Int), .int .u8 ((markH h1 h2 3).toNat : Int), .int .u8 ((markH h1 h2 4).toNat : Int), .int .u8 ((markH h1 h2 5).toNat : Int), .int .u8 ((markH h1 h2 6).toNat : Int), .int .u8 ((markH h1 h2 7).toNat : Int), .int .u8 ((markH h1 h2 8).toNat : Int), .int .u8 ((markH h1 h2 9).toNat : Int), .int .u8 ((markH h1 h2 10).toNat : Int), .int .u8 ((markH h1 h2 11).toNat : Int), .int .u8 ((markH h1 h2 12).toNat : Int), .int .u8 ((markH h1 h2 13).toNat : Int), .int .u8 ((markH h1 h2 14).toNat : Int), .int .u8 ((markH h1 h2 15).toNat : Int)] 32)) := hB02.alloc hB02.size _
    have hR3 := HR2.out.below ((Below.refl _ w2).alloc (Nat.le_refl _) (.cells #[.int .u8 ((markH h1 h2 0).toNat : Int), .int .u8 ((markH h1 h2 1).toNat : Int), .int .u8 ((markH h1 h2 2).toNat : Int), .int .u8 ((markH h1 h2 3).toNat : Int), .int .u8 ((markH h1 h2 4).toNat : Int), .int .u8 ((markH h1 h2 5).toNat : Int), .int .u8 ((markH h1 h2 6).toNat : Int), .int .u8 ((markH h1 h2 7).toNat : Int), .int .u8 ((markH h1 h2 8).toNat : Int), .int .u8 ((markH h1 h2 9).toNat : Int), .int .u8 ((markH h1 h2 10).toNat : Int), .int .u8 ((markH h1 h2 11).toNat : Int), .int .u8 ((markH h1 h2 12).toNat : Int), .int .u8 ((markH h1 h2 13).toNat : Int), .int .u8 ((markH h1 h2 14).toNat : Int), .int .u8 ((markH h1 h2 15).toNat : Int)] 32))
    generalize w2.alloc (.cells #[.int .u8 ((markH h1 h2 0).toNat : Int), .int .u8 ((markH h1 h2 1).toNat : Int), .int .u8 ((markH h1 h2 2).toNat : Int), .int .u8 ((markH h1 h2 3).toNat : Int), .int .u8 ((markH h1 h2 4).toNat : Int), .int .u8 ((markH h1 h2 5).toNat : Int), .int .u8 ((markH h1 h2 6).toNat : Int), .int .u8 ((markH h1 h2 7).toNat : Int), .int .u8 ((markH h1 h2 8).toNat : Int), .int .u8 ((markH h1 h2 9).toNat : Int), .int .u8 ((markH h1 h2 10).toNat : Int), .int .u8 ((markH h1 h2 11).toNat : Int), .int .u8 ((markH h1 h2 12).toNat : Int), .int .u8 ((markH h1 h2 13).toNat : Int), .int .u8 ((markH h1 h2 14).toNat : Int), .int .u8 ((markH h1 h2 15).toNat : Int)] 32) = w3 at *
    have hbb := hB02.size
    generalize w2.heap.size = b at *
    have g : ∀ j, j < 16 → w3.cell? ⟨b, j, none⟩ = some (.int .u8 ((markH h1 h2 j).toNat : Int)) := by
      intro j hj
      simp only [World.cell?, hb0]
      rcases j with _|_|_|_|_|_|_|_|_|_|_|_|_|_|_|_|j <;> first | rfl | omega
    have hbs := (Array.getElem?_eq_some_iff.1 hb0).1
    have HG := Lib.hid g
    have HR3 := Lib.hid hR3
    clear g hb0 hR3 HR2 hB02
    go_loopw [4, 5, 6, 13, 16] (fun _ _ _ c _ wr => ∃ i : Nat, i ≤ 2 ∧ c = .int .i64 i ∧ Below w.heap.size w wr ∧ Hid (Below w3.heap.size w3 wr)) (fun _ _ _ c _ _ => 2 - (intOf c).toNat)
    case atStart => exact ⟨0, by omega, rfl, hB3, Lib.hid (Below.refl _ _)⟩
    case round =>
      obtain ⟨i, hi, rfl, hB, hB3r⟩ := hrel
      by_cases hil : i < 2
      · have e1 : decide ((i : Int) < 2) = true := decide_eq_true (by omega)
        obtain ⟨hh, hhE⟩ : ∃ h, h = hashS (sA ((i : Int) + 1)) (sB ((i : Int) + 1)) ls.flatten := ⟨_, rfl⟩
        have hmk : ∀ k, k < 8 → wr.cell? ⟨b, 8 * i + k, none⟩ = some (.int .u8 ((mb hh k).toNat : Int)) := by
          intro k hk
          refine (hB3r.out.cell (p := ⟨b, 8 * i + k, none⟩) hbs).trans ((HG.out _ (by omega)).trans ?_)
          congr 3
          obtain rfl | rfl : i = 0 ∨ i = 1 := by omega
          · rw [hhE, show ((0 : Nat) : Int) + 1 = 1 from rfl, HH1.out]
            unfold markH; rw [if_pos (by omega)]; congr 3; omega
          · rw [hhE, show ((1 : Nat) : Int) + 1 = 2 from rfl, HH2.out]
            unfold markH; rw [if_neg (by omega)]; congr 3; omega
        have HM := Lib.hid hmk
        have HE := Lib.hid hhE
        clear hhE hmk
        have p0 : (0 : Int) = U (part hh 0) := by rw [part_zero]; rfl
        go_wp2_with fail
        go_loopw [5, 6, 16] (fun h _ c wr' => wr' = wr ∧ ∃ k : Nat, k ≤ 8 ∧ c = .int .i64 k ∧ h = .int .u64 (U (part hh k))) (fun _ _ c _ => 8 - (intOf c).toNat)
        case atStart => exact ⟨rfl, 0, by omega, rfl, by rw [← p0]⟩
        case round =>
          obtain ⟨rfl, k, hk8, rfl, rfl⟩ := hrel
          by_cases hkl : k < 8
          · have e2 : decide ((k : Int) < 8) = true := decide_eq_true (by omega)
            have hx := HM.out k hkl
            have E0 := q_shl' (part hh k) 8 (by omega)
            have E0' := q_shl (part hh k) 8 (by omega)
            have E2 := part_step hh k hkl
            have E1 : (((mb hh k).toNat : Int)) = U (mb hh k).toUInt64 := by unfold U; simp
            have u0 := U_nonneg (mb hh k).toUInt64
            have u1 := U_lt (mb hh k).toUInt64
            clear p0
            go_wp2_with fail
            refine ⟨⟨trivial, k + 1, by omega, by go_num, ?_⟩, by simp [intOf]; omega⟩
            rw [show (256 : Int) = 2 ^ 8 from rfl, E0', q_or, show Nat.toUInt64 8 = 8 from rfl, E2]
          · have e2 : decide ((k : Int) < 8) = false := decide_eq_false (by omega)
            obtain rfl : k = 8 := by omega
            rw [part_eight]
            clear p0
            go_wp2_with fail
            refine (seed_any ((i : Int) + 1) _).mono ?_
            rintro e w4 ⟨rfl, hB4⟩
            go_wp2_with fail
            have hR4 := (HR3.out.below hB3r.out).below hB4
            refine (hash_any _ _ v ls _ hR4 (by omega) (by omega)).mono ?_
            rintro e w5 ⟨rfl, hB5⟩
            rw [← HE.out]
            have hBn := hB3r.out.trans ((hB4.trans (hB5.mono hB4.size)).mono hB3r.out.size)
            have HBn := Lib.hid hBn
            have hBw := hB.trans ((hB4.trans (hB5.mono hB4.size)).mono hB.size)
            clear hR4 hB4 hB5 hBn hB
            have hne : ((U hh) != (U hh)) = false := by simp
            go_wp2_with fail
            exact ⟨⟨i + 1, by omega, by go_num, hBw, HBn⟩, by simp [intOf]; omega⟩
      · have e1 : decide ((i : Int) < 2) = false := decide_eq_false (by omega)
        go_wp2_with fail
        go_ret
        exact ⟨rfl, hB⟩
end Go.Proofs.Ytfebfpfmjdeedaa
