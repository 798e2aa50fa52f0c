/- The walk of the law PenStops.
   Conditions: those that the theorem names. -/
import Derived.Test.YtfmgkllnncibaaaG
namespace Go.Proofs.Ytfmgkllnncibaaa
set_option linter.unusedVariables false
set_option linter.unusedSimpArgs false
open Go.RowKit Go.Rg
attribute [local go_sem] Rg.q_add Rg.q_add' Rg.q_xor Rg.q_or Rg.q_and ba_app
/-! ### An eye that has an error -/
theorem number_err (b : Nat) (x : Ey) (v : Value) (w : World) (h : EyeAt b x w) (he : x.e ≠ 0) : Calls Try.prog 23 #[ptr b, v] w fun e w' => e = .returned (.int .u64 0) ∧ w = w' := by
  obtain ⟨p, cap, k0, k1, _⟩ := h.cells
  have e1 : (x.e != 0) = true := by simp [he]
  clear h he
  go_enter Try.func23, Try.ntmps23
  go_wp2_with fail
  go_ret
  exact ⟨rfl, rfl⟩
theorem signed_err (b : Nat) (x : Ey) (w : World) (h : EyeAt b x w) (he : x.e ≠ 0) : Calls Try.prog 24 #[ptr b] w fun e w' => e = .returned (.int .i64 0) ∧ w = w' := by
  go_enter Try.func24, Try.ntmps24
  go_wp2_with fail
  refine (number_err b x _ w h he).mono ?_
  rintro e w1 ⟨rfl, rfl⟩
  go_wp2_with fail
  refine (show Calls Try.prog 18 #[.int .u64 0] w _ from zag_any 0 w).mono ?_
  rintro e w1 ⟨rfl, rfl⟩
  rw [show zagN 0 = 0 from rfl]
  go_wp2_with fail
  go_ret
  exact ⟨rfl, rfl⟩
theorem fixed_err (b : Nat) (x : Ey) (v : Value) (w : World) (h : EyeAt b x w) (he : x.e ≠ 0) : Calls Try.prog 29 #[ptr b, v] w fun e w' => e = .returned (.slice none 0 0) ∧ w = w' := by
  obtain ⟨p, cap, k0, k1, _⟩ := h.cells
  have e1 : (x.e != 0) = true := by simp [he]
  clear h he
  go_enter Try.func29, Try.ntmps29
  go_wp2_with fail
  go_ret
  exact ⟨rfl, rfl⟩
theorem text_err (b : Nat) (x : Ey) (v : Value) (w : World) (h : EyeAt b x w) (he : x.e ≠ 0) : Calls Try.prog 25 #[ptr b, v] w fun e w' => e = .returned (.slice none 0 0) ∧ w = w' := by
  obtain ⟨p, cap, k0, k1, _⟩ := h.cells
  have e1 : (x.e != 0) = true := by simp [he]
  go_enter Try.func25, Try.ntmps25
  go_wp2_with fail
  refine (number_err b x _ w h he).mono ?_
  rintro e w1 ⟨rfl, rfl⟩
  clear h he
  go_wp2_with fail
  go_ret
  exact ⟨rfl, rfl⟩
structure InOp where
  kind : Int
  n : Int
  u : UInt64
def InsAt (w : World) (v : Value) (os : List InOp) : Prop :=
  ∃ p cap, v = .slice p os.length cap ∧ ∀ i, i < os.length → ∃ g o q, p = some ⟨g, o, none⟩ ∧ g < w.heap.size ∧ os[i]? = some q ∧ w.cell? ⟨g, o + i * 3, none⟩ = some (.int .i64 q.kind) ∧ w.cell? ⟨g, o + i * 3 + 1, none⟩ = some (.int .i64 q.n) ∧
    w.cell? ⟨g, o + i * 3 + 2, none⟩ = some (.int .u64 (U q.u)) ∧ (-9223372036854775808 ≤ q.kind ∧ q.kind ≤ 9223372036854775807) ∧ (-9223372036854775808 ≤ q.n ∧ q.n ≤ 9223372036854775807)
set_option maxRecDepth 100000 in
set_option maxHeartbeats 4000000 in
theorem stops_walk (p : Option Addr) (cap : Nat) (b : List UInt8) (f : Int) (v : Value) (os : List InOp) (w : World) (hb : BytesAt w (.slice p b.length cap) b) (hr : InsAt w v os) :
    Calls Try.prog 6 #[.slice p b.length cap, .int .i64 f, v] w fun e w' => e = .returned (.bool true) ∧ Below w.heap.size w w' := by
  obtain ⟨p2, cap2, rfl, hf⟩ := hr
  have HF := Lib.hid hf
  have HB := Lib.hid hb
  clear hf hb
  go_enter Try.func6, Try.ntmps6
  go_wp2_with fail
  refine (first_any w).mono ?_
  rintro e w1 ⟨rfl, hB1⟩
  by_cases h1 : 3000 < b.length
  · have e1 : decide ((3000 : Int) < (b.length : Int)) = true := decide_eq_true (by omega)
    go_wp2_with fail
    go_ret
    exact ⟨rfl, hB1⟩
  have e1 : decide ((3000 : Int) < (b.length : Int)) = false := decide_eq_false (by omega)
  by_cases h2 : 60 < os.length
  · have e2 : decide ((60 : Int) < (os.length : Int)) = true := decide_eq_true (by omega)
    go_wp2_with fail
    go_ret
    exact ⟨rfl, hB1⟩
  have e2 : decide ((60 : Int) < (os.length : Int)) = false := decide_eq_false (by omega)
  go_wp2_with fail
  refine (read_any _ b w1 (HB.out.below hB1) (by omega)).mono ?_
  rintro e w2 ⟨eb, rfl, leb, ey, hB2⟩
  have hBw2 := hB1.trans (hB2.mono hB1.size)
  have hwe : w.heap.size ≤ eb := Nat.le_trans hB1.size leb
  have EY := Lib.hid ey
  clear ey hB2
  go_wp2_with fail
  refine (fail_any eb ⟨b, 0⟩ f w2 EY.out).mono ?_
  rintro e w3 ⟨⟨v3, rfl⟩, ey3, t3⟩
  have hBw3 := hBw2.trans (t3.below (by rintro j rfl; exact hwe) hBw2.size)
  by_cases h0 : f = 0
  · subst h0
    have hx : (Ey.mk b 0).fail 0 = ⟨b, 0⟩ := rfl
    rw [hx] at ey3
    have E3 := Lib.hid ey3
    clear ey3 t3
    go_wp2_with fail
    refine (left_any eb _ w3 E3.out).mono ?_
    rintro e w4 ⟨rfl, rfl⟩
    go_wp2_with fail
    refine (err_any eb _ w3 E3.out).mono ?_
    rintro e w4 ⟨rfl, rfl⟩
    go_wp2_with fail
    go_ret
    exact ⟨rfl, hBw3⟩
  · have e3 : (f == 0) = false := by simp [h0]
    have hx : (Ey.mk b 0).fail f = ⟨[], f⟩ := by unfold Ey.fail; rw [if_pos ⟨rfl, h0⟩]
    rw [hx] at ey3
    have E3 := Lib.hid ey3
    clear ey3 t3 EY
    go_wp2_with fail
    go_loopw [39] (fun c wr => ∃ i : Nat, i ≤ os.length ∧ c = .int .i64 i ∧ Hid (EyeAt eb ⟨[], f⟩ wr) ∧ Below w.heap.size w wr) (fun c _ => os.length - (intOf c).toNat)
    case atStart => exact ⟨0, by omega, rfl, E3, hBw3⟩
    case round =>
      obtain ⟨i, hi, rfl, HE, hB⟩ := hrel
      by_cases hil : i < os.length
      · have e4 : decide (i < os.length) = true := decide_eq_true hil
        obtain ⟨g, o, q, rfl, hg, hq, c0, c1, c2, hk, hn⟩ := HF.out i hil
        have k0 := (hB.cell (p := ⟨g, o + i * 3, none⟩) hg).trans c0
        have k1 := (hB.cell (p := ⟨g, o + i * 3 + 1, none⟩) hg).trans c1
        have k2 := (hB.cell (p := ⟨g, o + i * 3 + 2, none⟩) hg).trans c2
        clear c0 c1 c2
        go_wp2_with fail
        have hA4 : Below wr.heap.size wr (wr.alloc (.cells #[.int .i64 q.kind, .int .i64 q.n, .int .u64 (U q.u)] 55)) := (Below.refl _ _).alloc (Nat.le_refl _) _
        have hop : (wr.alloc (.cells #[.int .i64 q.kind, .int .i64 q.n, .int .u64 (U q.u)] 55)).heap[wr.heap.size]? = some (.cells #[.int .i64 q.kind, .int .i64 q.n, .int .u64 (U q.u)] 55 (0, 0)) := World.alloc_heap_new _ _
        have HE4 := Lib.hid (HE.out.below hA4)
        have hB4 := hB.trans (hA4.mono hB.size)
        have hlt4 := hA4.size
        generalize wr.alloc (.cells #[.int .i64 q.kind, .int .i64 q.n, .int .u64 (U q.u)] 55) = w4 at *
        have m1 : ∀ X, Below w4.heap.size w4 X → X.cell? ⟨wr.heap.size, 1, none⟩ = some (.int .i64 q.n) ∧ X.cell? ⟨wr.heap.size, 2, none⟩ = some (.int .u64 (U q.u)) := by
          intro X hX
          have := (hX.block _ (blk_lt hop)).trans hop
          exact ⟨by simp [World.cell?, this], by simp [World.cell?, this]⟩
        clear hA4 hop HE
        refine wp_region_calm_lit (by kernel_rfl) (by kernel_rfl) ?_
        repeat
          first
          | (apply calm_want
             · first | rfl | (go_simp; done)
             · intro X hX
               go_simp
               first
                 | done
                 | rfl
                 | (refine ⟨trivial, ?_⟩; (first | exact calls_calm_same hX (number_err eb ⟨[], f⟩ _ X (HE4.out.below hX) h0) | exact calls_calm_same hX (signed_err eb ⟨[], f⟩ X (HE4.out.below hX) h0) | exact calls_calm_same hX (text_err eb ⟨[], f⟩ _ X (HE4.out.below hX) h0) | exact calls_calm_same hX (fixed_err eb ⟨[], f⟩ _ X (HE4.out.below hX) h0) | exact calls_calm_same hX (left_any eb ⟨[], f⟩ X (HE4.out.below hX))); done)
                 | ((first | exact calls_calm_same hX (number_err eb ⟨[], f⟩ _ X (HE4.out.below hX) h0) | exact calls_calm_same hX (signed_err eb ⟨[], f⟩ X (HE4.out.below hX) h0) | exact calls_calm_same hX (text_err eb ⟨[], f⟩ _ X (HE4.out.below hX) h0) | exact calls_calm_same hX (fixed_err eb ⟨[], f⟩ _ X (HE4.out.below hX) h0) | exact calls_calm_same hX (left_any eb ⟨[], f⟩ X (HE4.out.below hX))); done)
             intro K hK
             go_simp
             refine hK _ ?_
             clear hK K)
          | (apply calm_skip
             · first | rfl | (go_simp; done)
             intro K hK
             go_simp
             refine hK _ ?_
             clear hK K)
        refine wpQuiet_nil ?_
        intro X hX
        have HE5 := Lib.hid (HE4.out.below hX)
        have hB5 := hB4.trans (hX.mono hB4.size)
        clear m1 hX HE4
        go_wp2_with fail
        refine (fail_any eb ⟨[], f⟩ 10 X HE5.out).mono ?_
        rintro e w6 ⟨⟨v6, rfl⟩, ey6, t6⟩
        rw [show (Ey.mk [] f).fail 10 = ⟨[], f⟩ by unfold Ey.fail; rw [if_neg (by simp [h0])]] at ey6
        have E6 := Lib.hid ey6
        have hB6 := hB5.trans (t6.below (by rintro j rfl; exact hwe) hB5.size)
        clear ey6 t6 HE5
        go_wp2_with fail
        exact ⟨⟨i + 1, by omega, by go_num, E6, hB6⟩, by simp [intOf]; omega⟩
      · have e4 : decide (i < os.length) = false := decide_eq_false hil
        go_wp2_with fail
        refine (err_any eb _ wr HE.out).mono ?_
        rintro e w4 ⟨rfl, rfl⟩
        go_wp2_with fail
        refine (end_any eb _ wr HE.out).mono ?_
        rintro e w4 ⟨rfl, q1, t4⟩
        rw [show (Ey.mk [] f).fin = ⟨[], f⟩ from rfl]
        have hB6 := hB.trans (t4.below (by rintro j rfl; exact hwe) hB.size)
        clear q1 t4
        go_wp2_with fail
        go_ret
        exact ⟨rfl, hB6⟩
end Go.Proofs.Ytfmgkllnncibaaa
