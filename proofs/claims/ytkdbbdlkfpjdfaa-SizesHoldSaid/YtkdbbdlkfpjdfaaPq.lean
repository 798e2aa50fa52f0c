/- Package pen: the document's answers.
   Conditions: those that each theorem names. -/
import Derived.Lib.SmallJoins
import Derived.Test.YtkdbbdlkfpjdfaaPn
/- Contracts of package pen: what the document answers.
   Conditions: those that each theorem names. -/
namespace Go.Proofs.Ytkdbbdlkfpjdfaa
set_option maxRecDepth 100000
set_option linter.unusedVariables false
set_option linter.unusedSimpArgs false
set_option linter.unusedVariables false
set_option linter.unusedSimpArgs false
open Go.RowKit Go.Rg
attribute [local go_sem] Rg.q_add Rg.q_add' Rg.q_xor Rg.q_or Rg.q_and ba_app
theorem ref_zig (n : Int) (w : World) (hn : -9223372036854775808 ≤ n ∧ n ≤ 9223372036854775807) : Calls Try.prog 68 #[.int .i64 n] w fun e w' => e = .returned (.int .u64 (U (zigN n))) ∧ w = w' := by
  have hz : U (zigN n) = if n < 0 then 2 * (-(n + 1)) + 1 else 2 * n := by
    unfold zigN
    rw [U_nat _ (by split <;> omega)]
    split <;> omega
  go_enter Try.func68, Try.ntmps68
  by_cases h : n < 0
  · have e1 : decide (n < 0) = true := decide_eq_true h
    rw [if_pos h] at hz
    go_wp2_with fail
    go_ret
    first | exact ⟨rfl, rfl⟩ | exact ⟨congrArg (fun z => Ending.returned (Value.int .u64 z)) hz.symm, rfl⟩
  · have e1 : decide (n < 0) = false := decide_eq_false h
    rw [if_neg h] at hz
    go_wp2_with fail
    go_ret
    first | exact ⟨rfl, rfl⟩ | exact ⟨congrArg (fun z => Ending.returned (Value.int .u64 z)) hz.symm, rfl⟩
theorem ref_zag (u : UInt64) (w : World) : Calls Try.prog 74 #[.int .u64 (U u)] w fun e w' => e = .returned (.int .i64 (zagN u)) ∧ w = w' := by
  have hU : U u / 2 = ((u.toNat / 2 : Nat) : Int) := by unfold U; omega
  have hm : U u % 2 = ((u.toNat % 2 : Nat) : Int) := by unfold U; omega
  have hlt := u.toNat_lt
  have t0 : (U u).tdiv 2 = U u / 2 := Int.tdiv_eq_ediv_of_nonneg (U_nonneg u)
  have m0 : (U u).tmod 2 = U u % 2 := Int.tmod_eq_emod_of_nonneg (U_nonneg u)
  have t1 : IntKind.u64.wrap (U u / 2) = U u / 2 := by rw [wrap_u64, hU]; omega
  have t2 : wrap64 (U u / 2) = U u / 2 := by rw [hU]; unfold wrap64; omega
  have t3 : wrap64 (-(U u / 2)) = -(U u / 2) := by rw [hU]; unfold wrap64; omega
  have t4 : wrap64 (-(U u / 2) - 1) = -(U u / 2) - 1 := by rw [hU]; unfold wrap64; omega
  go_enter Try.func74, Try.ntmps74
  by_cases h : u.toNat % 2 = 1
  · have b2 : (U u % 2 == 1) = true := by rw [hm, h]; rfl
    have x2 : -(U u / 2) - 1 = zagN u := by unfold zagN; rw [if_pos h, hU]
    have X2 := Lib.hid x2
    clear hU hm h x2
    go_wp2_with fail
    go_ret
    exact ⟨congrArg (fun z => Ending.returned (Value.int .i64 z)) (t4.trans X2.out), rfl⟩
  · have b2 : (U u % 2 == 1) = false := by rw [hm, show u.toNat % 2 = 0 by omega]; rfl
    have x2 : U u / 2 = zagN u := by unfold zagN; rw [if_neg h, hU]
    have X2 := Lib.hid x2
    clear hU hm h x2
    go_wp2_with fail
    go_ret
    exact ⟨congrArg (fun z => Ending.returned (Value.int .i64 z)) (t2.trans X2.out), rfl⟩
set_option maxRecDepth 100000 in
theorem ref_number (u : UInt64) (w : World) : Calls Try.prog 67 #[.int .u64 (U u)] w fun e w' => e = .returned (str (numN u.toNat)) ∧ Below w.heap.size w w' := by
  have hlt := u.toNat_lt
  go_enter Try.func67, Try.ntmps67
  by_cases hs : u.toNat ≤ 247
  · have e1 : decide (U u ≤ 247) = true := decide_eq_true (by unfold U; omega)
    obtain ⟨c, hc⟩ : ∃ c, c = UInt8.ofNat u.toNat := ⟨_, rfl⟩
    have e2 : IntKind.u8.wrap (U u) = (c.toNat : Int) := by rw [hc, IntKind.wrap_u8]; unfold U; simp
    have e3 : numN u.toNat = [c] := by unfold numN; rw [if_pos hs, hc]
    have hcv := conv_one c w
    have E3 := Lib.hid e3
    clear hc hs e3
    go_wp2_with fail
    go_ret
    rw [E3.out]
    exact ⟨rfl, (Below.refl _ _).alloc (Nat.le_refl _) _⟩
  · have e1 : decide (U u ≤ 247) = false := decide_eq_false (by unfold U; omega)
    have HS := Lib.hid hs
    clear hs
    go_wp2_with fail
    go_loopw [0, 3] (fun v s wr => ∃ (x : UInt64) (l : List UInt8), v = .int .u64 (U x) ∧ s = str l ∧ Hid (beB u.toNat = beB x.toNat ++ l) ∧ Below w.heap.size w wr) (fun v _ _ => (intOf v).toNat)
    case atStart => exact ⟨u, [], rfl, rfl, Lib.hid (by simp), Below.refl _ _⟩
    case round =>
      obtain ⟨x, l, rfl, rfl, HB, hB⟩ := hrel
      have hd8 := digits_lt 8 u.toNat (by omega)
      have hl8 : l.length ≤ 8 := by
        have := HB.out
        unfold digits at hd8
        rw [this, List.length_append] at hd8
        omega
      by_cases h0 : x.toNat = 0
      · have e2 : decide (0 < U x) = false := decide_eq_false (by unfold U; omega)
        have e3 : numN u.toNat = UInt8.ofNat (247 + l.length) :: l := by
          have := HB.out
          rw [h0, beB_zero, List.nil_append] at this
          unfold numN digits
          rw [if_neg HS.out, this]
        have E3 := Lib.hid e3
        obtain ⟨c, hc⟩ : ∃ c, c = UInt8.ofNat (247 + l.length) := ⟨_, rfl⟩
        have e4 : IntKind.u8.wrap (247 + (l.length : Int)) = (c.toNat : Int) := by rw [hc, IntKind.wrap_u8, UInt8.toNat_ofNat']; omega
        have HC := Lib.hid hc
        have hcv := conv_one c wr
        have hle := len_ok [c] l (by simp; omega)
        clear e3 h0 hc hd8
        go_wp2_with fail
        go_ret
        rw [E3.out, ← HC.out]
        exact ⟨rfl, hB.alloc hB.size _⟩
      · have e2 : decide (0 < U x) = true := decide_eq_true (by unfold U; omega)
        obtain ⟨c, hc⟩ : ∃ c, c = UInt8.ofNat (x.toNat % 256) := ⟨_, rfl⟩
        have hx := x.toNat_lt
        have t0 : (U x).tdiv 256 = U (x / 256) := by
          rw [Int.tdiv_eq_ediv_of_nonneg (U_nonneg x)]; unfold U; rw [UInt64.toNat_div]; rfl
        have t1 : IntKind.u64.wrap (U (x / 256)) = U (x / 256) := by
          have := U_nonneg (x / 256); have := U_lt (x / 256); rw [wrap_u64]; omega
        have m0 : IntKind.u8.wrap ((U x).tmod 256) = (c.toNat : Int) := by
          rw [Int.tmod_eq_emod_of_nonneg (U_nonneg x), hc, IntKind.wrap_u8, UInt8.toNat_ofNat']; unfold U; omega
        have m1 : IntKind.u64.wrap ((U x).tmod 256) = (U x).tmod 256 := by
          rw [Int.tmod_eq_emod_of_nonneg (U_nonneg x), wrap_u64]; unfold U; omega
        have HB2 := Lib.hid (show beB u.toNat = beB (x / 256).toNat ++ (c :: l) by
          have := HB.out
          rw [beB_pos _ h0] at this
          rw [this, UInt64.toNat_div, hc, show (256 : UInt64).toNat = 256 from rfl]; simp)
        have hcv := conv_one c wr
        have hle := len_ok [c] l (by simp; omega)
        have hlt' : (x / 256).toNat < x.toNat := by rw [UInt64.toNat_div, show (256 : UInt64).toNat = 256 from rfl]; omega
        clear hc h0 hd8 HB
        go_wp2_with fail
        refine ⟨⟨x / 256, c :: l, rfl, rfl, HB2, hB.alloc hB.size _⟩, ?_⟩
        simp only [intOf]; unfold U; omega
end Go.Proofs.Ytkdbbdlkfpjdfaa

/- What a list of writes comes to, by a pen and by the document.
   Conditions: those that each theorem names. -/
namespace Go.Proofs.Ytkdbbdlkfpjdfaa
set_option maxRecDepth 100000
set_option linter.unusedVariables false
set_option linter.unusedSimpArgs false
set_option linter.unusedVariables false
set_option linter.unusedSimpArgs false
open Go.RowKit Go.Rg
theorem numN_le (n : Nat) (h : n < 18446744073709551616) : (numN n).length ≤ 9 := by
  rw [numN_length]; unfold sizeN; split; omega; have := digits_lt 8 n (by omega); omega
/-- Behind a pen's call: what was made behind the pen's last word is as it was. -/
def Fresh (n : Nat) (w w' : World) : Prop := ∀ (k : Nat) (o : Obj), n ≤ k → w.heap[k]? = some o → w'.heap[k]? = some o
theorem PenIn.open {lo b : Nat} {l : List UInt8} {w0 w : World} (h : PenIn lo b l w0) (hB : Below w0.heap.size w0 w) :
    ∃ r, PenAt b r l w ∧ ∀ (e : Ending) (w' : World) (l' : List UInt8), ((∃ v, e = .returned v) ∧ ∃ r', NewB w.heap.size r r' ∧ PenAt b r' l' w' ∧ Touch (PenM b r) w w') → (∃ v, e = .returned v) ∧ PenIn lo b l' w' ∧ Below lo w w' ∧ Fresh w0.heap.size w w' := by
  obtain ⟨r, h1, h2, h3, h4⟩ := h
  have hl := h1.lt
  refine ⟨r, h1.below hB, ?_⟩
  rintro e w' l' ⟨hv, r', q⟩
  have hn := PenIn.next (l := l) h2 h3 (Nat.le_trans h4 hB.size) q
  refine ⟨hv, hn.1, hn.2, fun k o hk ho => q.2.2.keep ho ?_⟩
  rintro (rfl | e)
  · omega
  · have := (hl.2 k e.symm).1; omega
theorem number_fr (u : UInt64) (lo b : Nat) (l : List UInt8) (w0 w : World) (h : PenIn lo b l w0) (hB : Below w0.heap.size w0 w) (hn : l.length ≤ 1000000000) :
    Calls Try.prog 94 #[ptr b, .int .u64 (U u)] w fun e w' => (∃ v, e = .returned v) ∧ PenIn lo b (l ++ numN u.toNat) w' ∧ Below lo w w' ∧ Fresh w0.heap.size w w' := by
  obtain ⟨r, h1, h2⟩ := h.open hB
  exact (number_any u b r l w h1 hn).mono fun e w' q => h2 e w' _ q
theorem signed_fr (n : Int) (lo b : Nat) (l : List UInt8) (w0 w : World) (h : PenIn lo b l w0) (hB : Below w0.heap.size w0 w) (hn : l.length ≤ 1000000000) (hi : -9223372036854775808 ≤ n ∧ n ≤ 9223372036854775807) :
    Calls Try.prog 65 #[ptr b, .int .i64 n] w fun e w' => (∃ v, e = .returned v) ∧ PenIn lo b (l ++ numN (zigN n).toNat) w' ∧ Below lo w w' ∧ Fresh w0.heap.size w w' := by
  obtain ⟨r, h1, h2⟩ := h.open hB
  exact (signed_any n b r l w h1 hn hi).mono fun e w' q => h2 e w' _ q
theorem fixed_fr (x : Value) (m : List UInt8) (lo b : Nat) (l : List UInt8) (w0 w : World) (h : PenIn lo b l w0) (hB : Below w0.heap.size w0 w) (hx : BytesAt w x m) (hn : l.length + m.length ≤ 1000000000) :
    Calls Try.prog 66 #[ptr b, x] w fun e w' => (∃ v, e = .returned v) ∧ PenIn lo b (l ++ m) w' ∧ Below lo w w' ∧ Fresh w0.heap.size w w' := by
  obtain ⟨r, h1, h2⟩ := h.open hB
  exact (fixed_any x m b r l w h1 hx hn).mono fun e w' q => h2 e w' _ q

end Go.Proofs.Ytkdbbdlkfpjdfaa

/- The plain law of PenOrder: numbers are read as they were written, and stand in their order.
   Conditions: those that each theorem names. -/
namespace Go.Proofs.Ytkdbbdlkfpjdfaa
set_option maxRecDepth 100000
set_option linter.unusedVariables false
set_option linter.unusedSimpArgs false
set_option linter.unusedVariables false
set_option linter.unusedSimpArgs false
open Go.RowKit Go.Rg
theorem digits_ge (n : Nat) (h : n ≠ 0) : 1 ≤ digits n := by have := digits_pos n h; omega
theorem valB_beB (n : Nat) : valB (beB n) = n := by
  induction n using Nat.strongRecOn with
  | _ n ih =>
    by_cases h : n = 0
    · subst h; rw [beB_zero]; rfl
    · rw [beB_pos n h, valB_snoc, ih (n / 256) (by omega), UInt8.toNat_ofNat']
      omega
theorem parse_num (u : Nat) (t : List UInt8) (h : u < 18446744073709551616) : parse (numN u ++ t) = (u, (numN u).length, 0) := by
  by_cases hs : u ≤ 247
  · have e : numN u = [UInt8.ofNat u] := by unfold numN; rw [if_pos hs]
    have hc : (UInt8.ofNat u).toNat = u := by rw [UInt8.toNat_ofNat']; omega
    rw [e, List.singleton_append, parse_cons, hc, if_pos hs]; rfl
  · have e : numN u = UInt8.ofNat (247 + digits u) :: beB u := by unfold numN; rw [if_neg hs]
    have hd8 : digits u ≤ 8 := digits_lt 8 u (by omega)
    have hd1 := digits_ge u (by omega)
    have hc : (UInt8.ofNat (247 + digits u)).toNat = 247 + digits u := by rw [UInt8.toNat_ofNat']; omega
    have hl : (beB u).length = digits u := rfl
    have ht : (beB u ++ t).take (247 + digits u - 247) = beB u := by rw [List.take_append_of_le_length (by omega), List.take_of_length_le (by omega)]
    have hz : sizeN u = 247 + digits u - 246 := by unfold sizeN; rw [if_neg hs]; omega
    rw [e, List.cons_append, parse_cons, hc, if_neg (by omega), if_neg (by rw [List.length_append]; omega), ht, valB_beB, if_neg (by rw [hz]; simp)]
    rw [List.length_cons, hl, show 247 + digits u - 246 = digits u + 1 by omega]
theorem number_num (u : Nat) (t : List UInt8) (most : UInt64) (h : u < 18446744073709551616) (hm : u ≤ most.toNat) : (Ey.mk (numN u ++ t) 0).number most = (u, ⟨t, 0⟩) := by
  unfold Ey.number
  rw [if_neg (by simp), parse_num u t h, if_neg (by simp), if_neg (by simp; omega)]
  simp
theorem text_text (b t : List UInt8) (h : b.length ≤ 1000) : (Ey.mk (numN b.length ++ b ++ t) 0).text (b.length : Int) = (b, ⟨t, 0⟩) := by
  unfold Ey.text
  rw [List.append_assoc, number_num b.length (b ++ t) 18446744073709551615 (by omega) (by show _ ≤ 18446744073709551615; omega)]
  dsimp only
  rw [if_neg (by simp), if_neg (by omega)]
  unfold Ey.fixed
  rw [if_neg (by simp), if_neg (by omega), if_neg (by simp; omega)]
  simp
theorem zag_zig (n : Int) (hn : -9223372036854775808 ≤ n ∧ n ≤ 9223372036854775807) : zagN (zigN n) = n := by
  unfold zagN zigN
  rw [UInt64.toNat_ofNat']
  split <;> split <;> omega
theorem zig_zag (u : UInt64) : zigN (zagN u) = u := by
  have h := u.toNat_lt
  apply UInt64.toNat_inj.1
  unfold zagN zigN
  rw [UInt64.toNat_ofNat']
  split <;> split <;> omega
theorem zag_range (u : UInt64) : -9223372036854775808 ≤ zagN u ∧ zagN u ≤ 9223372036854775807 := by
  have h := u.toNat_lt
  unfold zagN
  split <;> omega
/-! ### The order of the bytes -/
theorem less_self (l : List UInt8) : Op.bytesLess l l = false := by
  induction l with
  | nil => rfl
  | cons a l ih => simp [Op.bytesLess, ih]
theorem less_snoc : ∀ (x y : List UInt8) (a b : UInt8), x.length = y.length → Op.bytesLess (x ++ [a]) (y ++ [b]) = (Op.bytesLess x y || (x == y && decide (a < b)))
  | [], [], a, b, _ => by simp [Op.bytesLess]
  | [], y :: ys, a, b, h => by simp at h
  | x :: xs, [], a, b, h => by simp at h
  | x :: xs, y :: ys, a, b, h => by
    have ih := less_snoc xs ys a b (by simpa using h)
    simp only [List.cons_append, Op.bytesLess, ih]
    by_cases h1 : x < y
    · simp [h1]
    · by_cases h2 : x = y
      · subst h2; simp [h1]
      · have h3 : (x == y) = false := by simp [h2]
        simp [h1, h3]
theorem digits_lt' (n : Nat) : n < 256 ^ digits n := by
  have := valB_lt (beB n)
  rw [valB_beB] at this
  exact this
theorem beB_inj {a b : Nat} (h : beB a = beB b) : a = b := by
  have := congrArg valB h
  rwa [valB_beB, valB_beB] at this
theorem less_beB : ∀ (k a b : Nat), digits a = k → digits b = k → Op.bytesLess (beB a) (beB b) = decide (a < b) := by
  intro k
  induction k with
  | zero =>
    intro a b ha hb
    have h1 := digits_lt' a
    have h2 := digits_lt' b
    rw [ha] at h1; rw [hb] at h2
    obtain rfl : a = 0 := by omega
    obtain rfl : b = 0 := by omega
    rw [beB_zero]; rfl
  | succ k ih =>
    intro a b ha hb
    have h1 : a ≠ 0 := by rintro rfl; rw [digits_zero] at ha; omega
    have h2 : b ≠ 0 := by rintro rfl; rw [digits_zero] at hb; omega
    have h3 := digits_pos a h1
    have h4 := digits_pos b h2
    have ih' := ih (a / 256) (b / 256) (by omega) (by omega)
    rw [beB_pos a h1, beB_pos b h2, less_snoc _ _ _ _ (show digits (a / 256) = digits (b / 256) by omega), ih']
    have hlt : (UInt8.ofNat (a % 256) < UInt8.ofNat (b % 256)) ↔ a % 256 < b % 256 := by
      rw [UInt8.lt_iff_toNat_lt, UInt8.toNat_ofNat', UInt8.toNat_ofNat']; omega
    by_cases hq : a / 256 = b / 256
    · rw [hq]
      simp only [Nat.lt_irrefl, decide_false, beq_self_eq_true, Bool.true_and, Bool.false_or]
      exact decide_eq_decide.2 (hlt.trans (by omega))
    · have : (beB (a / 256) == beB (b / 256)) = false := by
        simp only [beq_eq_false_iff_ne]
        exact fun e => hq (beB_inj e)
      rw [this]
      simp only [Bool.false_and, Bool.or_false]
      exact decide_eq_decide.2 (by omega)
theorem digits_mono {a b : Nat} (h : a ≤ b) : digits a ≤ digits b := digits_lt _ _ (Nat.lt_of_le_of_lt h (digits_lt' b))
theorem less_num (a b : Nat) (ha : a < 18446744073709551616) (hb : b < 18446744073709551616) : Op.bytesLess (numN a) (numN b) = decide (a < b) := by
  have hda := digits_lt 8 a (by omega)
  have hdb := digits_lt 8 b (by omega)
  unfold numN
  by_cases h1 : a ≤ 247
  · rw [if_pos h1]
    by_cases h2 : b ≤ 247
    · rw [if_pos h2]
      have hlt : (UInt8.ofNat a < UInt8.ofNat b) ↔ a < b := by rw [UInt8.lt_iff_toNat_lt, UInt8.toNat_ofNat', UInt8.toNat_ofNat']; omega
      simp [Op.bytesLess, hlt]
    · rw [if_neg h2]
      have := digits_ge b (by omega)
      have hlt : UInt8.ofNat a < UInt8.ofNat (247 + digits b) := by rw [UInt8.lt_iff_toNat_lt, UInt8.toNat_ofNat', UInt8.toNat_ofNat']; omega
      have hab : a < b := by omega
      generalize UInt8.ofNat (247 + digits b) = c at *
      simp [Op.bytesLess, hlt, hab]
  · rw [if_neg h1]
    have hda1 := digits_ge a (by omega)
    by_cases h2 : b ≤ 247
    · rw [if_pos h2]
      have hlt : ¬ UInt8.ofNat (247 + digits a) < UInt8.ofNat b := by rw [UInt8.lt_iff_toNat_lt, UInt8.toNat_ofNat', UInt8.toNat_ofNat']; omega
      have hne : ¬ UInt8.ofNat (247 + digits a) = UInt8.ofNat b := fun e => by
        have := congrArg UInt8.toNat e
        rw [UInt8.toNat_ofNat', UInt8.toNat_ofNat'] at this; omega
      have hab : ¬ a < b := by omega
      generalize UInt8.ofNat (247 + digits a) = c at *
      simp [Op.bytesLess, hlt, hne, hab]
    · rw [if_neg h2]
      have hdb1 := digits_ge b (by omega)
      have hlt : (UInt8.ofNat (247 + digits a) < UInt8.ofNat (247 + digits b)) ↔ digits a < digits b := by rw [UInt8.lt_iff_toNat_lt, UInt8.toNat_ofNat', UInt8.toNat_ofNat']; omega
      have heq : (UInt8.ofNat (247 + digits a) = UInt8.ofNat (247 + digits b)) ↔ digits a = digits b := ⟨fun e => by
        have := congrArg UInt8.toNat e
        rw [UInt8.toNat_ofNat', UInt8.toNat_ofNat'] at this; omega, fun e => by rw [e]⟩
      simp only [Op.bytesLess]
      rcases Nat.lt_trichotomy (digits a) (digits b) with h | h | h
      · have : a < b := Classical.byContradiction fun hn => by have := digits_mono (Nat.le_of_not_lt hn); omega
        rw [decide_eq_true (hlt.2 h), decide_eq_true this]; rfl
      · rw [less_beB _ a b rfl h.symm]
        have e1 : decide (UInt8.ofNat (247 + digits a) < UInt8.ofNat (247 + digits b)) = false := decide_eq_false (fun e => by have := hlt.1 e; omega)
        have e2 : (UInt8.ofNat (247 + digits a) == UInt8.ofNat (247 + digits b)) = true := by rw [heq.2 h]; simp
        rw [e1, e2]; simp
      · have : ¬ a < b := fun hn => by have := digits_mono (Nat.le_of_lt hn); omega
        have e1 : decide (UInt8.ofNat (247 + digits a) < UInt8.ofNat (247 + digits b)) = false := decide_eq_false (fun e => by have := hlt.1 e; omega)
        have e2 : (UInt8.ofNat (247 + digits a) == UInt8.ofNat (247 + digits b)) = false := by simp only [beq_eq_false_iff_ne]; exact fun e => by have := heq.1 e; omega
        rw [e1, e2, decide_eq_false this]; rfl
theorem num_inj {a b : Nat} (ha : a < 18446744073709551616) (hb : b < 18446744073709551616) (h : numN a = numN b) : a = b := by
  have h1 := parse_num a [] ha
  have h2 := parse_num b [] hb
  rw [h, h2] at h1
  exact (congrArg Prod.fst h1).symm
/-- None is another one's beginning. -/
theorem num_free {a b : Nat} (ha : a < 18446744073709551616) (hb : b < 18446744073709551616) (hle : (numN a).length ≤ (numN b).length) (h : (numN b).take (numN a).length = numN a) : a = b := by
  have h1 := parse_num a ((numN b).drop (numN a).length) ha
  have h2 := parse_num b [] hb
  rw [List.append_nil] at h2
  have e : numN a ++ (numN b).drop (numN a).length = numN b := by
    conv => lhs; rw [← h]
    rw [List.length_take, Nat.min_eq_left hle, List.take_append_drop]
  rw [e, h2] at h1
  exact (congrArg Prod.fst h1).symm
end Go.Proofs.Ytkdbbdlkfpjdfaa

/- The document's eye.
   Conditions: those that each theorem names. -/
namespace Go.Proofs.Ytkdbbdlkfpjdfaa
set_option maxRecDepth 100000
set_option linter.unusedVariables false
set_option linter.unusedSimpArgs false
set_option linter.unusedVariables false
set_option linter.unusedSimpArgs false
open Go.RowKit Go.Rg
attribute [local go_sem] Rg.q_add Rg.q_add' Rg.q_xor Rg.q_or Rg.q_and ba_app
theorem ba_pre (l : List UInt8) (k : Nat) : (⟨l.toArray⟩ : ByteArray).extract 0 k = ⟨(l.take k).toArray⟩ := by
  apply ByteArray.ext
  simp [ByteArray.data_extract]
theorem ba_suf (l : List UInt8) (k : Nat) : (⟨l.toArray⟩ : ByteArray).extract k l.length = ⟨(l.drop k).toArray⟩ := by
  apply ByteArray.ext
  simp [ByteArray.data_extract]
  exact List.take_of_length_le (by simp)
theorem bytes_size (l : List UInt8) : (⟨l.toArray⟩ : ByteArray).size = l.length := by simp [ByteArray.size]
def RefAt (b : Nat) (x : Ey) (W : World) : Prop := W.heap[b]? = some (.cells #[str x.s, .int .i64 x.e] 51 (0, 0))
theorem RefAt.cells {b : Nat} {x : Ey} {W : World} (h : RefAt b x W) : W.cell? ⟨b, 0, none⟩ = some (str x.s) ∧ W.cell? ⟨b, 1, none⟩ = some (.int .i64 x.e) ∧ W.frozen? ⟨b, 0, none⟩ = false ∧ W.frozen? ⟨b, 1, none⟩ = false := by
  have h' : W.heap[b]? = some (.cells #[str x.s, .int .i64 x.e] 51 (0, 0)) := h
  exact ⟨by simp [World.cell?, h'], by simp [World.cell?, h'], free_of h' 0, free_of h' 1⟩
theorem RefAt.keep {b : Nat} {x : Ey} {W X : World} {M : Nat → Prop} (h : RefAt b x W) (hT : Touch M W X) (hb : ¬ M b) : RefAt b x X := hT.keep h hb
theorem RefAt.below {b : Nat} {x : Ey} {W X : World} (h : RefAt b x W) (hB : Below W.heap.size W X) : RefAt b x X := (hB.block b (blk_lt h)).trans h
set_option maxRecDepth 100000 in
theorem ref_fail (b : Nat) (x : Ey) (f : Int) (w : World) (h : RefAt b x w) :
    Calls Try.prog 78 #[ptr b, .int .i64 f] w fun e w' => (∃ v, e = .returned v) ∧ RefAt b (x.fail f) w' ∧ Touch (fun k => k = b) w w' := by
  obtain ⟨k0, k1, f0, f1⟩ := h.cells
  have H := Lib.hid h
  clear h
  go_enter Try.func78, Try.ntmps78
  by_cases h1 : x.e = 0
  · have e1 : (x.e == 0) = true := by simp [h1]
    by_cases h2 : f = 0
    · have e2 : (f != 0) = false := by simp [h2]
      have e3 : x.fail f = x := by unfold Ey.fail; rw [if_neg (by simp [h2])]
      clear h1 h2
      go_wp2_with fail
      go_end0
      exact ⟨⟨_, rfl⟩, by rw [e3]; exact H.out, Touch.refl _ _⟩
    · have e2 : (f != 0) = true := by simp [h2]
      have e3 : x.fail f = ⟨[], f⟩ := by unfold Ey.fail; rw [if_pos ⟨h1, h2⟩]
      have E3 := Lib.hid e3
      clear h1 h2 e3
      go_wp2_with fail
      go_end0
      rw [E3.out]
      refine ⟨⟨_, rfl⟩, (block_set _ (block_set _ H.out)).trans rfl, ?_⟩
      exact ((Touch.refl (fun k => k = b) w).set b 1 _ (.inl rfl)).set b 0 _ (.inl rfl)
  · have e1 : (x.e == 0) = false := by simp [h1]
    have e3 : x.fail f = x := by unfold Ey.fail; rw [if_neg (by simp [h1])]
    clear h1
    go_wp2_with fail
    go_end0
    exact ⟨⟨_, rfl⟩, by rw [e3]; exact H.out, Touch.refl _ _⟩
set_option maxRecDepth 100000 in
set_option maxHeartbeats 2000000 in
theorem ref_fixed (b : Nat) (x : Ey) (n : Int) (w : World) (h : RefAt b x w) :
    Calls Try.prog 77 #[ptr b, .int .i64 n] w fun e w' => e = .returned (str (x.fixed n).1) ∧ RefAt b (x.fixed n).2 w' ∧ Touch (fun k => k = b) w w' := by
  obtain ⟨k0, k1, f0, f1⟩ := h.cells
  have H := Lib.hid h
  clear h
  go_enter Try.func77, Try.ntmps77
  by_cases h1 : x.e = 0
  · have e1 : (x.e != 0) = false := by simp [h1]
    by_cases h2 : n < 0
    · have e2 : decide (n < 0) = true := decide_eq_true h2
      have HX := Lib.hid (show x.fixed n = ([], x.fail 2) by unfold Ey.fixed; rw [if_neg (by simp [h1]), if_pos h2])
      clear h1 h2
      go_wp2_with fail
      refine (ref_fail b x 2 w H.out).mono ?_
      rintro e w2 ⟨⟨v2, rfl⟩, a1, a2⟩
      have A1 := Lib.hid a1
      clear a1
      go_wp2_with fail
      go_ret
      rw [HX.out]
      exact ⟨rfl, A1.out, a2⟩
    have e2 : decide (n < 0) = false := decide_eq_false h2
    by_cases h3 : (x.s.length : Int) < n
    · have e3 : decide ((x.s.length : Int) < n) = true := decide_eq_true h3
      have HX := Lib.hid (show x.fixed n = ([], x.fail 10) by unfold Ey.fixed; rw [if_neg (by simp [h1]), if_neg h2, if_pos h3])
      clear h1 h2 h3
      go_wp2_with fail
      refine (ref_fail b x 10 w H.out).mono ?_
      rintro e w2 ⟨⟨v2, rfl⟩, a1, a2⟩
      have A1 := Lib.hid a1
      clear a1
      go_wp2_with fail
      go_ret
      rw [HX.out]
      exact ⟨rfl, A1.out, a2⟩
    · obtain ⟨m, rfl⟩ : ∃ m : Nat, n = m := ⟨n.toNat, (Int.toNat_of_nonneg (by omega)).symm⟩
      have hm : m ≤ x.s.length := by omega
      have e3 : decide ((x.s.length : Int) < (m : Int)) = false := decide_eq_false h3
      have HX := Lib.hid (show x.fixed m = (x.s.take m, ⟨x.s.drop m, x.e⟩) by unfold Ey.fixed; rw [if_neg (by simp [h1]), if_neg h2, if_neg h3]; rfl)
      clear h1 h2 h3
      go_wp2_with fail
      go_ret
      rw [HX.out, ba_suf]
      refine ⟨congrArg (fun z => Ending.returned (Value.string z)) (ba_pre x.s m), (block_set _ H.out).trans rfl, ?_⟩
      exact (Touch.refl (fun k => k = b) w).set b 0 _ (.inl rfl)
  · have e1 : (x.e != 0) = true := by simp [h1]
    have HX := Lib.hid (show x.fixed n = ([], x) by unfold Ey.fixed; rw [if_pos h1])
    clear h1
    go_wp2_with fail
    go_ret
    rw [HX.out]
    exact ⟨rfl, H.out, Touch.refl _ _⟩
/-! ### A number, as the document reads it -/
theorem valB_inj : ∀ (k : Nat) (l m : List UInt8), l.length = k → m.length = k → valB l = valB m → l = m := by
  intro k
  induction k with
  | zero => intro l m hl hm _; rw [List.length_eq_zero_iff.1 hl, List.length_eq_zero_iff.1 hm]
  | succ k ih =>
    intro l m hl hm h
    have hl0 : l ≠ [] := by rintro rfl; simp at hl
    have hm0 : m ≠ [] := by rintro rfl; simp at hm
    rw [← List.dropLast_concat_getLast hl0, ← List.dropLast_concat_getLast hm0] at h ⊢
    rw [valB_snoc, valB_snoc] at h
    have h1 := (l.getLast hl0).toNat_lt
    have h2 := (m.getLast hm0).toNat_lt
    have e1 : valB l.dropLast = valB m.dropLast := by omega
    have e2 : (l.getLast hl0).toNat = (m.getLast hm0).toNat := by omega
    rw [ih l.dropLast m.dropLast (by simp; omega) (by simp; omega) e1, UInt8.toNat_inj.1 e2]
/-- The bytes of a number stand there where its size is right. -/
theorem num_is (c : UInt8) (t : List UInt8) (hc : ¬ c.toNat ≤ 247) (hl : c.toNat - 247 ≤ t.length) : (numN (valB (t.take (c.toNat - 247))) = c :: t.take (c.toNat - 247)) ↔ sizeN (valB (t.take (c.toNat - 247))) = c.toNat - 246 := by
  have hct := c.toNat_lt
  have htl : (t.take (c.toNat - 247)).length = c.toNat - 247 := by rw [List.length_take]; omega
  constructor
  · intro h
    have := congrArg List.length h
    rw [numN_length, List.length_cons, htl] at this
    omega
  · intro h
    generalize t.take (c.toNat - 247) = l at *
    have hs : ¬ valB l ≤ 247 := by
      intro hs
      unfold sizeN at h
      rw [if_pos hs] at h
      omega
    have hd : digits (valB l) = c.toNat - 247 := by unfold sizeN at h; rw [if_neg hs] at h; omega
    unfold numN
    rw [if_neg hs, hd]
    have e1 : UInt8.ofNat (247 + (c.toNat - 247)) = c := by
      apply UInt8.toNat_inj.1
      rw [UInt8.toNat_ofNat']; omega
    have e2 : beB (valB l) = l := valB_inj (c.toNat - 247) _ _ hd htl (valB_beB _)
    rw [e1, e2]
end Go.Proofs.Ytkdbbdlkfpjdfaa

/- A number, as the document reads it.
   Conditions: those that each theorem names. -/
namespace Go.Proofs.Ytkdbbdlkfpjdfaa
set_option maxRecDepth 100000
set_option linter.unusedVariables false
set_option linter.unusedSimpArgs false
set_option linter.unusedVariables false
set_option linter.unusedSimpArgs false
open Go.RowKit Go.Rg
attribute [local go_sem] Rg.q_add Rg.q_add' Rg.q_xor Rg.q_or Rg.q_and ba_app
theorem rl_list (l : List UInt8) : (⟨l.toArray⟩ : ByteArray).toList = l := by
  simp [go_sem]
theorem ba_get (l : List UInt8) (i : Nat) (h : i < (⟨l.toArray⟩ : ByteArray).size) : (⟨l.toArray⟩ : ByteArray)[i]'h = l[i]'(by simpa [ByteArray.size] using h) := rfl
attribute [local go_sem] ba_get
set_option maxRecDepth 100000 in
/-- What the document's number comes to. -/
theorem number_ref (c : UInt8) (t : List UInt8) (most : UInt64) (k uv : Nat) (h0 : (Ey.mk (c :: t) 0).s.length ≤ 1000000000) (hk : k + 1 ≤ t.length + 1)
    (h : c.toNat ≤ 247 ∧ k = 0 ∧ uv = c.toNat ∨ ¬ c.toNat ≤ 247 ∧ c.toNat = k + 247 ∧ uv = valB (t.take k)) :
    (Ey.mk (c :: t) 0).number most = if numN uv = (c :: t).take (k + 1) then (if most.toNat < uv then (0, (Ey.mk (c :: t) 0).fail 12) else (uv, ⟨(c :: t).drop (k + 1), 0⟩)) else (0, (Ey.mk (c :: t) 0).fail 11) := by
  have hct := c.toNat_lt
  have hnn : (Ey.mk (c :: t) 0).number most = if (parse (c :: t)).2.2 ≠ 0 then (0, (Ey.mk (c :: t) 0).fail ((parse (c :: t)).2.2 : Int)) else if most.toNat < (parse (c :: t)).1 then (0, (Ey.mk (c :: t) 0).fail 12) else ((parse (c :: t)).1, ⟨(c :: t).drop (parse (c :: t)).2.1, 0⟩) := by
    unfold Ey.number; rw [if_neg (fun h => h rfl)]
  rw [hnn]
  rcases h with ⟨h1, hk0, hu0⟩ | ⟨h1, hk0, hu0⟩
  · subst hu0
    subst hk0
    have e : numN c.toNat = [c] := by
      unfold numN; rw [if_pos h1]
      exact congrArg (fun z => [z]) (UInt8.toNat_inj.1 (by rw [UInt8.toNat_ofNat']; omega))
    rw [show parse (c :: t) = (c.toNat, 1, 0) by rw [parse_cons, if_pos h1], e]
    have t1 : ¬ ((0 : Nat) ≠ 0) := fun h => h rfl
    have t2 : [c] = (c :: t).take (0 + 1) := rfl
    dsimp only
    rw [if_neg t1, if_pos t2]
  · subst hu0
    have e1 : c.toNat - 247 = k := by omega
    have e2 : c.toNat - 246 = k + 1 := by omega
    have hni := num_is c t h1 (by omega)
    have hpc := parse_cons c t
    rw [if_neg h1, e1, e2, if_neg (by omega)] at hpc
    rw [e1, e2] at hni
    by_cases h2 : sizeN (valB (t.take k)) = k + 1
    · have e := hni.2 h2
      rw [if_neg (fun h => h h2)] at hpc
      rw [hpc, List.take_succ_cons, if_pos e]
      dsimp only
      rw [if_neg (fun h => h rfl)]
    · have e : ¬ numN (valB (t.take k)) = c :: t.take k := fun e => h2 (hni.1 e)
      rw [if_pos h2] at hpc
      rw [hpc, List.take_succ_cons, if_neg e]
      dsimp only
      rw [if_pos (by omega)]
      rfl
set_option maxRecDepth 100000 in
set_option maxHeartbeats 4000000 in
theorem ref_eye_number (b : Nat) (x : Ey) (most : UInt64) (w : World) (h : RefAt b x w) (hn : x.s.length ≤ 1000000000) :
    Calls Try.prog 75 #[ptr b, .int .u64 (U most)] w fun e w' => e = .returned (.int .u64 (U (UInt64.ofNat (x.number most).1))) ∧ RefAt b (x.number most).2 w' ∧ ∃ w1, Below w.heap.size w w1 ∧ Touch (fun k => k = b) w1 w' := by
  obtain ⟨k0, k1, f0, f1⟩ := h.cells
  have H := Lib.hid h
  clear h
  obtain ⟨s, er⟩ := x
  dsimp only at k0 k1 hn
  go_enter Try.func75, Try.ntmps75
  by_cases h1 : er = 0
  · subst h1
    cases s with
    | nil =>
      have HX := Lib.hid (show (Ey.mk [] 0).number most = (0, (Ey.mk [] 0).fail 10) from rfl)
      go_wp2_with fail
      refine (ref_fail b _ 10 w H.out).mono ?_
      rintro e w2 ⟨⟨v2, rfl⟩, a1, a2⟩
      have A1 := Lib.hid a1
      clear a1
      go_wp2_with fail
      go_ret
      rw [HX.out]
      exact ⟨rfl, A1.out, w, Below.refl _ _, a2⟩
    | cons c t =>
      have hct := c.toNat_lt
      have hi0 : ∀ h, (c :: t)[0]'h = c := fun _ => rfl
      by_cases h2 : c.toNat ≤ 247
      · have e2 : decide ((247 : Int) < (c.toNat : Int)) = false := decide_eq_false (by omega)
        obtain ⟨v0, hv0⟩ : ∃ v0 : UInt64, v0 = UInt64.ofNat c.toNat := ⟨_, rfl⟩
        have m0 : IntKind.u64.wrap (c.toNat : Int) = U v0 := by rw [hv0, wrap_u64, U_nat _ (by omega)]; omega
        have HV := Lib.hid hv0
        clear hv0
        have e3 : decide ((t.length : Int) + 1 < 1) = false := decide_eq_false (by omega)
        go_wp2_with fail
        go_loopw [6, 7] (fun u i wr => wr = w ∧ ∃ j : Nat, j ≤ 0 ∧ i = .int .i64 ((j : Int) + 1) ∧ u = .int .u64 (U v0)) (fun _ i _ => 0 + 2 - (intOf i).toNat)
        case atStart => exact ⟨rfl, 0, by omega, rfl, by rfl⟩
        case round =>
          obtain ⟨rfl, j, hj, rfl, rfl⟩ := hrel
          by_cases hjl : j < 0
          · omega
          · have e5 : decide ((j : Int) + 1 ≤ (0 : Int)) = false := decide_eq_false (by omega)
            obtain rfl : j = 0 := by omega
            obtain ⟨uv, huv⟩ : ∃ uv, uv = c.toNat := ⟨_, rfl⟩
            have huvl : uv < 18446744073709551616 := by
              rw [huv]
              omega
            have hnr := number_ref c t most 0 uv hn (by omega) (.inl ⟨h2, rfl, huv⟩)
            rw [HV.out, ← huv]
            have HX := Lib.hid hnr
            have huu : (UInt64.ofNat uv).toNat = uv := by rw [UInt64.toNat_ofNat', Nat.mod_eq_of_lt huvl]
            obtain ⟨z, hz⟩ : ∃ z, z = UInt64.ofNat uv := ⟨_, rfl⟩
            rw [← hz] at huu ⊢
            have HZ := Lib.hid (show z.toNat = uv ∧ z = UInt64.ofNat uv from ⟨huu, hz⟩)
            have hcalls : ∀ X, Calls Try.prog 67 #[.int .u64 (U z)] X fun e w' => e = .returned (str (numN uv)) ∧ Below X.heap.size X w' := fun X => by
              have := ref_number z X
              rw [huu] at this
              exact this
            have hl1 : decide (0 + 1 ≤ t.length + 1) = true := decide_eq_true (by omega)
            have hcc : ∀ X, Below wr.heap.size wr X → X.cell? ⟨b, 0, none⟩ = some (str (c :: t)) := fun X hX => (H.out.below hX).cells.1
            clear hnr huv huvl huu hz e5 hjl hj
            go_wp2_with fail
            refine wp_region_vals [[], [0], [], [2], [3], [4], [], [6], [5, 7], [1, 8]] (fun X => Below wr.heap.size wr X) (fun X Y => Below X.heap.size X Y) (by kernel_rfl) (by kernel_rfl) (by kernel_rfl) (Below.drew (Below.refl _ _)) (fun X Y hC hG => hC.trans (hG.mono hC.size)) ?_
            iterate 10
              (apply vals_fx
               · intro vs X hX hA
                 try simp only [List.getD_cons_zero, List.getD_cons_succ, List.forall_mem_cons, List.not_mem_nil, false_implies, implies_true, and_true] at hA
                 simp only [List.getD_cons_zero, List.getD_cons_succ, putL, dstOf, List.foldl_nil, List.foldl_cons, List.getElem?_toArray, List.getElem?_cons_zero, List.getElem?_cons_succ, Option.bind_some, Act.put, List.setIfInBounds_toArray, List.set_cons_zero, List.set_cons_succ]
                 try simp only [hA]
                 go_wp2_with fail
                 first
                 | exact ⟨_, rfl, Below.refl _ _, rfl⟩
                 | (refine (hcalls X).mono ?_; rintro e w' ⟨rfl, hB⟩; go_wp2_with fail; exact ⟨_, rfl, hB, rfl⟩)
               simp only [List.cons_append, List.nil_append])
            refine vals_nil ?_
            intro vs X hX hA
            rw [(fun (l : List Oper) (h : l.length = 10) => (by rw [h]; rfl : List.range l.length = [0, 1, 2, 3, 4, 5, 6, 7, 8, 9])) _ rfl]
            simp only [List.getD_cons_zero, List.getD_cons_succ, putL, dstOf, List.foldl_nil, List.foldl_cons, List.getElem?_toArray, List.getElem?_cons_zero, List.getElem?_cons_succ, Option.bind_some, Act.put, List.setIfInBounds_toArray, List.set_cons_zero, List.set_cons_succ]
            clear hcc hcalls
            have HBX := Lib.hid (H.out.below hX)
            have HW := Lib.hid hX
            obtain ⟨q, hq⟩ : ∃ q : Bool, q = (!(numN uv == (c :: t).take (0 + 1))) := ⟨_, rfl⟩
            have h9 : vs 9 = .bool q := by
              refine (hA 9 (by decide)).trans ?_
              rw [hq]
              rw [ba_pre, rl_list]
              try rw [Nat.add_comm 1 j]
            clear hA hX
            rw [h9]
            clear h9
            cases q with
            | true =>
              have hne : ¬ numN uv = (c :: t).take (0 + 1) := by simpa using hq
              have HY := Lib.hid (HX.out.trans (if_neg hne))
              clear hne hq
              go_wp2_with fail
              refine (ref_fail b _ 11 X HBX.out).mono ?_
              rintro e w2 ⟨⟨v2, rfl⟩, a1, a2⟩
              have A1 := Lib.hid a1
              clear a1
              go_wp2_with fail
              go_ret
              rw [HY.out]
              exact ⟨rfl, A1.out, X, HW.out, a2⟩
            | false =>
              have hne : numN uv = (c :: t).take (0 + 1) := by simpa using hq
              by_cases hm : most.toNat < uv
              · have HY := Lib.hid ((HX.out.trans (if_pos hne)).trans (if_pos hm))
                have e8 : decide (U most < U z) = true := decide_eq_true (by have := HZ.out.1; unfold U; omega)
                clear hne hq hm
                go_wp2_with fail
                refine (ref_fail b _ 12 X HBX.out).mono ?_
                rintro e w2 ⟨⟨v2, rfl⟩, a1, a2⟩
                have A1 := Lib.hid a1
                clear a1
                go_wp2_with fail
                go_ret
                rw [HY.out]
                exact ⟨rfl, A1.out, X, HW.out, a2⟩
              · have HY := Lib.hid ((HX.out.trans (if_pos hne)).trans (if_neg hm))
                have e8 : decide (U most < U z) = false := decide_eq_false (by have := HZ.out.1; unfold U; omega)
                clear hne hq hm
                obtain ⟨k0', k1', f0', f1'⟩ := HBX.out.cells
                go_wp2_with fail
                go_ret
                rw [HY.out]
                refine ⟨by simp only [← HZ.out.2]; rfl, ?_, X, HW.out, (Touch.refl (fun k => k = b) X).set b 0 _ (.inl rfl)⟩
                refine (block_set _ HBX.out).trans ?_
                have e9 := ba_suf (c :: t) (0 + 1)
                rw [show (({ data := (c :: t).toArray } : ByteArray).extract 1 (t.length + 1)) = _ from e9]
                rfl
      · have e2 : decide ((247 : Int) < (c.toNat : Int)) = true := decide_eq_true (by omega)
        obtain ⟨k, hk⟩ : ∃ k : Nat, c.toNat = k + 247 := ⟨c.toNat - 247, by omega⟩
        have hk0 : 1 ≤ k := by omega
        have ek : (c.toNat : Int) - 247 = (k : Int) := by omega
        by_cases h3 : t.length + 1 < 1 + k
        · have e3 : decide ((t.length : Int) + 1 < 1 + (k : Int)) = true := decide_eq_true (by omega)
          have HX := Lib.hid (show (Ey.mk (c :: t) 0).number most = (0, (Ey.mk (c :: t) 0).fail 10) by
            unfold Ey.number
            rw [show parse (c :: t) = (0, 0, 10) by rw [parse_cons, if_neg h2, if_pos (by omega)]]
            rfl)
          clear hk h2
          go_wp2_with fail
          refine (ref_fail b _ 10 w H.out).mono ?_
          rintro e w2 ⟨⟨v2, rfl⟩, a1, a2⟩
          have A1 := Lib.hid a1
          clear a1
          go_wp2_with fail
          go_ret
          rw [HX.out]
          exact ⟨rfl, A1.out, w, Below.refl _ _, a2⟩
        have e3 : decide ((t.length : Int) + 1 < 1 + (k : Int)) = false := decide_eq_false (by omega)
        have e4 : ((k : Int) == 0) = false := by simp; omega
        have HK := Lib.hid hk
        clear hk
        go_wp2_with fail
        go_loopw [6, 7] (fun u i wr => wr = w ∧ ∃ j : Nat, j ≤ k ∧ i = .int .i64 ((j : Int) + 1) ∧ u = .int .u64 (U (UInt64.ofNat (valB (t.take j))))) (fun _ i _ => k + 2 - (intOf i).toNat)
        case atStart => exact ⟨rfl, 0, by omega, rfl, by simp [valB]; rfl⟩
        case round =>
          obtain ⟨rfl, j, hj, rfl, rfl⟩ := hrel
          by_cases hjl : j < k
          · have e5 : decide ((j : Int) + 1 ≤ (k : Int)) = true := decide_eq_true (by omega)
            obtain ⟨x, hx⟩ : ∃ x, t[j]? = some x := ⟨_, List.getElem?_eq_getElem (by omega)⟩
            have hxt := x.toNat_lt
            have hvl : valB (t.take j) < 72057594037927936 := by
              have h1 := valB_lt (t.take j)
              have h3 : (256 : Nat) ^ (t.take j).length ≤ 256 ^ 7 := Nat.pow_le_pow_right (by omega) (by have := HK.out; rw [List.length_take]; omega)
              have e7 : (256 : Nat) ^ 7 = 72057594037927936 := by simp
              omega
            obtain ⟨n, hnv⟩ : ∃ n, n = valB (t.take j) := ⟨_, rfl⟩
            rw [← hnv] at hvl ⊢
            obtain ⟨y, hy⟩ : ∃ y, y = UInt64.ofNat (n * 256 + x.toNat) := ⟨_, rfl⟩
            have hgx : ∀ h, (c :: t)[j + 1]'h = x := fun h => by
              rw [List.getElem_cons_succ]
              obtain ⟨_, e⟩ := List.getElem?_eq_some_iff.1 hx
              exact e
            have m1 : IntKind.u64.wrap (U (UInt64.ofNat n) * 256) = (n : Int) * 256 := by rw [U_nat n (by omega), wrap_u64]; omega
            have m2 : IntKind.u64.wrap (x.toNat : Int) = (x.toNat : Int) := by rw [wrap_u64]; omega
            have m3 : IntKind.u64.wrap ((n : Int) * 256 + (x.toNat : Int)) = U y := by rw [hy, U_nat _ (by omega), wrap_u64]; omega
            have HY := Lib.hid (show y = UInt64.ofNat (valB (t.take (j + 1))) by
              rw [hy, hnv, List.take_add_one, hx, show (some x : Option UInt8).toList = [x] from rfl, valB_snoc])
            have hlj : decide (j + 1 < t.length + 1) = true := decide_eq_true (by omega)
            clear hy hnv hx hvl
            go_wp2_with fail
            refine ⟨⟨trivial, j + 1, by omega, by go_num, by rw [HY.out]⟩, by simp [intOf]; omega⟩
          · have e5 : decide ((j : Int) + 1 ≤ (k : Int)) = false := decide_eq_false (by omega)
            obtain rfl : j = k := by omega
            obtain ⟨uv, huv⟩ : ∃ uv, uv = valB (t.take j) := ⟨_, rfl⟩
            have huvl : uv < 18446744073709551616 := by
              rw [huv]
              have h1 := valB_lt (t.take j)
              have h3 : (256 : Nat) ^ (t.take j).length ≤ 256 ^ 8 := Nat.pow_le_pow_right (by omega) (by have := HK.out; rw [List.length_take]; omega)
              have e7 : (256 : Nat) ^ 8 = 18446744073709551616 := by simp
              omega
            have hnr := number_ref c t most j uv hn (by omega) (.inr ⟨h2, HK.out, huv⟩)
            rw [← huv]
            have HX := Lib.hid hnr
            have huu : (UInt64.ofNat uv).toNat = uv := by rw [UInt64.toNat_ofNat', Nat.mod_eq_of_lt huvl]
            obtain ⟨z, hz⟩ : ∃ z, z = UInt64.ofNat uv := ⟨_, rfl⟩
            rw [← hz] at huu ⊢
            have HZ := Lib.hid (show z.toNat = uv ∧ z = UInt64.ofNat uv from ⟨huu, hz⟩)
            have hcalls : ∀ X, Calls Try.prog 67 #[.int .u64 (U z)] X fun e w' => e = .returned (str (numN uv)) ∧ Below X.heap.size X w' := fun X => by
              have := ref_number z X
              rw [huu] at this
              exact this
            have hl1 : decide (j + 1 ≤ t.length + 1) = true := decide_eq_true (by omega)
            have hcc : ∀ X, Below wr.heap.size wr X → X.cell? ⟨b, 0, none⟩ = some (str (c :: t)) := fun X hX => (H.out.below hX).cells.1
            clear hnr huv huvl huu hz e5 hjl hj
            go_wp2_with fail
            refine wp_region_vals [[], [0], [], [2], [3], [4], [], [6], [5, 7], [1, 8]] (fun X => Below wr.heap.size wr X) (fun X Y => Below X.heap.size X Y) (by kernel_rfl) (by kernel_rfl) (by kernel_rfl) (Below.drew (Below.refl _ _)) (fun X Y hC hG => hC.trans (hG.mono hC.size)) ?_
            iterate 10
              (apply vals_fx
               · intro vs X hX hA
                 try simp only [List.getD_cons_zero, List.getD_cons_succ, List.forall_mem_cons, List.not_mem_nil, false_implies, implies_true, and_true] at hA
                 simp only [List.getD_cons_zero, List.getD_cons_succ, putL, dstOf, List.foldl_nil, List.foldl_cons, List.getElem?_toArray, List.getElem?_cons_zero, List.getElem?_cons_succ, Option.bind_some, Act.put, List.setIfInBounds_toArray, List.set_cons_zero, List.set_cons_succ]
                 try simp only [hA]
                 go_wp2_with fail
                 first
                 | exact ⟨_, rfl, Below.refl _ _, rfl⟩
                 | (refine (hcalls X).mono ?_; rintro e w' ⟨rfl, hB⟩; go_wp2_with fail; exact ⟨_, rfl, hB, rfl⟩)
               simp only [List.cons_append, List.nil_append])
            refine vals_nil ?_
            intro vs X hX hA
            rw [(fun (l : List Oper) (h : l.length = 10) => (by rw [h]; rfl : List.range l.length = [0, 1, 2, 3, 4, 5, 6, 7, 8, 9])) _ rfl]
            simp only [List.getD_cons_zero, List.getD_cons_succ, putL, dstOf, List.foldl_nil, List.foldl_cons, List.getElem?_toArray, List.getElem?_cons_zero, List.getElem?_cons_succ, Option.bind_some, Act.put, List.setIfInBounds_toArray, List.set_cons_zero, List.set_cons_succ]
            clear hcc hcalls
            have HBX := Lib.hid (H.out.below hX)
            have HW := Lib.hid hX
            obtain ⟨q, hq⟩ : ∃ q : Bool, q = (!(numN uv == (c :: t).take (j + 1))) := ⟨_, rfl⟩
            have h9 : vs 9 = .bool q := by
              refine (hA 9 (by decide)).trans ?_
              rw [hq]
              rw [ba_pre, rl_list]
              try rw [Nat.add_comm 1 j]
            clear hA hX
            rw [h9]
            clear h9
            cases q with
            | true =>
              have hne : ¬ numN uv = (c :: t).take (j + 1) := by simpa using hq
              have HY := Lib.hid (HX.out.trans (if_neg hne))
              clear hne hq
              go_wp2_with fail
              refine (ref_fail b _ 11 X HBX.out).mono ?_
              rintro e w2 ⟨⟨v2, rfl⟩, a1, a2⟩
              have A1 := Lib.hid a1
              clear a1
              go_wp2_with fail
              go_ret
              rw [HY.out]
              exact ⟨rfl, A1.out, X, HW.out, a2⟩
            | false =>
              have hne : numN uv = (c :: t).take (j + 1) := by simpa using hq
              by_cases hm : most.toNat < uv
              · have HY := Lib.hid ((HX.out.trans (if_pos hne)).trans (if_pos hm))
                have e8 : decide (U most < U z) = true := decide_eq_true (by have := HZ.out.1; unfold U; omega)
                clear hne hq hm
                go_wp2_with fail
                refine (ref_fail b _ 12 X HBX.out).mono ?_
                rintro e w2 ⟨⟨v2, rfl⟩, a1, a2⟩
                have A1 := Lib.hid a1
                clear a1
                go_wp2_with fail
                go_ret
                rw [HY.out]
                exact ⟨rfl, A1.out, X, HW.out, a2⟩
              · have HY := Lib.hid ((HX.out.trans (if_pos hne)).trans (if_neg hm))
                have e8 : decide (U most < U z) = false := decide_eq_false (by have := HZ.out.1; unfold U; omega)
                clear hne hq hm
                obtain ⟨k0', k1', f0', f1'⟩ := HBX.out.cells
                go_wp2_with fail
                go_ret
                rw [HY.out]
                refine ⟨by simp only [← HZ.out.2]; rfl, ?_, X, HW.out, (Touch.refl (fun k => k = b) X).set b 0 _ (.inl rfl)⟩
                refine (block_set _ HBX.out).trans ?_
                have e9 := ba_suf (c :: t) (j + 1)
                rw [Nat.add_comm 1 j, show (({ data := (c :: t).toArray } : ByteArray).extract (j + 1) (t.length + 1)) = _ from e9]
                rfl
  · have e1 : (er != 0) = true := by simp [h1]
    have HX := Lib.hid (show (Ey.mk s er).number most = (0, ⟨s, er⟩) by unfold Ey.number; rw [if_pos h1])
    clear h1
    go_wp2_with fail
    go_ret
    rw [HX.out]
    exact ⟨rfl, H.out, w, Below.refl _ _, Touch.refl _ _⟩
theorem ref_num (b : Nat) (x : Ey) (most : UInt64) (w : World) (h : RefAt b x w) (hn : x.s.length ≤ 1000000000) :
    Calls Try.prog 75 #[ptr b, .int .u64 (U most)] w fun e w' => e = .returned (.int .u64 (U (UInt64.ofNat (x.number most).1))) ∧ RefAt b (x.number most).2 w' ∧ Touch (fun k => k = b) w w' := by
  refine (ref_eye_number b x most w h hn).mono ?_
  rintro e w' ⟨h1, h2, w1, h3, h4⟩
  exact ⟨h1, h2, (Touch.of_below h3).trans h4 (fun _ _ h => h)⟩
end Go.Proofs.Ytkdbbdlkfpjdfaa

