/- What a list of writes comes to, by a pen and by the document.
   Conditions: those that each theorem names. -/
import Derived.Test.YtfmgkllnncibaaaH
namespace Go.Proofs.Ytfmgkllnncibaaa
set_option linter.unusedVariables false
set_option linter.unusedSimpArgs false
open Go.RowKit Go.Rg
attribute [local go_sem] Rg.q_add Rg.q_add' Rg.q_xor Rg.q_or Rg.q_and ba_app
structure OutOp where
  kind : Int
  n : Int
  u : UInt64
  b : List UInt8
def OutsAt (w : World) (v : Value) (os : List OutOp) : Prop :=
  ∃ p cap, v = .slice p os.length cap ∧ ∀ i, i < os.length → ∃ g o x q, p = some ⟨g, o, none⟩ ∧ g < w.heap.size ∧ os[i]? = some q ∧ w.cell? ⟨g, o + i * 4, none⟩ = some (.int .i64 q.kind) ∧ w.cell? ⟨g, o + i * 4 + 1, none⟩ = some (.int .i64 q.n) ∧
    w.cell? ⟨g, o + i * 4 + 2, none⟩ = some (.int .u64 (U q.u)) ∧ w.cell? ⟨g, o + i * 4 + 3, none⟩ = some x ∧ BytesAt w x q.b ∧ (-9223372036854775808 ≤ q.kind ∧ q.kind ≤ 9223372036854775807) ∧ (-9223372036854775808 ≤ q.n ∧ q.n ≤ 9223372036854775807)
theorem OutsAt.below {w w' : World} {v : Value} {os : List OutOp} (h : OutsAt w v os) (hB : Below w.heap.size w w') : OutsAt w' v os := by
  obtain ⟨p, cap, rfl, hf⟩ := h
  refine ⟨p, cap, rfl, fun i hi => ?_⟩
  obtain ⟨g, o, x, q, rfl, hg, hq, h0, h1, h2, h3, hx, hk, hn⟩ := hf i hi
  exact ⟨g, o, x, q, rfl, Nat.lt_of_lt_of_le hg hB.size, hq, (hB.cell (p := ⟨g, o + i * 4, none⟩) hg).trans h0, (hB.cell (p := ⟨g, o + i * 4 + 1, none⟩) hg).trans h1, (hB.cell (p := ⟨g, o + i * 4 + 2, none⟩) hg).trans h2, (hB.cell (p := ⟨g, o + i * 4 + 3, none⟩) hg).trans h3, hx.below hB, hk, hn⟩
def totO (os : List OutOp) : Nat := (os.map fun q => 10 + q.b.length).sum
theorem totO_take (os : List OutOp) (i : Nat) (q : OutOp) (h : os[i]? = some q) : totO (os.take (i + 1)) = totO (os.take i) + (10 + q.b.length) := by
  obtain ⟨hi, rfl⟩ := List.getElem?_eq_some_iff.1 h
  unfold totO
  rw [List.take_succ_eq_append_getElem hi, List.map_append, List.sum_append]; simp
theorem totO_le (os : List OutOp) (i : Nat) : totO (os.take i) ≤ totO os := by
  have : totO os = totO (os.take i) + totO (os.drop i) := by
    unfold totO
    rw [← List.sum_append, ← List.map_append, List.take_append_drop]
  omega

set_option maxRecDepth 100000 in
set_option maxHeartbeats 2000000 in
theorem great_any (v : Value) (os : List OutOp) (w : World) (hr : OutsAt w v os) (hk : os.length ≤ 1000000000000000) (hs : ∀ q ∈ os, q.b.length ≤ 1000000000000000) :
    Calls Try.prog 9 #[v] w fun e w' => e = .returned (.bool (decide (4000 < totO os))) ∧ Below w.heap.size w w' := by
  obtain ⟨p, cap, rfl, hf⟩ := hr
  have HF := Lib.hid hf
  generalize hr : decide (4000 < totO os) = r
  have HR := Lib.hid hr
  clear hr hf
  go_enter Try.func9, Try.ntmps9
  go_wp2_with fail
  go_loopw [3, 8] (fun n c wr => ∃ i : Nat, i ≤ os.length ∧ c = .int .i64 i ∧ n = .int .i64 (totO (os.take i)) ∧ totO (os.take i) ≤ 4000 ∧ Below w.heap.size w wr) (fun _ c _ => os.length - (intOf c).toNat)
  case atStart => exact ⟨0, by omega, rfl, rfl, by simp [totO], Below.refl _ _⟩
  case round =>
    obtain ⟨i, hi, rfl, rfl, ht, hB⟩ := hrel
    by_cases hil : i < os.length
    · obtain ⟨g, o, x, q, rfl, hg, hq, h0, h1, h2, h3, hx, _⟩ := HF.out i hil
      have e1 : decide (i < os.length) = true := decide_eq_true hil
      have hql := hs q (List.mem_of_getElem? hq)
      have k0 := (hB.cell (p := ⟨g, o + i * 4, none⟩) hg).trans h0
      have k1 := (hB.cell (p := ⟨g, o + i * 4 + 1, none⟩) hg).trans h1
      have k2 := (hB.cell (p := ⟨g, o + i * 4 + 2, none⟩) hg).trans h2
      have k3 := (hB.cell (p := ⟨g, o + i * 4 + 3, none⟩) hg).trans h3
      obtain ⟨px, cx, rfl, _⟩ := id hx
      have htk := totO_take os i q hq
      have hle := totO_le os (i + 1)
      obtain ⟨t', ht'⟩ : ∃ t', totO (os.take (i + 1)) = t' := ⟨_, rfl⟩
      obtain ⟨t, ht0⟩ : ∃ t, totO (os.take i) = t := ⟨_, rfl⟩
      rw [ht', ht0] at htk
      rw [ht'] at hle
      rw [ht0] at ht ⊢
      have E1 : (t : Int) + (10 + (q.b.length : Int)) = (t' : Int) := by omega
      have HT' := Lib.hid ht'
      have HLE := Lib.hid hle
      clear h0 h1 h2 h3 hx ht0 ht' hle
      by_cases hgt : 4000 < t'
      · have e4 : decide ((4000 : Int) < (t' : Int)) = true := decide_eq_true (by omega)
        have e3 : r = true := by rw [← HR.out]; have := HLE.out; exact decide_eq_true (by omega)
        subst e3
        have HTK := Lib.hid htk
        clear htk
        go_wp2_with fail
        go_ret
        exact ⟨rfl, hB.alloc hB.size _⟩
      · have e4 : decide ((4000 : Int) < (t' : Int)) = false := decide_eq_false (by omega)
        have HTK := Lib.hid htk
        clear htk
        go_wp2_with fail
        refine ⟨⟨i + 1, by omega, by go_num, by rw [HT'.out], by rw [HT'.out]; omega, hB.alloc hB.size _⟩, by simp [intOf]; omega⟩
    · have e1 : decide (i < os.length) = false := decide_eq_false hil
      have e3 : r = false := by
        rw [← HR.out]
        rw [List.take_of_length_le (by omega)] at ht
        exact decide_eq_false (by omega)
      subst e3
      go_wp2_with fail
      go_ret
      exact ⟨rfl, hB⟩
/-- What one write comes to. -/
def OutOp.d (q : OutOp) : Nat := ((IntKind.u64.wrap q.kind).tmod 4).toNat
def OutOp.enc (q : OutOp) : List UInt8 :=
  if q.d = 0 then numN q.u.toNat else if q.d = 1 then numN (zigN q.n).toNat else if q.d = 2 then numN q.b.length ++ q.b else q.b
theorem numN_le (n : Nat) (h : n < 18446744073709551616) : (numN n).length ≤ 9 := by
  rw [numN_length]; unfold sizeN; split; omega; have := digits_lt 8 n (by omega); omega
theorem OutOp.enc_len (q : OutOp) (h : q.b.length ≤ 4000) : q.enc.length ≤ 10 + q.b.length := by
  have h1 := numN_le q.u.toNat (by have := q.u.toNat_lt; omega)
  have h2 := numN_le (zigN q.n).toNat (by have := (zigN q.n).toNat_lt; omega)
  have h3 := numN_le q.b.length (by omega)
  unfold OutOp.enc
  split
  · omega
  · split
    · omega
    · split
      · rw [List.length_append]; omega
      · omega
def encs (os : List OutOp) : List UInt8 := os.flatMap OutOp.enc
theorem encs_take (os : List OutOp) (i : Nat) (q : OutOp) (h : os[i]? = some q) : encs (os.take (i + 1)) = encs (os.take i) ++ q.enc := by
  obtain ⟨hi, rfl⟩ := List.getElem?_eq_some_iff.1 h
  unfold encs
  rw [List.take_succ_eq_append_getElem hi, List.flatMap_append]; simp
theorem encs_len (os : List OutOp) (h : ∀ q ∈ os, q.b.length ≤ 4000) : (encs os).length ≤ totO os := by
  induction os with
  | nil => simp [encs, totO]
  | cons q os ih =>
    have h1 := OutOp.enc_len q (h q (by simp))
    have h2 := ih (fun q hq => h q (by simp [hq]))
    unfold encs totO at *
    simp only [List.flatMap_cons, List.length_append, List.map_cons, List.sum_cons]
    omega
theorem mem_tot (os : List OutOp) (q : OutOp) (h : q ∈ os) : 10 + q.b.length ≤ totO os := by
  unfold totO
  induction os with
  | nil => cases h
  | cons x os ih =>
    rw [List.map_cons, List.sum_cons]
    rcases List.mem_cons.1 h with rfl | h
    · omega
    · have := ih h; omega

/-- Behind a pen's call: what was made behind the pen's last word is as it was. -/
def Fresh (n : Nat) (w w' : World) : Prop := ∀ (k : Nat) (o : Obj), n ≤ k → w.heap[k]? = some o → w'.heap[k]? = some o
theorem PenIn.open {lo b : Nat} {l : List UInt8} {w0 w : World} (h : PenIn lo b l w0) (hB : Below w0.heap.size w0 w) :
    ∃ r, PenAt b r l w ∧ ∀ (e : Ending) (w' : World) (l' : List UInt8), ((∃ v, e = .returned v) ∧ ∃ r', NewB w.heap.size r r' ∧ PenAt b r' l' w' ∧ Touch (PenM b r) w w') → (∃ v, e = .returned v) ∧ PenIn lo b l' w' ∧ Below lo w w' ∧ Fresh w0.heap.size w w' := by
  obtain ⟨r, h1, h2, h3, h4⟩ := h
  have hl := h1.lt
  refine ⟨r, h1.below hB, ?_⟩
  rintro e w' l' ⟨hv, r', q⟩
  have hn := PenIn.next (l := l) h2 h3 (Nat.le_trans h4 hB.size) q
  refine ⟨hv, hn.1, hn.2, fun k o hk ho => q.2.2.keep ho ?_⟩
  rintro (rfl | e)
  · omega
  · have := (hl.2 k e.symm).1; omega
theorem number_fr (u : UInt64) (lo b : Nat) (l : List UInt8) (w0 w : World) (h : PenIn lo b l w0) (hB : Below w0.heap.size w0 w) (hn : l.length ≤ 1000000000) :
    Calls Try.prog 12 #[ptr b, .int .u64 (U u)] w fun e w' => (∃ v, e = .returned v) ∧ PenIn lo b (l ++ numN u.toNat) w' ∧ Below lo w w' ∧ Fresh w0.heap.size w w' := by
  obtain ⟨r, h1, h2⟩ := h.open hB
  exact (number_any u b r l w h1 hn).mono fun e w' q => h2 e w' _ q
theorem signed_fr (n : Int) (lo b : Nat) (l : List UInt8) (w0 w : World) (h : PenIn lo b l w0) (hB : Below w0.heap.size w0 w) (hn : l.length ≤ 1000000000) (hi : -9223372036854775808 ≤ n ∧ n ≤ 9223372036854775807) :
    Calls Try.prog 15 #[ptr b, .int .i64 n] w fun e w' => (∃ v, e = .returned v) ∧ PenIn lo b (l ++ numN (zigN n).toNat) w' ∧ Below lo w w' ∧ Fresh w0.heap.size w w' := by
  obtain ⟨r, h1, h2⟩ := h.open hB
  exact (signed_any n b r l w h1 hn hi).mono fun e w' q => h2 e w' _ q
theorem text_fr (x : Value) (m : List UInt8) (lo b : Nat) (l : List UInt8) (w0 w : World) (h : PenIn lo b l w0) (hB : Below w0.heap.size w0 w) (hx : BytesAt w x m) (hxb : 0 < m.length → ∀ k, x.ownBlock = some k → k < lo) (hn : l.length + m.length ≤ 100000000) :
    Calls Try.prog 13 #[ptr b, x] w fun e w' => (∃ v, e = .returned v) ∧ PenIn lo b (l ++ (numN m.length ++ m)) w' ∧ Below lo w w' ∧ Fresh w0.heap.size w w' := by
  obtain ⟨r0, g1, g2, g3, g4⟩ := id h
  obtain ⟨r, h1, h2⟩ := h.open hB
  have hr : r = r0 := by
    obtain ⟨v, e1, e2, _⟩ := h1
    obtain ⟨v', e1', e2', _⟩ := g1.below hB
    rw [e1] at e1'
    simp at e1'
    rw [← e2, ← e2', e1']
  subst hr
  exact (text_any x m b r l w h1 hx (fun h0 k hk => ⟨fun e => by have := hxb h0 k hk; omega, fun e => by have := hxb h0 k hk; have := g3 k e.symm; omega⟩) hn).mono fun e w' q => h2 e w' _ q
theorem fixed_fr (x : Value) (m : List UInt8) (lo b : Nat) (l : List UInt8) (w0 w : World) (h : PenIn lo b l w0) (hB : Below w0.heap.size w0 w) (hx : BytesAt w x m) (hn : l.length + m.length ≤ 1000000000) :
    Calls Try.prog 14 #[ptr b, x] w fun e w' => (∃ v, e = .returned v) ∧ PenIn lo b (l ++ m) w' ∧ Below lo w w' ∧ Fresh w0.heap.size w w' := by
  obtain ⟨r, h1, h2⟩ := h.open hB
  exact (fixed_any x m b r l w h1 hx hn).mono fun e w' q => h2 e w' _ q

set_option maxRecDepth 100000 in
set_option maxHeartbeats 4000000 in
theorem written_any (v : Value) (os : List OutOp) (w : World) (hr : OutsAt w v os) (hs : totO os ≤ 4000) :
    Calls Try.prog 10 #[v] w fun e w' => ∃ b, e = .returned (.tuple #[ptr b, str (encs os)]) ∧ PenIn w.heap.size b (encs os) w' ∧ Below w.heap.size w w' := by
  obtain ⟨p, cap, rfl, hf⟩ := hr
  have HF := Lib.hid hf
  clear hf
  have hol : os.length ≤ 4000 := by
    have : os.length ≤ totO os := by
      unfold totO
      clear HF hs
      induction os with
      | nil => simp
      | cons q os ih => simp only [List.length_cons, List.map_cons, List.sum_cons]; omega
    omega
  go_enter Try.func10, Try.ntmps10
  go_wp2_with fail
  have hp0 := Lib.hid (pen_new w)
  have hB0 : Below w.heap.size w (w.alloc (.cells #[.slice none 0 0] 41)) := (Below.refl _ _).alloc (Nat.le_refl _) _
  generalize w.alloc (.cells #[.slice none 0 0] 41) = w0 at *
  go_loopw [5, 12] (fun s c wr => ∃ (i : Nat) (l : List UInt8), i ≤ os.length ∧ c = .int .i64 i ∧ s = str l ∧ l.length ≤ 4000 ∧ Hid (encs (os.take i) = l) ∧ Hid (PenIn w.heap.size w.heap.size l wr) ∧ Below w.heap.size w wr) (fun _ c _ => os.length - (intOf c).toNat)
  case atStart => exact ⟨0, [], by omega, rfl, rfl, by simp, Lib.hid rfl, hp0, hB0⟩
  case round =>
    obtain ⟨i, l, hi, rfl, rfl, hll, HL, HP, hB⟩ := hrel
    by_cases hil : i < os.length
    · obtain ⟨g, o, x, q, rfl, hg, hq, h0, h1, h2, h3, hx, hqk, hqn⟩ := HF.out i hil
      have e1 : decide (i < os.length) = true := decide_eq_true hil
      have hqm := List.mem_of_getElem? hq
      have hqt := mem_tot os q hqm
      have k0 := (hB.cell (p := ⟨g, o + i * 4, none⟩) hg).trans h0
      have k1 := (hB.cell (p := ⟨g, o + i * 4 + 1, none⟩) hg).trans h1
      have k2 := (hB.cell (p := ⟨g, o + i * 4 + 2, none⟩) hg).trans h2
      have k3 := (hB.cell (p := ⟨g, o + i * 4 + 3, none⟩) hg).trans h3
      obtain ⟨px, cx, rfl, _⟩ := id hx
      have HEN := Lib.hid (show encs (os.take (i + 1)) = l ++ q.enc by rw [encs_take os i q hq, HL.out])
      have hln : (l ++ q.enc).length ≤ 4000 := by
        rw [← HEN.out]
        have h1 := encs_len (os.take (i + 1)) (fun q hq => by have := mem_tot os q (List.mem_of_mem_take hq); omega)
        have := totO_le os (i + 1)
        omega
      obtain ⟨d, hd⟩ : ∃ d : Nat, (IntKind.u64.wrap q.kind).tmod 4 = d := ⟨((IntKind.u64.wrap q.kind).tmod 4).toNat, (Int.toNat_of_nonneg (Int.tmod_nonneg _ (by rw [wrap_u64]; omega))).symm⟩
      have hd4 : d < 4 := by have := Int.tmod_lt_of_pos (IntKind.u64.wrap q.kind) (show (0 : Int) < 4 by omega); omega
      have hqd : q.d = d := by unfold OutOp.d; rw [hd]; rfl
      have HX := Lib.hid hx
      have HXB := Lib.hid (show 0 < q.b.length → ∀ k, (Value.slice px q.b.length cx).ownBlock = some k → k < w.heap.size from fun h0 k hk => by
        obtain ⟨k', e, hk'⟩ := hx.block h0
        rw [hk] at e; cases e; exact hk')
      have HQD := Lib.hid hqd
      clear h0 h1 h2 h3 hx hqd HL
      generalize hw4 : wr.alloc (.cells #[.int .i64 q.kind, .int .i64 q.n, .int .u64 (U q.u), .slice px q.b.length cx] 67) = w4
      have hA4 : Below wr.heap.size wr w4 := by rw [← hw4]; exact (Below.refl _ _).alloc (Nat.le_refl _) _
      have hop : w4.heap[wr.heap.size]? = some (.cells #[.int .i64 q.kind, .int .i64 q.n, .int .u64 (U q.u), .slice px q.b.length cx] 67 (0, 0)) := by rw [← hw4]; exact World.alloc_heap_new _ _
      have HOP := Lib.hid hop
      have HW4 := Lib.hid hw4
      have hB4 := hB.trans (hA4.mono hB.size)
      have hx4 := Lib.hid (HX.out.below hB4)
      have HXL := Lib.hid (show ∀ W, Below w.heap.size w W → BytesAt W (.slice px q.b.length cx) q.b from fun W h => HX.out.below h)
      clear hw4 hop HX
      obtain rfl | rfl | rfl | rfl : d = 0 ∨ d = 1 ∨ d = 2 ∨ d = 3 := by omega
      · have henc : q.enc = numN q.u.toNat := by unfold OutOp.enc; simp [HQD.out]
        rw [henc] at HEN hln
        go_wp2_with fail
        rw [HW4.out]
        refine (number_fr q.u _ _ l wr w4 HP.out hA4 (by omega)).mono ?_
        rintro e w5 ⟨⟨v5, rfl⟩, p5, b5, f5⟩
        have hop5 := f5 _ _ (Nat.le_refl _) HOP.out
        have HP5 := Lib.hid p5
        have hB5 := hB4.trans b5
        have m0 : w5.cell? ⟨wr.heap.size, 2, none⟩ = some (.int .u64 (U q.u)) := by simp [World.cell?, hop5]
        clear p5 b5 f5
        go_wp2_with fail
        refine (ref_number q.u w5).mono ?_
        rintro e w6 ⟨rfl, b6⟩
        have HP5' := Lib.hid (HP5.out.below b6)
        have hB6 := hB5.trans (b6.mono hB5.size)
        have hle := len_ok l (numN q.u.toNat) (by rw [List.length_append] at hln; omega)
        clear HP5 b6 m0 hop5
        go_wp2_with fail
        refine ⟨⟨i + 1, _, by omega, by go_num, rfl, hln, HEN, HP5', hB6⟩, by simp [intOf]; omega⟩
      · have henc : q.enc = numN (zigN q.n).toNat := by unfold OutOp.enc; simp [HQD.out]
        rw [henc] at HEN hln
        go_wp2_with fail
        rw [HW4.out]
        refine (signed_fr q.n _ _ l wr w4 HP.out hA4 (by omega) hqn).mono ?_
        rintro e w5 ⟨⟨v5, rfl⟩, p5, b5, f5⟩
        have hop5 := f5 _ _ (Nat.le_refl _) HOP.out
        have HP5 := Lib.hid p5
        have hB5 := hB4.trans b5
        have m0 : w5.cell? ⟨wr.heap.size, 1, none⟩ = some (.int .i64 q.n) := by simp [World.cell?, hop5]
        clear p5 b5 f5
        go_wp2_with fail
        refine (ref_zig q.n w5 hqn).mono ?_
        rintro e w6 ⟨rfl, rfl⟩
        go_wp2_with fail
        refine (ref_number (zigN q.n) w5).mono ?_
        rintro e w6 ⟨rfl, b6⟩
        have HP5' := Lib.hid (HP5.out.below b6)
        have hB6 := hB5.trans (b6.mono hB5.size)
        have hle := len_ok l (numN (zigN q.n).toNat) (by rw [List.length_append] at hln; omega)
        clear HP5 b6 m0 hop5
        go_wp2_with fail
        refine ⟨⟨i + 1, _, by omega, by go_num, rfl, hln, HEN, HP5', hB6⟩, by simp [intOf]; omega⟩
      · have henc : q.enc = numN q.b.length ++ q.b := by unfold OutOp.enc; simp [HQD.out]
        rw [henc] at HEN hln
        go_wp2_with fail
        rw [HW4.out]
        refine (text_fr _ q.b _ _ l wr w4 HP.out hA4 hx4.out HXB.out (by omega)).mono ?_
        rintro e w5 ⟨⟨v5, rfl⟩, p5, b5, f5⟩
        have hop5 := f5 _ _ (Nat.le_refl _) HOP.out
        have HP5 := Lib.hid p5
        have hB5 := hB4.trans b5
        have m0 : w5.cell? ⟨wr.heap.size, 3, none⟩ = some (.slice px q.b.length cx) := by simp [World.cell?, hop5]
        clear p5 b5 f5
        have hcv := conv_bytes (HXL.out w5 hB5)
        go_wp2_with fail
        refine (ref_text q.b w5 (by omega)).mono ?_
        rintro e w6 ⟨rfl, b6⟩
        have HP5' := Lib.hid (HP5.out.below b6)
        have hB6 := hB5.trans (b6.mono hB5.size)
        have hle := len_ok l (numN q.b.length ++ q.b) (by rw [List.length_append] at hln; omega)
        rw [List.length_append] at hle
        clear HP5 b6 m0 hop5
        go_wp2_with fail
        refine ⟨⟨i + 1, _, by omega, by go_num, rfl, hln, HEN, HP5', hB6⟩, by simp [intOf]; omega⟩
      · have henc : q.enc = q.b := by unfold OutOp.enc; simp [HQD.out]
        rw [henc] at HEN hln
        go_wp2_with fail
        rw [HW4.out]
        refine (fixed_fr _ q.b _ _ l wr w4 HP.out hA4 hx4.out (by omega)).mono ?_
        rintro e w5 ⟨⟨v5, rfl⟩, p5, b5, f5⟩
        have hop5 := f5 _ _ (Nat.le_refl _) HOP.out
        have HP5 := Lib.hid p5
        have hB5 := hB4.trans b5
        have m0 : w5.cell? ⟨wr.heap.size, 3, none⟩ = some (.slice px q.b.length cx) := by simp [World.cell?, hop5]
        clear p5 b5 f5
        have hcv := conv_bytes (HXL.out w5 hB5)
        have hle := len_ok l q.b (by rw [List.length_append] at hln; omega)
        go_wp2_with fail
        have HP5' := HP5
        refine ⟨⟨i + 1, _, by omega, by go_num, rfl, hln, HEN, HP5', hB5⟩, by simp [intOf]; omega⟩
    · have e1 : decide (i < os.length) = false := decide_eq_false hil
      have HL2 := Lib.hid (show encs os = l by have := HL.out; rwa [List.take_of_length_le (by omega)] at this)
      go_wp2_with fail
      go_ret2
      rw [HL2.out]
      exact ⟨_, rfl, HP.out, hB⟩
end Go.Proofs.Ytfmgkllnncibaaa
