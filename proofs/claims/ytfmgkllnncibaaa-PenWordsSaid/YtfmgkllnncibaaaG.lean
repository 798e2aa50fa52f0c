/- Contracts of package pen: the published vector.
   Conditions: those that each theorem names. -/
import Derived.Test.YtfmgkllnncibaaaF
import Derived.Test.YtfmgkllnncibaaaChain
import Derived.Lib.SmallJoins
namespace Go.Proofs.Ytfmgkllnncibaaa
set_option linter.unusedVariables false
set_option linter.unusedSimpArgs false
open Go.RowKit Go.Rg
attribute [local go_sem] Rg.q_add Rg.q_add' Rg.q_xor Rg.q_or Rg.q_and ba_app
/-! ### An eye's states, one behind the other -/
theorem EyeAt.len {b : Nat} {x y : Ey} {X : World} (h : EyeAt b x X) (k : EyeAt b y X) : x.s.length = y.s.length := by
  obtain ⟨p, c, _, h1, _⟩ := h
  obtain ⟨q, d, _, k1, _⟩ := k
  rw [h1] at k1
  simp at k1
  exact k1.1.2.1
theorem EyeAt.touch {b : Nat} {x : Ey} {X Y : World} {M : Nat → Prop} (h : EyeAt b x X) (hT : Below X.heap.size X Y) : EyeAt b x Y := h.below hT
structure Chain (b m : Nat) (x : Nat → Ey) : Prop where
  fall : ∀ i j, i < j → j ≤ m → (x j).s.length < (x i).s.length
theorem Chain.eq {b m : Nat} {x : Nat → Ey} (h : Chain b m x) {i j : Nat} {X : World} (hi : i ≤ m) (hj : j ≤ m) (h1 : EyeAt b (x i) X) (h2 : EyeAt b (x j) X) : i = j := by
  have e := h1.len h2
  rcases Nat.lt_trichotomy i j with c | c | c
  · have := h.fall i j c hj; omega
  · exact c
  · have := h.fall j i c hi; omega
def vec : List UInt8 := [250, 1, 0, 0, 5, 2, 97, 98]
theorem num_65536 : numN 65536 = [250, 1, 0, 0] := by simp [numN, digits, beB_pos, beB_zero]
theorem size_65536 : sizeN 65536 = 4 := by simp [sizeN, digits, beB_pos, beB_zero]
theorem size_248 : sizeN 248 = 2 := by simp [sizeN, digits, beB_pos, beB_zero]
theorem num_5 : numN (zigN (-3)).toNat = [5] := by
  have : (zigN (-3)).toNat = 5 := by decide
  rw [this]; simp [numN]
theorem num_2 : numN 2 = [2] := by simp [numN]
def x0 : Ey := ⟨vec, 0⟩
def x1 : Ey := ⟨[5, 2, 97, 98], 0⟩
def x2 : Ey := ⟨[2, 97, 98], 0⟩
def x3 : Ey := ⟨[], 0⟩
theorem step1 : x0.number 99999 = (65536, x1) := by
  simp [Ey.number, x0, x1, vec, parse, valB, size_65536]
theorem step2 : x1.number 18446744073709551615 = (5, x2) := by
  simp [Ey.number, x1, x2, parse]
theorem step3 : x2.text 2 = ([97, 98], x3) := by
  simp [Ey.text, Ey.number, Ey.fixed, x2, x3, parse]
theorem step4 : x3.fin = x3 := rfl
/-- A pen of the call's own. -/
def PenIn (lo b : Nat) (l : List UInt8) (W : World) : Prop := ∃ r, PenAt b r l W ∧ lo ≤ b ∧ (∀ k, r = some k → lo ≤ k) ∧ lo ≤ W.heap.size
theorem PenIn.next {lo b : Nat} {l l' : List UInt8} {r r' : Option Nat} {w w' : World} (hb : lo ≤ b) (hr : ∀ k, r = some k → lo ≤ k) (hw : lo ≤ w.heap.size) (h : NewB w.heap.size r r' ∧ PenAt b r' l' w' ∧ Touch (PenM b r) w w') : PenIn lo b l' w' ∧ Below lo w w' := by
  obtain ⟨h1, h2, h3⟩ := h
  have hB : Below lo w w' := h3.below (by rintro j (rfl | h); exact hb; exact hr j h.symm) hw
  refine ⟨⟨r', h2, hb, ?_, Nat.le_trans hw hB.size⟩, hB⟩
  rintro k rfl
  rcases h1 with h | ⟨j, h, hj⟩
  · exact hr k h.symm
  · cases h; omega
theorem PenIn.below {lo b : Nat} {l : List UInt8} {w w' : World} (h : PenIn lo b l w) (hB : Below w.heap.size w w') : PenIn lo b l w' := by
  obtain ⟨r, h1, h2, h3, h4⟩ := h
  exact ⟨r, h1.below hB, h2, h3, Nat.le_trans h4 hB.size⟩
theorem number_in (u : UInt64) (lo b : Nat) (l : List UInt8) (w : World) (h : PenIn lo b l w) (hn : l.length ≤ 1000000000) :
    Calls Try.prog 12 #[ptr b, .int .u64 (U u)] w fun e w' => (∃ v, e = .returned v) ∧ PenIn lo b (l ++ numN u.toNat) w' ∧ Below lo w w' := by
  obtain ⟨r, h1, h2, h3, h4⟩ := h
  exact (number_any u b r l w h1 hn).mono fun e w' ⟨hv, r', q⟩ => ⟨hv, PenIn.next (l := l) h2 h3 h4 q⟩
theorem signed_in (n : Int) (lo b : Nat) (l : List UInt8) (w : World) (h : PenIn lo b l w) (hn : l.length ≤ 1000000000) (hi : -9223372036854775808 ≤ n ∧ n ≤ 9223372036854775807) :
    Calls Try.prog 15 #[ptr b, .int .i64 n] w fun e w' => (∃ v, e = .returned v) ∧ PenIn lo b (l ++ numN (zigN n).toNat) w' ∧ Below lo w w' := by
  obtain ⟨r, h1, h2, h3, h4⟩ := h
  exact (signed_any n b r l w h1 hn hi).mono fun e w' ⟨hv, r', q⟩ => ⟨hv, PenIn.next (l := l) h2 h3 h4 q⟩
/-- .. of bytes that lie below, or in a block of their own. -/
theorem text_in (x : Value) (m : List UInt8) (lo b : Nat) (l : List UInt8) (w : World) (h : PenIn lo b l w) (hx : BytesAt w x m) (hxb : 0 < m.length → ∀ k, x.ownBlock = some k → k < lo) (hn : l.length + m.length ≤ 100000000) :
    Calls Try.prog 13 #[ptr b, x] w fun e w' => (∃ v, e = .returned v) ∧ PenIn lo b (l ++ (numN m.length ++ m)) w' ∧ Below lo w w' := by
  obtain ⟨r, h1, h2, h3, h4⟩ := h
  exact (text_any x m b r l w h1 hx (fun h0 k hk => ⟨fun e => by have := hxb h0 k hk; omega, fun e => by have := hxb h0 k hk; have := h3 k e.symm; omega⟩) hn).mono fun e w' ⟨hv, r', q⟩ => ⟨hv, PenIn.next (l := l) h2 h3 h4 q⟩
theorem text_lit (x : Value) (m : List UInt8) (lo b : Nat) (l : List UInt8) (w0 w : World) (h : PenIn lo b l w0) (hB : Below w0.heap.size w0 w) (hx : BytesAt w x m) (hxb : 0 < m.length → ∀ k, x.ownBlock = some k → w0.heap.size ≤ k) (hn : l.length + m.length ≤ 100000000) :
    Calls Try.prog 13 #[ptr b, x] w fun e w' => (∃ v, e = .returned v) ∧ PenIn lo b (l ++ (numN m.length ++ m)) w' ∧ Below lo w w' := by
  obtain ⟨r, h1, h2, h3, h4⟩ := h
  have hl := h1.lt
  exact (text_any x m b r l w (h1.below hB) hx (fun h0 k hk => ⟨fun e => by have := hxb h0 k hk; omega, fun e => by have := hxb h0 k hk; have := (hl.2 k e.symm).1; omega⟩) hn).mono fun e w' ⟨hv, r', q⟩ => ⟨hv, PenIn.next (l := l) h2 h3 (Nat.le_trans h4 hB.size) q⟩
theorem fixed_in (x : Value) (m : List UInt8) (lo b : Nat) (l : List UInt8) (w : World) (h : PenIn lo b l w) (hx : BytesAt w x m) (hn : l.length + m.length ≤ 1000000000) :
    Calls Try.prog 14 #[ptr b, x] w fun e w' => (∃ v, e = .returned v) ∧ PenIn lo b (l ++ m) w' ∧ Below lo w w' := by
  obtain ⟨r, h1, h2, h3, h4⟩ := h
  exact (fixed_any x m b r l w h1 hx hn).mono fun e w' ⟨hv, r', q⟩ => ⟨hv, PenIn.next (l := l) h2 h3 h4 q⟩
theorem bytes_in (lo b : Nat) (l : List UInt8) (w : World) (h : PenIn lo b l w) (hn : l.length ≤ 1000000000) :
    Calls Try.prog 11 #[ptr b] w fun e w' => ∃ v', e = .returned v' ∧ OwnB w' v' l ∧ (∀ k, v'.ownBlock = some k → w.heap.size ≤ k) ∧ Below w.heap.size w w' := by
  obtain ⟨r, h1, h2, h3, h4⟩ := h
  exact bytes_any b r l w h1 hn
theorem pen_new (w : World) : PenIn w.heap.size w.heap.size [] (w.alloc (.cells #[.slice none 0 0] 41)) := by
  refine ⟨none, ⟨.slice none 0 0, World.alloc_heap_new _ _, rfl, OwnB.nil _⟩, Nat.le_refl _, ?_, by simp⟩
  intro k h
  cases h
set_option maxRecDepth 100000 in
set_option maxHeartbeats 4000000 in
theorem first_any (w : World) : Calls Try.prog 8 #[] w fun e w' => e = .returned (.bool true) ∧ Below w.heap.size w w' := by
  go_enter Try.func8, Try.ntmps8
  go_wp2_with fail
  have hp0 := Lib.hid (pen_new w)
  have hB0 : Below w.heap.size w (w.alloc (.cells #[.slice none 0 0] 41)) := (Below.refl _ _).alloc (Nat.le_refl _) _
  generalize w.alloc (.cells #[.slice none 0 0] 41) = w0 at *
  refine (show Calls Try.prog 12 #[ptr w.heap.size, .int .u64 65536] w0 _ from number_in 65536 _ _ [] w0 hp0.out (by simp)).mono ?_
  rintro e w1 ⟨⟨v1, rfl⟩, p1, t1⟩
  rw [show (65536 : UInt64).toNat = 65536 from rfl, num_65536, List.nil_append] at p1
  have hB1 := hB0.trans t1
  have P1 := Lib.hid p1
  clear p1 t1 hp0 hB0
  go_wp2_with fail
  refine (signed_in (-3) _ _ _ w1 P1.out (by simp) (by omega)).mono ?_
  rintro e w2 ⟨⟨v2, rfl⟩, p2, t2⟩
  rw [num_5] at p2
  have hB2 := hB1.trans t2
  have P2 := Lib.hid p2
  clear p2 t2 P1 hB1
  have hcs := fun (w : World) => Lib.run_convert_bytes_const (P := Try.prog) w 29 5 #[.int .u8 97, .int .u8 98] 2 2 rfl rfl
  go_wp2_with fail
  have hA2 : Below w2.heap.size w2 (w2.alloc (.cells #[.int .u8 97, .int .u8 98] 5 (2, 3))) := (Below.refl _ _).alloc (Nat.le_refl _) _
  have hb2 : BytesAt (w2.alloc (.cells #[.int .u8 97, .int .u8 98] 5 (2, 3))) (.slice (some ⟨w2.heap.size, 0, none⟩) 2 2) [97, 98] := bytes_lit w2 [97, 98] (2, 3)
  refine (text_lit _ [97, 98] _ _ _ w2 _ P2.out hA2 hb2 (fun _ k hk => by cases hk; exact Nat.le_refl _) (by simp)).mono ?_
  rintro e w3 ⟨⟨v3, rfl⟩, p3, t3⟩
  rw [show ([97, 98] : List UInt8).length = 2 from rfl, num_2] at p3
  have hB3 := (hB2.trans (hA2.mono hB2.size)).trans t3
  have P3 := Lib.hid (show PenIn w.heap.size w.heap.size vec w3 from p3)
  clear p3 t3 P2 hB2 hA2 hb2 hcs
  go_wp2_with fail
  refine (bytes_in _ _ _ w3 P3.out (by simp [vec])).mono ?_
  rintro e w4 ⟨v4, rfl, o4, n4, b4⟩
  have P4 := Lib.hid (P3.out.below b4)
  have hB4 := hB3.trans (b4.mono hB3.size)
  have O4 := Lib.hid o4
  clear o4 P3 hB3 b4 n4
  go_wp2_with fail
  refine (read_any v4 vec w4 O4.out.at (by simp [vec])).mono ?_
  rintro e w5 ⟨eb, rfl, le5, ey5, b5⟩
  have hB5 := hB4.trans (b5.mono hB4.size)
  have E5 := Lib.hid ey5
  have hebl := ey5.lt
  have hwe : w.heap.size ≤ eb := Nat.le_trans hB4.size le5
  have hpe : w.heap.size < w4.heap.size := by obtain ⟨r, h1, _⟩ := P4.out; exact h1.lt.1
  have B5 := Lib.hid b5
  clear ey5 b5 O4
  have hch : Chain eb 3 (fun i => if i = 0 then x0 else if i = 1 then x1 else if i = 2 then x2 else x3) := ⟨fun i j hij hj => by
    obtain ⟨rfl, rfl⟩ | ⟨rfl, rfl⟩ | ⟨rfl, rfl⟩ | ⟨rfl, rfl⟩ | ⟨rfl, rfl⟩ | ⟨rfl, rfl⟩ : i = 0 ∧ j = 1 ∨ i = 0 ∧ j = 2 ∨ i = 0 ∧ j = 3 ∨ i = 1 ∧ j = 2 ∨ i = 1 ∧ j = 3 ∨ i = 2 ∧ j = 3 := by omega
    all_goals decide⟩
  obtain ⟨xs, hxs⟩ : ∃ xs : Nat → Ey, xs = fun i => if i = 0 then x0 else if i = 1 then x1 else if i = 2 then x2 else x3 := ⟨_, rfl⟩
  rw [← hxs] at hch
  have s0 : xs 0 = x0 := by rw [hxs]; rfl
  have s1 : xs 1 = x1 := by rw [hxs]; rfl
  have s2 : xs 2 = x2 := by rw [hxs]; rfl
  have s3 : xs 3 = x3 := by rw [hxs]; rfl
  have HCH := Lib.hid hch
  have S := Lib.hid (And.intro s0 (And.intro s1 (And.intro s2 s3)))
  clear hch hxs s0 s1 s2 s3
  go_wp2_with fail
  refine wp_region_chain [[], [0], [], [2, 1], [], [4, 3, 1], [5], [1], [3], [6]] (fun j => if j = 1 then some 0 else if j = 3 then some 1 else if j = 5 then some 2 else none) 3 (fun i X => EyeAt eb (xs i) X) (fun X => Touch (fun k => k = eb) w5 X) (fun k => k = eb)
    (by kernel_rfl) (by kernel_rfl) (by kernel_rfl) (by kernel_rfl) (by decide) (fun i j X hi hj h1 h2 => HCH.out.eq hi hj h1 h2) (fun i X Y h hB => h.below hB) (Touch.drew _ _) (fun X Y h hT => h.trans hT (fun _ _ h => h)) (by rw [S.out.1]; exact E5.out) ?_
  repeat
    (apply ch_fx (by rfl)
     · intro vs X hD hA
       try simp only [List.getD_cons_zero, List.getD_cons_succ, List.forall_mem_cons, List.not_mem_nil, false_implies, implies_true, and_true] at hA
       simp only [List.getD_cons_zero, List.getD_cons_succ, putL, dstOf, List.foldl_nil, List.foldl_cons, List.getElem?_toArray, List.getElem?_cons_zero, List.getElem?_cons_succ, Option.bind_some, Act.put, List.setIfInBounds_toArray, List.set_cons_zero, List.set_cons_succ]
       try simp only [hA]
       go_wp2_with fail
       exact ⟨_, rfl, Below.refl _ _, rfl⟩
     simp only [List.cons_append, List.nil_append])
  refine ch_call (c := 0) rfl (fun v _ => v = .int .u64 65536) (fun _ _ _ _ _ h => h) ?_ ?_
  · intro vs X hD hS hA
    try simp only [List.getD_cons_zero, List.getD_cons_succ, List.forall_mem_cons, List.not_mem_nil, false_implies, implies_true, and_true] at hA
    simp only [List.getD_cons_zero, List.getD_cons_succ, putL, dstOf, List.foldl_nil, List.foldl_cons, List.getElem?_toArray, List.getElem?_cons_zero, List.getElem?_cons_succ, Option.bind_some, Act.put, List.setIfInBounds_toArray, List.set_cons_zero, List.set_cons_succ]
    try simp only [hA]
    rw [S.out.1] at hS
    go_wp2_with fail
    refine (show Calls Try.prog 23 #[ptr eb, .int .u64 99999] X _ from eye_number eb x0 99999 X hS (by simp [x0, vec])).mono ?_
    rintro e w' ⟨rfl, q1, q2⟩
    rw [step1] at q1 ⊢
    go_wp2_with fail
    exact ⟨_, rfl, ⟨q2, by rw [S.out.2.1]; exact q1⟩, rfl⟩
  simp only [List.cons_append, List.nil_append]
  repeat
    (apply ch_fx (by rfl)
     · intro vs X hD hA
       try simp only [List.getD_cons_zero, List.getD_cons_succ, List.forall_mem_cons, List.not_mem_nil, false_implies, implies_true, and_true] at hA
       simp only [List.getD_cons_zero, List.getD_cons_succ, putL, dstOf, List.foldl_nil, List.foldl_cons, List.getElem?_toArray, List.getElem?_cons_zero, List.getElem?_cons_succ, Option.bind_some, Act.put, List.setIfInBounds_toArray, List.set_cons_zero, List.set_cons_succ]
       try simp only [hA]
       go_wp2_with fail
       exact ⟨_, rfl, Below.refl _ _, rfl⟩
     simp only [List.cons_append, List.nil_append])
  refine ch_call (c := 1) rfl (fun v _ => v = .int .i64 (-3)) (fun _ _ _ _ _ h => h) ?_ ?_
  · intro vs X hD hS hA
    try simp only [List.getD_cons_zero, List.getD_cons_succ, List.forall_mem_cons, List.not_mem_nil, false_implies, implies_true, and_true] at hA
    simp only [List.getD_cons_zero, List.getD_cons_succ, putL, dstOf, List.foldl_nil, List.foldl_cons, List.getElem?_toArray, List.getElem?_cons_zero, List.getElem?_cons_succ, Option.bind_some, Act.put, List.setIfInBounds_toArray, List.set_cons_zero, List.set_cons_succ]
    try simp only [hA]
    rw [S.out.2.1] at hS
    go_wp2_with fail
    refine (eye_signed eb x1 X hS (by simp [x1])).mono ?_
    rintro e w' ⟨rfl, q1, q2⟩
    rw [step2] at q1 ⊢
    go_wp2_with fail
    exact ⟨_, rfl, ⟨q2, by rw [S.out.2.2.1]; exact q1⟩, rfl⟩
  simp only [List.cons_append, List.nil_append]
  repeat
    (apply ch_fx (by rfl)
     · intro vs X hD hA
       try simp only [List.getD_cons_zero, List.getD_cons_succ, List.forall_mem_cons, List.not_mem_nil, false_implies, implies_true, and_true] at hA
       simp only [List.getD_cons_zero, List.getD_cons_succ, putL, dstOf, List.foldl_nil, List.foldl_cons, List.getElem?_toArray, List.getElem?_cons_zero, List.getElem?_cons_succ, Option.bind_some, Act.put, List.setIfInBounds_toArray, List.set_cons_zero, List.set_cons_succ]
       try simp only [hA]
       go_wp2_with fail
       exact ⟨_, rfl, Below.refl _ _, rfl⟩
     simp only [List.cons_append, List.nil_append])
  refine ch_call (c := 2) rfl (fun v X => OwnB X v [97, 98] ∧ v.ownBlock ≠ some eb) ?_ ?_ ?_
  · rintro v X Y hD hT ⟨h1, h2⟩
    exact ⟨h1.kept (fun g hg => hT.block g (h1.lt hg) (fun e => h2 (by rw [hg, e]))), h2⟩
  · intro vs X hD hS hA
    try simp only [List.getD_cons_zero, List.getD_cons_succ, List.forall_mem_cons, List.not_mem_nil, false_implies, implies_true, and_true] at hA
    simp only [List.getD_cons_zero, List.getD_cons_succ, putL, dstOf, List.foldl_nil, List.foldl_cons, List.getElem?_toArray, List.getElem?_cons_zero, List.getElem?_cons_succ, Option.bind_some, Act.put, List.setIfInBounds_toArray, List.set_cons_zero, List.set_cons_succ]
    try simp only [hA]
    rw [S.out.2.2.1] at hS
    go_wp2_with fail
    refine (eye_text eb x2 2 X hS (by simp [x2]) (by omega)).mono ?_
    rintro e w' ⟨v', rfl, q1, q2, q3, q4⟩
    rw [step3] at q1 q3
    have hl := hS.lt
    go_wp2_with fail
    exact ⟨_, rfl, ⟨q4, by rw [S.out.2.2.2]; exact q3⟩, q1, fun e => by have := q2 eb e; omega⟩
  simp only [List.cons_append, List.nil_append]
  apply ch_fx (by rfl)
  · intro vs X hD hA
    try simp only [List.getD_cons_zero, List.getD_cons_succ, List.forall_mem_cons, List.not_mem_nil, false_implies, implies_true, and_true] at hA
    simp only [List.getD_cons_zero, List.getD_cons_succ, putL, dstOf, List.foldl_nil, List.foldl_cons, List.getElem?_toArray, List.getElem?_cons_zero, List.getElem?_cons_succ, Option.bind_some, Act.put, List.setIfInBounds_toArray, List.set_cons_zero, List.set_cons_succ]
    try simp only [hA]
    have hcv := conv_bytes hA.1.at
    go_wp2_with fail
    exact ⟨_, rfl, Below.refl _ _, rfl⟩
  simp only [List.cons_append, List.nil_append]
  repeat
    (apply ch_fx (by rfl)
     · intro vs X hD hA
       try simp only [List.getD_cons_zero, List.getD_cons_succ, List.forall_mem_cons, List.not_mem_nil, false_implies, implies_true, and_true] at hA
       simp only [List.getD_cons_zero, List.getD_cons_succ, putL, dstOf, List.foldl_nil, List.foldl_cons, List.getElem?_toArray, List.getElem?_cons_zero, List.getElem?_cons_succ, Option.bind_some, Act.put, List.setIfInBounds_toArray, List.set_cons_zero, List.set_cons_succ]
       try simp only [hA]
       go_wp2_with fail
       exact ⟨_, rfl, Below.refl _ _, rfl⟩
     simp only [List.cons_append, List.nil_append])
  refine ch_nil ?_
  intro vs X hD hA hF
  rw [(fun (l : List Oper) (h : l.length = 10) => (by rw [h]; rfl : List.range l.length = [0, 1, 2, 3, 4, 5, 6, 7, 8, 9])) _ rfl]
  simp only [List.getD_cons_zero, List.getD_cons_succ, putL, dstOf, List.foldl_nil, List.foldl_cons, List.getElem?_toArray, List.getElem?_cons_zero, List.getElem?_cons_succ, Option.bind_some, Act.put, List.setIfInBounds_toArray, List.set_cons_zero, List.set_cons_succ]
  have u7 : vs 7 = .int .u64 65536 := hA 7 (by decide)
  have u8 : vs 8 = .int .i64 (-3) := hA 8 (by decide)
  have u9 : vs 9 = str [97, 98] := hA 9 (by decide)
  have hE := Lib.hid (hF 5 (by decide) rfl (by decide))
  rw [u7, u8, u9]
  clear u7 u8 u9 hA hF
  have bX : Below w4.heap.size w4 X := B5.out.trans (hD.below (by rintro j rfl; exact le5) B5.out.size)
  have PX := Lib.hid (P4.out.below bX)
  have hBX := hB4.trans (bX.mono hB4.size)
  clear hD bX
  go_wp2_with fail
  refine (bytes_in _ _ _ X PX.out (by simp [vec])).mono ?_
  rintro e w6 ⟨v6, rfl, o6, n6, b6⟩
  have hE6 := Lib.hid (hE.out.below b6)
  have hB6 := hBX.trans (b6.mono hBX.size)
  have hcv := conv_bytes o6.at
  clear o6 n6 b6 hE PX
  rw [S.out.2.2.2] at hE6
  have hq : vec = [250, 1, 0, 0, 5, 2, 97, 98] := rfl
  go_wp2_with fail
  refine (end_any eb x3 w6 hE6.out).mono ?_
  rintro e w7 ⟨rfl, q1, q2⟩
  rw [step4] at q1 ⊢
  have hB7 := hB6.trans (q2.below (by rintro j rfl; exact hwe) hB6.size)
  clear q1 q2 hcv
  go_wp2_with fail
  refine (zig_any (-1) w7 (by omega)).mono ?_
  rintro e w8 ⟨rfl, rfl⟩
  rw [show U (zigN (-1)) = 1 by decide]
  go_wp2_with fail
  refine (show Calls Try.prog 18 #[.int .u64 1] w7 _ from zag_any 1 w7).mono ?_
  rintro e w8 ⟨rfl, rfl⟩
  rw [show zagN 1 = -1 by decide]
  go_wp2_with fail
  refine (show Calls Try.prog 20 #[.int .u64 248] w7 _ from size_any 248 w7).mono ?_
  rintro e w8 ⟨rfl, rfl⟩
  rw [show (248 : UInt64).toNat = 248 from rfl, size_248]
  go_wp2_with fail
  go_ret
  exact ⟨rfl, hB7⟩
end Go.Proofs.Ytfmgkllnncibaaa
