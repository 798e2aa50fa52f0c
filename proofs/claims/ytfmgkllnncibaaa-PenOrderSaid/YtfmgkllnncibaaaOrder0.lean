/- The walk of the law PenOrder.
   Conditions: those that the theorem names. -/
import Derived.Test.YtfmgkllnncibaaaL
import Derived.Test.YtfmgkllnncibaaaMore
namespace Go.Proofs.Ytfmgkllnncibaaa
set_option linter.unusedVariables false
set_option linter.unusedSimpArgs false
open Go.RowKit Go.Rg
attribute [local go_sem] Rg.q_add Rg.q_add' Rg.q_xor Rg.q_or Rg.q_and ba_app
/-- A third pen beside two others. -/
abbrev M3 (b n : Nat) : Nat → Prop := fun k => k = b ∨ n ≤ k
theorem pen3 {b n : Nat} {r r' : Option Nat} {l' : List UInt8} {w0 w w' : World} (hn : w0.heap.size = n) (hr : NewB n none r) (ht : Touch (M3 b n) w0 w) (h : NewB w.heap.size r r' ∧ PenAt b r' l' w' ∧ Touch (PenM b r) w w') :
    PenAt b r' l' w' ∧ NewB n none r' ∧ Touch (M3 b n) w0 w' := by
  obtain ⟨h1, h2, h3⟩ := h
  have hsz := ht.size
  refine ⟨h2, hr.trans h1 (by omega), ht.trans h3 ?_⟩
  rintro j hj (rfl | e)
  · exact .inl rfl
  · rcases hr with rfl | ⟨k, rfl, hk⟩
    · cases e
    · cases e; exact .inr hk
theorem ba_take (l : List UInt8) (k : Nat) : (⟨l.toArray⟩ : ByteArray).extract 0 k = ⟨(l.take k).toArray⟩ := by
  apply ByteArray.ext
  simp [ByteArray.data_extract]
theorem ba_list (l : List UInt8) : (⟨l.toArray⟩ : ByteArray).toList = l := by
  simp [go_sem]
theorem ba_take_list (l : List UInt8) (k : Nat) : ((⟨l.toArray⟩ : ByteArray).extract 0 k).toList = l.take k := by rw [ba_take, ba_list]
set_option maxRecDepth 100000 in
set_option maxHeartbeats 4000000 in
theorem order_walk (u v : UInt64) (n : Int) (p : Option Addr) (cap : Nat) (b : List UInt8) (w : World) (hb : BytesAt w (.slice p b.length cap) b) (hn : -9223372036854775808 ≤ n ∧ n ≤ 9223372036854775807) :
    Calls Try.prog 4 #[.agg #[.int .u64 (U u), .int .u64 (U v), .int .i64 n, .slice p b.length cap]] w fun e w' => e = .returned (.bool true) ∧ Below w.heap.size w w' := by
  have HB := Lib.hid hb
  clear hb
  go_enter Try.func4, Try.ntmps4
  go_wp2_with fail
  have c0 := World.alloc_heap_new w (.cells #[.int .u64 (U u), .int .u64 (U v), .int .i64 n, .slice p b.length cap] 39)
  have hA0 : Below w.heap.size w (w.alloc (.cells #[.int .u64 (U u), .int .u64 (U v), .int .i64 n, .slice p b.length cap] 39)) := (Below.refl _ _).alloc (Nat.le_refl _) _
  generalize w.alloc (.cells #[.int .u64 (U u), .int .u64 (U v), .int .i64 n, .slice p b.length cap] 39) = w0 at *
  refine (first_any w0).mono ?_
  rintro e w1 ⟨rfl, hB1⟩
  have c1 := (hB1.block _ (blk_lt c0)).trans c0
  have hBw1 := hA0.trans (hB1.mono hA0.size)
  have hcc : ∀ X, Below w1.heap.size w1 X → X.cell? ⟨w.heap.size, 0, none⟩ = some (.int .u64 (U u)) ∧ X.cell? ⟨w.heap.size, 1, none⟩ = some (.int .u64 (U v)) ∧ X.cell? ⟨w.heap.size, 2, none⟩ = some (.int .i64 n) ∧ X.cell? ⟨w.heap.size, 3, none⟩ = some (.slice p b.length cap) := by
    intro X hX
    have := (hX.block _ (blk_lt c1)).trans c1
    exact ⟨by simp [World.cell?, this], by simp [World.cell?, this], by simp [World.cell?, this], by simp [World.cell?, this]⟩
  clear c0 hA0 hB1
  go_wp2_with fail
  refine wp_region_calm_lit (by kernel_rfl) (by kernel_rfl) ?_
  repeat
    first
    | (apply calm_want
       · first | rfl | (go_simp; done)
       · intro X hX
         go_simp
         first
           | done
           | rfl
           | (refine ⟨trivial, ?_⟩; (fail); done)
           | ((fail); done)
       intro K hK
       go_simp
       refine hK _ ?_
       clear hK K)
    | (apply calm_skip
       · first | rfl | (go_simp; done)
       intro K hK
       go_simp
       refine hK _ ?_
       clear hK K)
  refine wpQuiet_nil ?_
  intro X hX
  have hBX := hBw1.trans (hX.mono hBw1.size)
  have HBX := Lib.hid (HB.out.below hBX)
  clear hcc c1 hX hBw1
  by_cases hg : 500 < b.length
  · have e1 : decide ((500 : Int) < (b.length : Int)) = true := decide_eq_true (by omega)
    go_wp2_with fail
    go_ret
    exact ⟨rfl, hBX⟩
  have e1 : decide ((500 : Int) < (b.length : Int)) = false := decide_eq_false (by omega)
  go_wp2_with fail
  have hz0 : (((X.alloc (.cells #[.slice none 0 0] 41)).alloc (.cells #[.slice none 0 0] 41)).alloc (.cells #[.slice none 0 0] 41)).heap.size = X.heap.size + 3 := by simp
  have hA3 : Below X.heap.size X (((X.alloc (.cells #[.slice none 0 0] 41)).alloc (.cells #[.slice none 0 0] 41)).alloc (.cells #[.slice none 0 0] 41)) := (((Below.refl _ X).alloc (Nat.le_refl _) _).alloc (by simp) _).alloc (by simp; omega) _
  have p0 : PenAt X.heap.size none [] (((X.alloc (.cells #[.slice none 0 0] 41)).alloc (.cells #[.slice none 0 0] 41)).alloc (.cells #[.slice none 0 0] 41)) := by
    refine PenAt.below (W := X.alloc (.cells #[.slice none 0 0] 41)) ⟨.slice none 0 0, World.alloc_heap_new _ _, rfl, OwnB.nil _⟩ (((Below.refl _ _).alloc (Nat.le_refl _) _).alloc (by simp) _)
  have q0 : PenAt (X.heap.size + 1) none [] (((X.alloc (.cells #[.slice none 0 0] 41)).alloc (.cells #[.slice none 0 0] 41)).alloc (.cells #[.slice none 0 0] 41)) := by
    refine PenAt.below (W := (X.alloc (.cells #[.slice none 0 0] 41)).alloc (.cells #[.slice none 0 0] 41)) ⟨.slice none 0 0, ?_, rfl, OwnB.nil _⟩ ((Below.refl _ _).alloc (Nat.le_refl _) _)
    rw [show X.heap.size + 1 = (X.alloc (.cells #[.slice none 0 0] 41)).heap.size by simp]
    exact World.alloc_heap_new _ _
  have a0 : PenAt (X.heap.size + 2) none [] (((X.alloc (.cells #[.slice none 0 0] 41)).alloc (.cells #[.slice none 0 0] 41)).alloc (.cells #[.slice none 0 0] 41)) := by
    refine ⟨.slice none 0 0, ?_, rfl, OwnB.nil _⟩
    rw [show X.heap.size + 2 = ((X.alloc (.cells #[.slice none 0 0] 41)).alloc (.cells #[.slice none 0 0] 41)).heap.size by simp]
    exact World.alloc_heap_new _ _
  have hz3 := Nat.le_of_eq hz0.symm
  generalize ((X.alloc (.cells #[.slice none 0 0] 41)).alloc (.cells #[.slice none 0 0] 41)).alloc (.cells #[.slice none 0 0] 41) = w3 at *
  clear hz0
  refine (number_any u _ none [] w3 p0 (by simp)).mono ?_
  rintro e w4 ⟨⟨v4, rfl⟩, r1, n1, p4, t4⟩
  rw [List.nil_append] at p4
  have q4 := q0.keep t4 (by rintro (h | h); omega; cases h) (fun k h => by cases h)
  have a4 := a0.keep t4 (by rintro (h | h); omega; cases h) (fun k h => by cases h)
  have hr1 : ∀ k, r1 = some k → X.heap.size + 3 ≤ k ∧ k < w4.heap.size := by
    rintro k rfl
    rcases n1 with h | ⟨j, h, hj⟩
    · cases h
    · cases h; exact ⟨by omega, (p4.lt.2 k rfl).1⟩
  have B4 := hA3.trans (t4.below (by rintro j (rfl | h); exact Nat.le_refl _; cases h) (by omega))
  have hz4 := t4.size
  have P4 := Lib.hid p4
  have Q4 := Lib.hid q4
  have A4 := Lib.hid a4
  clear p0 q0 a0 n1 p4 q4 a4 t4 hA3
  go_wp2_with fail
  refine (number_any v _ none [] w4 Q4.out (by simp)).mono ?_
  rintro e w5 ⟨⟨v5, rfl⟩, r2, n2, q5, t5⟩
  rw [List.nil_append] at q5
  have p5 := P4.out.keep t5 (by rintro (h | h); omega; cases h) (fun k h => by have := hr1 k h; rintro (e | e); omega; cases e)
  have a5 := A4.out.keep t5 (by rintro (h | h); omega; cases h) (fun k h => by cases h)
  have hr2 : ∀ k, r2 = some k → X.heap.size + 3 ≤ k ∧ k < w5.heap.size := by
    rintro k rfl
    rcases n2 with h | ⟨j, h, hj⟩
    · cases h
    · cases h; exact ⟨by omega, (q5.lt.2 k rfl).1⟩
  have B5 := B4.trans (t5.below (n := X.heap.size) (by rintro j (rfl | h); omega; cases h) (by omega))
  have hz5 := t5.size
  have P5 := Lib.hid p5
  have Q5 := Lib.hid q5
  have A5 := Lib.hid a5
  obtain ⟨N, hN⟩ : ∃ N, w5.heap.size = N := ⟨_, rfl⟩
  have HN := Lib.hid hN
  have hN3 : X.heap.size + 3 ≤ N := by omega
  clear n2 q5 p5 a5 t5 P4 Q4 A4 hN
  go_wp2_with fail
  refine (number_any u (X.heap.size + 2) none [] w5 A5.out (by simp)).mono ?_
  rintro e w6 ⟨⟨v6, rfl⟩, r3, q⟩
  rw [List.nil_append] at q
  obtain ⟨a6, n6, t6⟩ := pen3 (w0 := w5) (l' := numN u.toNat) HN.out (NewB.refl _ _) (Touch.refl _ _) q
  have A6 := Lib.hid a6
  have N6 := Lib.hid n6
  have T6 := Lib.hid t6
  clear a6 n6 t6 q
  have hl1 := numN_le u.toNat (by have := u.toNat_lt; omega)
  go_wp2_with fail
  refine (signed_any n (X.heap.size + 2) r3 _ w6 A6.out (by omega) hn).mono ?_
  rintro e w7 ⟨⟨v7, rfl⟩, r4, q⟩
  obtain ⟨a7, n7, t7⟩ := pen3 (l' := numN u.toNat ++ numN (zigN n).toNat) HN.out N6.out T6.out q
  have A7 := Lib.hid a7
  have N7 := Lib.hid n7
  have T7 := Lib.hid t7
  clear a7 n7 t7 q A6 N6 T6
  have hl2 := numN_le (zigN n).toNat (by have := (zigN n).toNat_lt; omega)
  go_wp2_with fail
  have hb7 : Below X.heap.size X w7 := B5.trans (T7.out.below (by rintro j (rfl | h); omega; omega) (by omega))
  refine (text_any _ b (X.heap.size + 2) r4 _ w7 A7.out (HBX.out.below hb7) (fun h0 k hk => ?_) (by rw [List.length_append]; omega)).mono ?_
  · obtain ⟨k', e, hk'⟩ := HBX.out.block h0
    rw [hk] at e; cases e
    refine ⟨by omega, fun e => ?_⟩
    rcases N7.out with h | ⟨j, h, hj⟩
    · rw [h] at e; cases e
    · rw [h] at e; cases e; omega
  rintro e w8 ⟨⟨v8, rfl⟩, r5, q⟩
  obtain ⟨a8, n8, t8⟩ := pen3 (l' := numN u.toNat ++ numN (zigN n).toNat ++ (numN b.length ++ b)) HN.out N7.out T7.out q
  have A8 := Lib.hid a8
  have N8 := Lib.hid n8
  have T8 := Lib.hid t8
  clear a8 n8 t8 q A7 N7 T7 hb7
  have hl3 := numN_le b.length (by omega)
  go_wp2_with fail
  refine (number_any v (X.heap.size + 2) r5 _ w8 A8.out (by simp only [List.length_append]; omega)).mono ?_
  rintro e w9 ⟨⟨v9, rfl⟩, r6, q⟩
  obtain ⟨a9, n9, t9⟩ := pen3 (l' := numN u.toNat ++ numN (zigN n).toNat ++ (numN b.length ++ b) ++ numN v.toNat) HN.out N8.out T8.out q
  have A9 := Lib.hid a9
  have T9 := Lib.hid t9
  have hl4 := numN_le v.toNat (by have := v.toNat_lt; omega)
  have P9 := Lib.hid (P5.out.keep T9.out (by rintro (h | h); omega; omega) (fun k h => by have := hr1 k h; have := HN.out; rintro (e | e); omega; omega))
  have Q9 := Lib.hid (Q5.out.keep T9.out (by rintro (h | h); omega; omega) (fun k h => by have := hr2 k h; have := HN.out; rintro (e | e); omega; omega))
  have hBw9 := hBX.trans ((B5.trans (T9.out.below (by rintro j (rfl | h); omega; omega) (by omega))).mono hBX.size)
  have HB9 := Lib.hid (HBX.out.below (B5.trans (T9.out.below (by rintro j (rfl | h); omega; omega) (by omega))))
  clear a9 n9 t9 q A8 N8 T8 P5 Q5 T9 B5 B4 A5
  obtain ⟨L, hL⟩ : ∃ L, L = numN u.toNat ++ numN (zigN n).toNat ++ (numN b.length ++ b) ++ numN v.toNat := ⟨_, rfl⟩
  rw [← hL] at A9
  have HL := Lib.hid hL
  have hLl : L.length ≤ 600 := by rw [hL]; simp only [List.length_append]; omega
  clear hL
  go_wp2_with fail
  refine (bytes_any _ r6 L w9 A9.out (by omega)).mono ?_
  rintro e wa ⟨va, rfl, oa, na, ba⟩
  have PA := Lib.hid (P9.out.below ba)
  have QA := Lib.hid (Q9.out.below ba)
  have HBA := Lib.hid (HB9.out.below ba)
  have hBwa := hBw9.trans (ba.mono hBw9.size)
  have OA := Lib.hid oa
  clear oa na ba P9 Q9 HB9 A9
  go_wp2_with fail
  refine (read_any va L wa OA.out.at (by omega)).mono ?_
  rintro e wb ⟨eb, rfl, leb, eyb, bb⟩
  have hebl := eyb.lt
  have EY := Lib.hid eyb
  have BB := Lib.hid bb
  clear eyb bb OA
  have hl1' : 1 ≤ (numN u.toNat).length := by rw [numN_length]; unfold sizeN; split <;> omega
  have hl2' : 1 ≤ (numN (zigN n).toNat).length := by rw [numN_length]; unfold sizeN; split <;> omega
  have hl3' : 1 ≤ (numN b.length).length := by rw [numN_length]; unfold sizeN; split <;> omega
  have hl4' : 1 ≤ (numN v.toNat).length := by rw [numN_length]; unfold sizeN; split <;> omega
  obtain ⟨xs, hxs⟩ : ∃ xs : Nat → Ey, xs = fun i => if i = 0 then ⟨L, 0⟩ else if i = 1 then ⟨numN (zigN n).toNat ++ (numN b.length ++ b ++ numN v.toNat), 0⟩ else if i = 2 then ⟨numN b.length ++ b ++ numN v.toNat, 0⟩ else if i = 3 then ⟨numN v.toNat, 0⟩ else ⟨[], 0⟩ := ⟨_, rfl⟩
  have s0 : xs 0 = ⟨L, 0⟩ := by rw [hxs]; rfl
  have s1 : xs 1 = ⟨numN (zigN n).toNat ++ (numN b.length ++ b ++ numN v.toNat), 0⟩ := by rw [hxs]; rfl
  have s2 : xs 2 = ⟨numN b.length ++ b ++ numN v.toNat, 0⟩ := by rw [hxs]; rfl
  have s3 : xs 3 = ⟨numN v.toNat, 0⟩ := by rw [hxs]; rfl
  have s4 : xs 4 = ⟨[], 0⟩ := by rw [hxs]; rfl
  have hL2 : L = numN u.toNat ++ (numN (zigN n).toNat ++ (numN b.length ++ b ++ numN v.toNat)) := by rw [HL.out]; simp
  have hch : Chain eb 4 xs := ⟨fun i j hij hj => by
    have z0 : (xs 0).s.length = (numN u.toNat).length + ((numN (zigN n).toNat).length + ((numN b.length).length + b.length + (numN v.toNat).length)) := by rw [s0, hL2]; simp only [List.length_append]
    have z1 : (xs 1).s.length = (numN (zigN n).toNat).length + ((numN b.length).length + b.length + (numN v.toNat).length) := by rw [s1]; simp only [List.length_append]
    have z2 : (xs 2).s.length = (numN b.length).length + b.length + (numN v.toNat).length := by rw [s2]; simp only [List.length_append]
    have z3 : (xs 3).s.length = (numN v.toNat).length := by rw [s3]
    have z4 : (xs 4).s.length = 0 := by rw [s4]; rfl
    obtain rfl | rfl | rfl | rfl : i = 0 ∨ i = 1 ∨ i = 2 ∨ i = 3 := by omega
    all_goals
      obtain rfl | rfl | rfl | rfl : j = 1 ∨ j = 2 ∨ j = 3 ∨ j = 4 := by omega
      all_goals omega⟩
  have S := Lib.hid (And.intro s0 (And.intro s1 (And.intro s2 (And.intro s3 s4))))
  have HL2 := Lib.hid hL2
  have HCH := Lib.hid hch
  clear hch hxs s0 s1 s2 s3 s4 hL2 hl1' hl2' hl3' hl4' HL
  have hbd : ∀ X, Touch (fun k => k = eb) wb X → Below wa.heap.size wa X := fun X h => BB.out.trans (h.below (by rintro j rfl; exact leb) BB.out.size)
  have HBD := Lib.hid hbd
  clear hbd
  go_wp2_with fail
  refine wp_region_chain_tail 28 [[], [], [0, 1], [], [2, 3], [4, 2], [5], [6, 5, 2], [5], [7, 8, 5], [5, 9, 7, 2], [10, 7, 2], [11], [11], [13, 11], [12, 14, 11, 7, 2], [15, 11], [11], [17, 11], [16, 18, 11, 15], [11, 19, 15, 7, 2], [20, 15, 7, 2], [21], [22, 21, 15, 7, 2], [21], [23, 24, 21], [21, 25], [26], [27], [28, 27], [29, 27], [27, 30]]
    (fun j => if j = 2 then some 0 else if j = 7 then some 1 else if j = 15 then some 2 else if j = 23 then some 3 else none) 4 (fun i X => EyeAt eb (xs i) X) (fun X => Touch (fun k => k = eb) wb X) (fun k => k = eb)
    (by kernel_rfl) (by kernel_rfl) (by kernel_rfl) (by kernel_rfl) (by decide) (by kernel_rfl) (fun i j X hi hj h1 h2 => HCH.out.eq hi hj h1 h2) (fun i X Y h hB => h.below hB) (Touch.drew _ _) (fun X Y h hT => h.trans hT (fun _ _ h => h)) (by rw [S.out.1]; exact EY.out) ?_
  simp only [List.take_succ_cons, List.take_zero]
  repeat
    (apply ch_fx (by rfl)
     · intro vs X hD hA
       try simp only [List.getD_cons_zero, List.getD_cons_succ, List.forall_mem_cons, List.not_mem_nil, false_implies, implies_true, and_true] at hA
       simp only [List.getD_cons_zero, List.getD_cons_succ, putL, dstOf, List.foldl_nil, List.foldl_cons, List.getElem?_toArray, List.getElem?_cons_zero, List.getElem?_cons_succ, Option.bind_some, Act.put, List.setIfInBounds_toArray, List.set_cons_zero, List.set_cons_succ]
       try simp only [hA]
       go_wp2_with fail
       exact ⟨_, rfl, Below.refl _ _, rfl⟩
     simp only [List.cons_append, List.nil_append])
  refine ch_call (c := 0) rfl (fun v _ => v = .int .u64 (U u)) (fun _ _ _ _ _ h => h) ?_ ?_
  · intro vs X hD hS hA
    try simp only [List.getD_cons_zero, List.getD_cons_succ, List.forall_mem_cons, List.not_mem_nil, false_implies, implies_true, and_true] at hA
    simp only [List.getD_cons_zero, List.getD_cons_succ, putL, dstOf, List.foldl_nil, List.foldl_cons, List.getElem?_toArray, List.getElem?_cons_zero, List.getElem?_cons_succ, Option.bind_some, Act.put, List.setIfInBounds_toArray, List.set_cons_zero, List.set_cons_succ]
    try simp only [hA]
    rw [S.out.1] at hS
    have hnn := number_num u.toNat (numN (zigN n).toNat ++ (numN b.length ++ b ++ numN v.toNat)) u (by have := u.toNat_lt; omega) (Nat.le_refl _)
    rw [← HL2.out] at hnn
    have HNN := Lib.hid hnn
    clear hnn
    go_wp2_with fail
    refine (eye_number eb ⟨L, 0⟩ u X hS (by simp; omega)).mono ?_
    rintro e w' ⟨rfl, q1, q2⟩
    rw [HNN.out] at q1 ⊢
    rw [UInt64.ofNat_toNat]
    go_wp2_with fail
    exact ⟨_, rfl, ⟨q2, by rw [S.out.2.1]; exact q1⟩, rfl⟩
  simp only [List.cons_append, List.nil_append]
  repeat
    (apply ch_fx (by rfl)
     · intro vs X hD hA
       try simp only [List.getD_cons_zero, List.getD_cons_succ, List.forall_mem_cons, List.not_mem_nil, false_implies, implies_true, and_true] at hA
       simp only [List.getD_cons_zero, List.getD_cons_succ, putL, dstOf, List.foldl_nil, List.foldl_cons, List.getElem?_toArray, List.getElem?_cons_zero, List.getElem?_cons_succ, Option.bind_some, Act.put, List.setIfInBounds_toArray, List.set_cons_zero, List.set_cons_succ]
       try simp only [hA]
       go_wp2_with fail
       exact ⟨_, rfl, Below.refl _ _, rfl⟩
     simp only [List.cons_append, List.nil_append])
  refine ch_call (c := 1) rfl (fun v _ => v = .int .i64 n) (fun _ _ _ _ _ h => h) ?_ ?_
  · intro vs X hD hS hA
    try simp only [List.getD_cons_zero, List.getD_cons_succ, List.forall_mem_cons, List.not_mem_nil, false_implies, implies_true, and_true] at hA
    simp only [List.getD_cons_zero, List.getD_cons_succ, putL, dstOf, List.foldl_nil, List.foldl_cons, List.getElem?_toArray, List.getElem?_cons_zero, List.getElem?_cons_succ, Option.bind_some, Act.put, List.setIfInBounds_toArray, List.set_cons_zero, List.set_cons_succ]
    try simp only [hA]
    rw [S.out.2.1] at hS
    have HNN := Lib.hid (number_num (zigN n).toNat (numN b.length ++ b ++ numN v.toNat) 18446744073709551615 (by have := (zigN n).toNat_lt; omega) (by have := (zigN n).toNat_lt; show _ ≤ 18446744073709551615; omega))
    go_wp2_with fail
    refine (eye_signed eb _ X hS (by simp only [List.length_append]; omega)).mono ?_
    rintro e w' ⟨rfl, q1, q2⟩
    rw [HNN.out] at q1 ⊢
    rw [UInt64.ofNat_toNat, zag_zig n hn]
    go_wp2_with fail
    exact ⟨_, rfl, ⟨q2, by rw [S.out.2.2.1]; exact q1⟩, rfl⟩
  simp only [List.cons_append, List.nil_append]
  repeat
    (apply ch_fx (by rfl)
     · intro vs X hD hA
       try simp only [List.getD_cons_zero, List.getD_cons_succ, List.forall_mem_cons, List.not_mem_nil, false_implies, implies_true, and_true] at hA
       simp only [List.getD_cons_zero, List.getD_cons_succ, putL, dstOf, List.foldl_nil, List.foldl_cons, List.getElem?_toArray, List.getElem?_cons_zero, List.getElem?_cons_succ, Option.bind_some, Act.put, List.setIfInBounds_toArray, List.set_cons_zero, List.set_cons_succ]
       try simp only [hA]
       go_wp2_with fail
       exact ⟨_, rfl, Below.refl _ _, rfl⟩
     simp only [List.cons_append, List.nil_append])
  refine ch_call (c := 2) rfl (fun v X => OwnB X v b ∧ v.ownBlock ≠ some eb) ?_ ?_ ?_
  · rintro v X Y hD hT ⟨h1, h2⟩
    exact ⟨h1.kept (fun g hg => hT.block g (h1.lt hg) (fun e => h2 (by rw [hg, e]))), h2⟩
  · intro vs X hD hS hA
    try simp only [List.getD_cons_zero, List.getD_cons_succ, List.forall_mem_cons, List.not_mem_nil, false_implies, implies_true, and_true] at hA
    simp only [List.getD_cons_zero, List.getD_cons_succ, putL, dstOf, List.foldl_nil, List.foldl_cons, List.getElem?_toArray, List.getElem?_cons_zero, List.getElem?_cons_succ, Option.bind_some, Act.put, List.setIfInBounds_toArray, List.set_cons_zero, List.set_cons_succ]
    try simp only [hA]
    rw [S.out.2.2.1] at hS
    have HNN := Lib.hid (text_text b (numN v.toNat) (by omega))
    go_wp2_with fail
    refine (eye_text eb _ (b.length : Int) X hS (by simp only [List.length_append]; omega) (by omega)).mono ?_
    rintro e w' ⟨v', rfl, q1, q2, q3, q4⟩
    rw [HNN.out] at q1 q3
    have hl := hS.lt
    go_wp2_with fail
    exact ⟨_, rfl, ⟨q4, by rw [S.out.2.2.2.1]; exact q3⟩, q1, fun e => by have := q2 eb e; omega⟩
  simp only [List.cons_append, List.nil_append]
  apply ch_fx (by rfl)
  · intro vs X hD hA
    try simp only [List.getD_cons_zero, List.getD_cons_succ, List.forall_mem_cons, List.not_mem_nil, false_implies, implies_true, and_true] at hA
    simp only [List.getD_cons_zero, List.getD_cons_succ, putL, dstOf, List.foldl_nil, List.foldl_cons, List.getElem?_toArray, List.getElem?_cons_zero, List.getElem?_cons_succ, Option.bind_some, Act.put, List.setIfInBounds_toArray, List.set_cons_zero, List.set_cons_succ]
    try simp only [hA]
    have hcv := conv_bytes hA.1.1.at
    go_wp2_with fail
    exact ⟨_, rfl, Below.refl _ _, rfl⟩
  simp only [List.cons_append, List.nil_append]
  repeat
    (apply ch_fx (by rfl)
     · intro vs X hD hA
       try simp only [List.getD_cons_zero, List.getD_cons_succ, List.forall_mem_cons, List.not_mem_nil, false_implies, implies_true, and_true] at hA
       simp only [List.getD_cons_zero, List.getD_cons_succ, putL, dstOf, List.foldl_nil, List.foldl_cons, List.getElem?_toArray, List.getElem?_cons_zero, List.getElem?_cons_succ, Option.bind_some, Act.put, List.setIfInBounds_toArray, List.set_cons_zero, List.set_cons_succ]
       try simp only [hA]
       go_wp2_with fail
       exact ⟨_, rfl, Below.refl _ _, rfl⟩
     simp only [List.cons_append, List.nil_append])
  apply ch_fx (by rfl)
  · intro vs X hD hA
    try simp only [List.getD_cons_zero, List.getD_cons_succ, List.forall_mem_cons, List.not_mem_nil, false_implies, implies_true, and_true] at hA
    simp only [List.getD_cons_zero, List.getD_cons_succ, putL, dstOf, List.foldl_nil, List.foldl_cons, List.getElem?_toArray, List.getElem?_cons_zero, List.getElem?_cons_succ, Option.bind_some, Act.put, List.setIfInBounds_toArray, List.set_cons_zero, List.set_cons_succ]
    try simp only [hA]
    have hcv := conv_bytes (HBA.out.below (HBD.out X hD))
    go_wp2_with fail
    exact ⟨_, rfl, Below.refl _ _, rfl⟩
  simp only [List.cons_append, List.nil_append]
  repeat
    (apply ch_fx (by rfl)
     · intro vs X hD hA
       try simp only [List.getD_cons_zero, List.getD_cons_succ, List.forall_mem_cons, List.not_mem_nil, false_implies, implies_true, and_true] at hA
       simp only [List.getD_cons_zero, List.getD_cons_succ, putL, dstOf, List.foldl_nil, List.foldl_cons, List.getElem?_toArray, List.getElem?_cons_zero, List.getElem?_cons_succ, Option.bind_some, Act.put, List.setIfInBounds_toArray, List.set_cons_zero, List.set_cons_succ]
       try simp only [hA]
       go_wp2_with fail
       exact ⟨_, rfl, Below.refl _ _, rfl⟩
     simp only [List.cons_append, List.nil_append])
  refine ch_call (c := 3) rfl (fun v' _ => v' = .int .u64 (U v)) (fun _ _ _ _ _ h => h) ?_ ?_
  · intro vs X hD hS hA
    try simp only [List.getD_cons_zero, List.getD_cons_succ, List.forall_mem_cons, List.not_mem_nil, false_implies, implies_true, and_true] at hA
    simp only [List.getD_cons_zero, List.getD_cons_succ, putL, dstOf, List.foldl_nil, List.foldl_cons, List.getElem?_toArray, List.getElem?_cons_zero, List.getElem?_cons_succ, Option.bind_some, Act.put, List.setIfInBounds_toArray, List.set_cons_zero, List.set_cons_succ]
    try simp only [hA]
    rw [S.out.2.2.2.1] at hS
    obtain ⟨mx, hm, hmv⟩ : ∃ mx : UInt64, (18446744073709551615 : Int) = U mx ∧ mx.toNat = 18446744073709551615 := ⟨18446744073709551615, rfl, rfl⟩
    have hnn := number_num v.toNat [] mx (by have := v.toNat_lt; omega) (by have := v.toNat_lt; omega)
    rw [List.append_nil] at hnn
    have HNN := Lib.hid hnn
    clear hnn hmv
    go_wp2_with fail
    clear hm
    refine (eye_number eb _ _ X hS (by show (numN v.toNat).length ≤ _; omega)).mono ?_
    rintro e w' ⟨rfl, q1, q2⟩
    rw [HNN.out] at q1 ⊢
    rw [UInt64.ofNat_toNat]
    go_wp2_with fail
    exact ⟨_, rfl, ⟨q2, by rw [S.out.2.2.2.2]; exact q1⟩, rfl⟩
  simp only [List.cons_append, List.nil_append]
  iterate 4
    (apply ch_fx (by rfl)
     · intro vs X hD hA
       try simp only [List.getD_cons_zero, List.getD_cons_succ, List.forall_mem_cons, List.not_mem_nil, false_implies, implies_true, and_true] at hA
       simp only [List.getD_cons_zero, List.getD_cons_succ, putL, dstOf, List.foldl_nil, List.foldl_cons, List.getElem?_toArray, List.getElem?_cons_zero, List.getElem?_cons_succ, Option.bind_some, Act.put, List.setIfInBounds_toArray, List.set_cons_zero, List.set_cons_succ]
       try simp only [hA]
       go_wp2_with fail
       exact ⟨_, rfl, Below.refl _ _, rfl⟩
     simp only [List.cons_append, List.nil_append])
  refine ch_nil ?_
  intro vs X hD hA hF
  simp only [List.drop_succ_cons, List.drop_zero]
  rw [show List.range 28 = [0, 1, 2, 3, 4, 5, 6, 7, 8, 9, 10, 11, 12, 13, 14, 15, 16, 17, 18, 19, 20, 21, 22, 23, 24, 25, 26, 27] from rfl]
  simp only [List.getD_cons_zero, List.getD_cons_succ, putL, dstOf, List.foldl_nil, List.foldl_cons, List.getElem?_toArray, List.getElem?_cons_zero, List.getElem?_cons_succ, Option.bind_some, Act.put, List.setIfInBounds_toArray, List.set_cons_zero, List.set_cons_succ]
  have u27 : vs 27 = .bool false := hA 27 (by decide)
  have hE := hF 23 (by decide) rfl (by decide)
  rw [S.out.2.2.2.2] at hE
  have HE := Lib.hid hE
  rw [u27]
  clear u27 hA hF hE
  go_wp2_with fail
  refine (end_any eb ⟨[], 0⟩ X HE.out).mono ?_
  rintro e wc ⟨rfl, q1, q2⟩
  rw [show (Ey.mk [] 0).fin = ⟨[], 0⟩ from rfl]
  have bc : Below wa.heap.size wa wc := HBD.out wc (hD.trans q2 (fun _ _ h => h))
  have PC := Lib.hid (PA.out.below bc)
  have QC := Lib.hid (QA.out.below bc)
  have hBc := hBwa.trans (bc.mono hBwa.size)
  clear q1 q2 hD HE bc HBD S HL2 HCH EY BB PA QA HBA hBwa
  go_wp2_with fail
  refine wp_region_vals [[], [0], [1], [], [3], [4], [2], [5]] (fun X => Below wc.heap.size wc X) (fun X Y => Below X.heap.size X Y) (by kernel_rfl) (by kernel_rfl) (by kernel_rfl) (Below.drew (Below.refl _ _)) (fun X Y hC hG => hC.trans (hG.mono hC.size)) ?_
  iterate 1
    (apply vals_fx
     · intro vs X hX hA
       try simp only [List.getD_cons_zero, List.getD_cons_succ, List.forall_mem_cons, List.not_mem_nil, false_implies, implies_true, and_true] at hA
       simp only [List.getD_cons_zero, List.getD_cons_succ, putL, dstOf, List.foldl_nil, List.foldl_cons, List.getElem?_toArray, List.getElem?_cons_zero, List.getElem?_cons_succ, Option.bind_some, Act.put, List.setIfInBounds_toArray, List.set_cons_zero, List.set_cons_succ]
       try simp only [hA]
       go_wp2_with fail
       exact ⟨_, rfl, Below.refl _ _, rfl⟩
     simp only [List.cons_append, List.nil_append])
  refine vals_pr (fun v X => OwnB X v (numN u.toNat)) (fun v X Y _ hG h => OwnB.kept h (fun g hg => hG.block g (OwnB.lt h hg))) ?_ ?_
  · intro vs X hX hA
    try simp only [List.getD_cons_zero, List.getD_cons_succ, List.forall_mem_cons, List.not_mem_nil, false_implies, implies_true, and_true] at hA
    simp only [List.getD_cons_zero, List.getD_cons_succ, putL, dstOf, List.foldl_nil, List.foldl_cons, List.getElem?_toArray, List.getElem?_cons_zero, List.getElem?_cons_succ, Option.bind_some, Act.put, List.setIfInBounds_toArray, List.set_cons_zero, List.set_cons_succ]
    try simp only [hA]
    go_wp2_with fail
    refine (bytes_any _ r1 _ X (PC.out.below hX) (by omega)).mono ?_
    rintro e w' ⟨v', rfl, o, _, hB⟩
    go_wp2_with fail
    exact ⟨_, rfl, hB, o⟩
  simp only [List.cons_append, List.nil_append]
  apply vals_fx
  · intro vs X hX hA
    try simp only [List.getD_cons_zero, List.getD_cons_succ, List.forall_mem_cons, List.not_mem_nil, false_implies, implies_true, and_true] at hA
    simp only [List.getD_cons_zero, List.getD_cons_succ, putL, dstOf, List.foldl_nil, List.foldl_cons, List.getElem?_toArray, List.getElem?_cons_zero, List.getElem?_cons_succ, Option.bind_some, Act.put, List.setIfInBounds_toArray, List.set_cons_zero, List.set_cons_succ]
    try simp only [hA]
    have hcv := conv_bytes hA.at
    go_wp2_with fail
    exact ⟨_, rfl, Below.refl _ _, rfl⟩
  simp only [List.cons_append, List.nil_append]
  iterate 1
    (apply vals_fx
     · intro vs X hX hA
       try simp only [List.getD_cons_zero, List.getD_cons_succ, List.forall_mem_cons, List.not_mem_nil, false_implies, implies_true, and_true] at hA
       simp only [List.getD_cons_zero, List.getD_cons_succ, putL, dstOf, List.foldl_nil, List.foldl_cons, List.getElem?_toArray, List.getElem?_cons_zero, List.getElem?_cons_succ, Option.bind_some, Act.put, List.setIfInBounds_toArray, List.set_cons_zero, List.set_cons_succ]
       try simp only [hA]
       go_wp2_with fail
       exact ⟨_, rfl, Below.refl _ _, rfl⟩
     simp only [List.cons_append, List.nil_append])
  refine vals_pr (fun v' X => OwnB X v' (numN v.toNat)) (fun v X Y _ hG h => OwnB.kept h (fun g hg => hG.block g (OwnB.lt h hg))) ?_ ?_
  · intro vs X hX hA
    try simp only [List.getD_cons_zero, List.getD_cons_succ, List.forall_mem_cons, List.not_mem_nil, false_implies, implies_true, and_true] at hA
    simp only [List.getD_cons_zero, List.getD_cons_succ, putL, dstOf, List.foldl_nil, List.foldl_cons, List.getElem?_toArray, List.getElem?_cons_zero, List.getElem?_cons_succ, Option.bind_some, Act.put, List.setIfInBounds_toArray, List.set_cons_zero, List.set_cons_succ]
    try simp only [hA]
    go_wp2_with fail
    refine (bytes_any _ r2 _ X (QC.out.below hX) (by omega)).mono ?_
    rintro e w' ⟨v', rfl, o, _, hB⟩
    go_wp2_with fail
    exact ⟨_, rfl, hB, o⟩
  simp only [List.cons_append, List.nil_append]
  apply vals_fx
  · intro vs X hX hA
    try simp only [List.getD_cons_zero, List.getD_cons_succ, List.forall_mem_cons, List.not_mem_nil, false_implies, implies_true, and_true] at hA
    simp only [List.getD_cons_zero, List.getD_cons_succ, putL, dstOf, List.foldl_nil, List.foldl_cons, List.getElem?_toArray, List.getElem?_cons_zero, List.getElem?_cons_succ, Option.bind_some, Act.put, List.setIfInBounds_toArray, List.set_cons_zero, List.set_cons_succ]
    try simp only [hA]
    have hcv := conv_bytes hA.at
    go_wp2_with fail
    exact ⟨_, rfl, Below.refl _ _, rfl⟩
  simp only [List.cons_append, List.nil_append]
  iterate 2
    (apply vals_fx
     · intro vs X hX hA
       try simp only [List.getD_cons_zero, List.getD_cons_succ, List.forall_mem_cons, List.not_mem_nil, false_implies, implies_true, and_true] at hA
       simp only [List.getD_cons_zero, List.getD_cons_succ, putL, dstOf, List.foldl_nil, List.foldl_cons, List.getElem?_toArray, List.getElem?_cons_zero, List.getElem?_cons_succ, Option.bind_some, Act.put, List.setIfInBounds_toArray, List.set_cons_zero, List.set_cons_succ]
       try simp only [hA]
       go_wp2_with fail
       exact ⟨_, rfl, Below.refl _ _, rfl⟩
     simp only [List.cons_append, List.nil_append])
  refine vals_nil ?_
  intro vs X hX hA
  rw [(fun (l : List Oper) (h : l.length = 8) => (by rw [h]; rfl : List.range l.length = [0, 1, 2, 3, 4, 5, 6, 7])) _ rfl]
  simp only [List.getD_cons_zero, List.getD_cons_succ, putL, dstOf, List.foldl_nil, List.foldl_cons, List.getElem?_toArray, List.getElem?_cons_zero, List.getElem?_cons_succ, Option.bind_some, Act.put, List.setIfInBounds_toArray, List.set_cons_zero, List.set_cons_succ]
  have u6 : vs 6 = str (numN u.toNat) := hA 6 (by decide)
  have u7 : vs 7 = str (numN v.toNat) := hA 7 (by decide)
  rw [u6, u7]
  have hBe := hBc.trans (hX.mono hBc.size)
  clear u6 u7 hA hX hBc PC QC
  have hu64 := u.toNat_lt
  have hv64 := v.toNat_lt
  have g1 : Op.bytesLess (numN u.toNat) (numN v.toNat) = decide (U u < U v) := by
    rw [less_num u.toNat v.toNat (by omega) (by omega)]
    exact decide_eq_decide.2 (by unfold U; omega)
  have g2 : (numN u.toNat == numN v.toNat) = (U u == U v) := by
    by_cases h : u = v
    · subst h; simp
    · have h1 : ¬ numN u.toNat = numN v.toNat := fun e => h (UInt64.toNat_inj.1 (num_inj (by omega) (by omega) e))
      have h2 : ¬ U u = U v := fun e => h (U_inj e)
      rw [beq_eq_false_iff_ne.2 h1, beq_eq_false_iff_ne.2 h2]
  clear hl1 hl2 hl3 hl4
  by_cases h : u = v
  · subst h
    have g3 : decide (U u < U u) = false := decide_eq_false (by omega)
    have g4 : (U u == U u) = true := by simp
    have g5 : (numN u.toNat == numN u.toNat) = true := by simp
    have g6 := less_self (numN u.toNat)
    clear g1 g2 hu64 hv64
    go_wp2_with fail
    refine (zig_any n X hn).mono ?_
    rintro e wd ⟨rfl, rfl⟩
    go_wp2_with fail
    refine (zag_any _ X).mono ?_
    rintro e wd ⟨rfl, rfl⟩
    rw [zag_zig n hn]
    go_wp2_with fail
    refine (zag_any u X).mono ?_
    rintro e wd ⟨rfl, rfl⟩
    go_wp2_with fail
    refine (zig_any (zagN u) X (zag_range u)).mono ?_
    rintro e wd ⟨rfl, rfl⟩
    rw [zig_zag u]
    go_wp2_with fail
    refine (size_any u X).mono ?_
    rintro e wd ⟨rfl, rfl⟩
    rw [← numN_length]
    go_wp2_with fail
    go_ret
    exact ⟨rfl, hBe⟩
  · have h1 : (numN u.toNat = numN v.toNat) = False := propext ⟨fun e => h (UInt64.toNat_inj.1 (num_inj (by omega) (by omega) e)), False.elim⟩
    have h2 : (U u == U v) = false := beq_eq_false_iff_ne.2 (fun e => h (U_inj e))
    have h3 : (numN u.toNat).length ≤ (numN v.toNat).length → ((((⟨(numN v.toNat).toArray⟩ : ByteArray).extract 0 (numN u.toNat).length).toList = numN u.toNat) = False) := fun hle =>
      propext ⟨fun e => by rw [ba_take_list] at e; exact h (UInt64.toNat_inj.1 (num_free (by omega) (by omega) hle e)), False.elim⟩
    clear hu64 hv64 h
    by_cases hle : (numN u.toNat).length ≤ (numN v.toNat).length
    · have h4 := h3 hle
      have h5 : ((((⟨(numN v.toNat).toArray⟩ : ByteArray).extract 0 (numN u.toNat).length).toList == numN u.toNat)) = false := beq_eq_false_iff_ne.2 (fun e => by rw [h4] at e; exact e)
      clear h3
      go_wp2_with fail
      refine (zig_any n X hn).mono ?_
      rintro e wd ⟨rfl, rfl⟩
      go_wp2_with fail
      refine (zag_any _ X).mono ?_
      rintro e wd ⟨rfl, rfl⟩
      rw [zag_zig n hn]
      go_wp2_with fail
      refine (zag_any u X).mono ?_
      rintro e wd ⟨rfl, rfl⟩
      go_wp2_with fail
      refine (zig_any (zagN u) X (zag_range u)).mono ?_
      rintro e wd ⟨rfl, rfl⟩
      rw [zig_zag u]
      go_wp2_with fail
      refine (size_any u X).mono ?_
      rintro e wd ⟨rfl, rfl⟩
      rw [← numN_length]
      go_wp2_with fail
      go_ret
      exact ⟨rfl, hBe⟩
    · clear h3
      go_wp2_with fail
      refine (zig_any n X hn).mono ?_
      rintro e wd ⟨rfl, rfl⟩
      go_wp2_with fail
      refine (zag_any _ X).mono ?_
      rintro e wd ⟨rfl, rfl⟩
      rw [zag_zig n hn]
      go_wp2_with fail
      refine (zag_any u X).mono ?_
      rintro e wd ⟨rfl, rfl⟩
      go_wp2_with fail
      refine (zig_any (zagN u) X (zag_range u)).mono ?_
      rintro e wd ⟨rfl, rfl⟩
      rw [zig_zag u]
      go_wp2_with fail
      refine (size_any u X).mono ?_
      rintro e wd ⟨rfl, rfl⟩
      rw [← numN_length]
      go_wp2_with fail
      go_ret
      exact ⟨rfl, hBe⟩
end Go.Proofs.Ytfmgkllnncibaaa
