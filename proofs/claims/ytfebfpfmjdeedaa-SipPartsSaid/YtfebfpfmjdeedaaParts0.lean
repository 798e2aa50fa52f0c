/- The walk of the law SipParts.
   Conditions: those that the theorem names. -/
import Derived.Test.YtfebfpfmjdeedaaSums0
import Derived.Test.YtfebfpfmjdeedaaVals
import Derived.Test.YtfebfpfmjdeedaaSeq
namespace Go.Proofs.Ytfebfpfmjdeedaa
set_option linter.unusedVariables false
set_option linter.unusedSimpArgs false
open Go.RowKit Go.Rg
attribute [local go_sem] min_two max_two min2_int max2_int
theorem add_plain (g o i : Nat) : (⟨g, o, none⟩ : Addr).add i = ⟨g, o + i, none⟩ := by
  unfold Addr.add
  split
  · rename_i h; subst h; rfl
  · rfl
theorem BytesAt.sub {w : World} {p : Option Addr} {n cap : Nat} {b : List UInt8} (h : BytesAt w (.slice p n cap) b) (i j c : Nat) (hij : i + j ≤ b.length) :
    BytesAt w (.slice (Option.map (fun x => x.add i) p) j c) ((b.drop i).take j) := by
  obtain ⟨q, cap', e, hf⟩ := h
  cases e
  have hl : ((b.drop i).take j).length = j := by simp; omega
  refine ⟨_, c, by rw [hl], fun k hk => ?_⟩
  rw [hl] at hk
  obtain ⟨g, o, rfl, hg, hc⟩ := hf (i + k) (by omega)
  refine ⟨g, o + i, by rw [Option.map_some, add_plain], hg, ?_⟩
  rw [show o + i + k = o + (i + k) by omega, hc]
  simp [hk]
theorem hf3 (b : List UInt8) (x y : Nat) (h : x ≤ y) (hn : y ≤ b.length) : [(b.drop 0).take x, (b.drop x).take (y - x), (b.drop y).take (b.length - y)].flatten = b := by
  have e : (b.drop y).take (b.length - y) = b.drop y := List.take_of_length_le (by simp)
  have e2 : b.take x ++ (b.drop x).take (y - x) = b.take y := by rw [← List.take_add, show x + (y - x) = y by omega]
  simp only [List.flatten_cons, List.flatten_nil, List.append_nil, List.drop_zero, e]
  rw [← List.append_assoc, e2, List.take_append_drop]
theorem hf2 (b : List UInt8) (y : Nat) (hn : y ≤ b.length) : [(b.drop 0).take y, (b.drop y).take (b.length - y)].flatten = b := by
  have e : (b.drop y).take (b.length - y) = b.drop y := List.take_of_length_le (by simp)
  simp only [List.flatten_cons, List.flatten_nil, List.append_nil, List.drop_zero, e, List.take_append_drop]
theorem BytesAt.none (w : World) (p : Option Addr) (c n : Nat) (l : List UInt8) (h : l.length = 0) (hn : n = 0) : BytesAt w (.slice p n c) l :=
  ⟨p, c, by rw [hn, h], fun i hi => by omega⟩
theorem BytesAt.pre {w : World} {p : Option Addr} {n cap : Nat} {b : List UInt8} (h : BytesAt w (.slice p n cap) b) (j : Nat) (hj : j ≤ b.length) : BytesAt w (.slice p j cap) ((b.drop 0).take j) := by
  obtain ⟨q, cap', e, hf⟩ := h
  cases e
  have hl : ((b.drop 0).take j).length = j := by simp; omega
  refine ⟨_, cap, by rw [hl], fun k hk => ?_⟩
  rw [hl] at hk
  obtain ⟨g, o, rfl, hg, hc⟩ := hf k (by omega)
  exact ⟨g, o, rfl, hg, by rw [hc]; simp [hk]⟩
theorem rows_lits (w : World) (us : List Value) (ls : List (List UInt8)) (T : TypeId) (hl : us.length = ls.length) (h : ∀ i, i < ls.length → BytesAt w (us[i]?.getD undef) (ls[i]?.getD [])) :
    RowsAt (w.alloc (.cells us.toArray T)) (.slice (some ⟨w.heap.size, 0, none⟩) ls.length ls.length) ls := by
  refine ⟨_, _, rfl, fun i hi => ⟨w.heap.size, 0, us[i]?.getD undef, rfl, by simp, ?_, (h i hi).below ((Below.refl _ _).alloc (Nat.le_refl _) _)⟩⟩
  have := World.alloc_heap_new w (.cells us.toArray T)
  simp only [World.cell?, this]
  simp [show i < us.length by omega]
set_option maxRecDepth 100000 in
set_option maxHeartbeats 2000000 in
theorem parts_walk (A B : UInt64) (p : Option Addr) (cap : Nat) (b : List UInt8) (x0 x1 : Int) (w : World) (hr : BytesAt w (.slice p b.length cap) b) (hcap : b.length ≤ cap) (h0 : 0 ≤ x0) (h0' : x0 < 65536) (h1 : 0 ≤ x1) (h1' : x1 < 65536) :
    Calls Try.prog 4 #[keyV A B, .slice p b.length cap, .agg #[.int .u16 x0, .int .u16 x1]] w fun e w' => e = .returned (.bool true) ∧ Below w.heap.size w w' := by
  have HR := Lib.hid hr
  clear hr
  go_enter Try.func4, Try.ntmps4
  go_wp2_with fail
  have k0 : ((w.alloc (.cells #[.int .u64 (U A), .int .u64 (U B)] 24)).alloc (.cells #[.int .u16 x0, .int .u16 x1] 39)).heap[w.heap.size]? = some (.cells #[.int .u64 (U A), .int .u64 (U B)] 24 (0, 0)) := (Below.heap_alloc _ _ _ (by simp)).trans (World.alloc_heap_new _ _)
  have c0 : ((w.alloc (.cells #[.int .u64 (U A), .int .u64 (U B)] 24)).alloc (.cells #[.int .u16 x0, .int .u16 x1] 39)).heap[w.heap.size + 1]? = some (.cells #[.int .u16 x0, .int .u16 x1] 39 (0, 0)) := by
    rw [show w.heap.size + 1 = (w.alloc (.cells #[.int .u64 (U A), .int .u64 (U B)] 24)).heap.size by simp]
    exact World.alloc_heap_new _ _
  have hB0 : Below w.heap.size w ((w.alloc (.cells #[.int .u64 (U A), .int .u64 (U B)] 24)).alloc (.cells #[.int .u16 x0, .int .u16 x1] 39)) := ((Below.refl _ _).alloc (Nat.le_refl _) _).alloc (by simp) _
  generalize (w.alloc (.cells #[.int .u64 (U A), .int .u64 (U B)] 24)).alloc (.cells #[.int .u16 x0, .int .u16 x1] 39) = w0 at *
  refine (first_any w0).mono ?_
  rintro e w1 ⟨rfl, hB1⟩
  have kl := (Array.getElem?_eq_some_iff.1 k0).1
  have cl := (Array.getElem?_eq_some_iff.1 c0).1
  have K1 := Lib.hid ((hB1.block _ kl).trans k0)
  have C1 := Lib.hid ((hB1.block _ cl).trans c0)
  have hz1 : w.heap.size + 2 ≤ w1.heap.size := Nat.le_trans cl hB1.size
  have hBw := hB0.trans (hB1.mono hB0.size)
  have HR1 := Lib.hid (HR.out.below hBw)
  clear HR hB0 hB1 k0 c0 kl cl
  by_cases hg : 3000 < b.length
  · have e1 : decide ((3000 : Int) < (b.length : Int)) = true := decide_eq_true (by omega)
    go_wp2_with fail
    go_ret
    exact ⟨rfl, hBw⟩
  · have e1 : decide ((3000 : Int) < (b.length : Int)) = false := decide_eq_false (by omega)
    have hcc : ∀ X, Below w1.heap.size w1 X → X.cell? ⟨w.heap.size + 1, 0, none⟩ = some (.int .u16 x0) ∧ X.cell? ⟨w.heap.size + 1, 1, none⟩ = some (.int .u16 x1) := by
      intro X hX
      have := (hX.block _ (Array.getElem?_eq_some_iff.1 C1.out).1).trans C1.out
      exact ⟨by simp [World.cell?, this], by simp [World.cell?, this]⟩
    have W0 : IntKind.i64.wrap x0 = x0 := IntWalk.i64_in _ (by omega)
    have W1 : IntKind.i64.wrap x1 = x1 := IntWalk.i64_in _ (by omega)
    have WL : IntKind.i64.wrap ((b.length : Int) + 1) = (b.length : Int) + 1 := IntWalk.i64_in _ (by omega)
    have NZ : ((b.length : Int) + 1 = 0) = False := by simp; omega
    have NZ' : ((b.length : Int) + 1 == 0) = false := by simp; omega
    go_wp2_with fail
    refine wp_region_calm_lit (by kernel_rfl) (by kernel_rfl) ?_
    repeat
      first
      | (apply calm_want
         · first | rfl | (go_simp; done)
         · intro X hX
           go_simp
           first
             | done
             | rfl
             | (refine ⟨trivial, ?_⟩; (fail); done)
             | ((fail); done)
         intro K hK
         go_simp
         refine hK _ ?_
         clear hK K)
      | (apply calm_skip
         · first | rfl | (go_simp; done)
         intro K hK
         go_simp
         refine hK _ ?_
         clear hK K)
    refine wpQuiet_nil ?_
    intro X hX
    obtain ⟨m0, hm0⟩ : ∃ m : Nat, x0.tmod ((b.length : Int) + 1) = m := ⟨(x0.tmod ((b.length : Int) + 1)).toNat, (Int.toNat_of_nonneg (Int.tmod_nonneg _ h0)).symm⟩
    obtain ⟨m1, hm1⟩ : ∃ m : Nat, x1.tmod ((b.length : Int) + 1) = m := ⟨(x1.tmod ((b.length : Int) + 1)).toNat, (Int.toNat_of_nonneg (Int.tmod_nonneg _ h1)).symm⟩
    have l0 : m0 ≤ b.length := by have := Int.tmod_lt_of_pos x0 (show (0 : Int) < (b.length : Int) + 1 by omega); omega
    have l1 : m1 ≤ b.length := by have := Int.tmod_lt_of_pos x1 (show (0 : Int) < (b.length : Int) + 1 by omega); omega
    rw [hm0, hm1]
    clear hm0 hm1 W0 W1 WL NZ NZ' hcc
    have hmin : min (m0 : Int) (m1 : Int) = ((min m0 m1 : Nat) : Int) := by omega
    have hmax : max (m0 : Int) (m1 : Int) = ((max m0 m1 : Nat) : Int) := by omega
    have hxy : min m0 m1 ≤ max m0 m1 := by omega
    have hyn : max m0 m1 ≤ b.length := by omega
    generalize min m0 m1 = x at *
    generalize max m0 m1 = y at *
    clear l0 l1
    have hXB := hBw.trans (hX.mono hBw.size)
    have HK := Lib.hid ((hX.block _ (Array.getElem?_eq_some_iff.1 K1.out).1).trans K1.out)
    have HRX := Lib.hid (HR1.out.below hX)
    have hblk : ∀ i q n c, Value.slice (Option.map (fun x => x.add i) p) 1 (cap - i) = .slice (some q) n c → 0 < b.length → q.block < X.heap.size := by
      intro i q n c e hb
      obtain ⟨q', c', e', hf⟩ := HR1.out.below hX
      obtain ⟨g, o, e2, hg, _⟩ := hf 0 hb
      cases e'; rw [e2, Option.map_some, add_plain] at e; cases e; exact hg
    have kx0 : X.cell? ⟨w.heap.size, 0, none⟩ = some (.int .u64 (U A)) := by simp [World.cell?, HK.out]
    have kx1 : X.cell? ⟨w.heap.size, 1, none⟩ = some (.int .u64 (U B)) := by simp [World.cell?, HK.out]
    clear hX K1 C1 HR1 hBw hz1
    go_wp2_with fail
    refine (new_any A B X).mono ?_
    rintro e w2 ⟨sb, rfl, hsb, hs0, hB2⟩
    have HS0 := Lib.hid hs0
    have HBK := Lib.hid hblk
    have hXb : w.heap.size < X.heap.size := (Array.getElem?_eq_some_iff.1 HK.out).1
    clear hs0 kx0 kx1 hblk
    go_wp2_with fail
    go_loopw [10, 41] (fun _ c wr => ∃ i : Nat, i ≤ b.length ∧ c = .int .i64 i ∧ Hid (Below X.heap.size X wr) ∧ Hid (wr.heap[sb]? = some (.cells ((newP A B).write (b.take i)).vals.toArray 60 (0, 0)))) (fun _ c _ => b.length - (intOf c).toNat)
    case atStart => exact ⟨0, by omega, rfl, Lib.hid hB2, HS0⟩
    case round =>
      obtain ⟨i, hi, rfl, hB, hs⟩ := hrel
      by_cases hil : i < b.length
      · have e2 : decide (i < b.length) = true := decide_eq_true (by omega)
        have e3 : decide (i + 1 ≤ cap) = true := decide_eq_true (by omega)
        have hwn := Sp.write_n (newP A B) (b.take i)
        have hn0 : (newP A B).n = 0 := rfl
        have hlt : ((b.drop i).take 1).length = 1 := by simp; omega
        have htk : b.take i ++ (b.drop i).take 1 = b.take (i + 1) := by rw [List.take_add]
        have hlt' : (b.take i).length = i := by simp; omega
        have HB2 := Lib.hid hB2
        clear hB2
        go_wp2_with fail
        refine (write_any _ ((b.drop i).take 1) _ 60 sb wr hs.out ((HRX.out.below hB.out).sub i 1 _ (by omega)) (fun q n c e _ => by have := HBK.out i q n c e (by omega); omega) (by rw [hwn, hn0, hlt, hlt']; omega)).mono ?_
        rintro e w3 ⟨⟨v3, rfl⟩, hs3, ho3⟩
        rw [← Sp.write_append, htk] at hs3
        have HS3 := Lib.hid hs3
        have HB3 := Lib.hid (hB.out.trans (ho3.below'.mono hsb))
        clear hs3 ho3 hwn htk hlt hlt'
        go_wp2_with fail
        exact ⟨⟨i + 1, by omega, by go_num, HB3, HS3⟩, by simp [intOf]; omega⟩
      · have e2 : decide (i < b.length) = false := decide_eq_false (by omega)
        obtain rfl : i = b.length := by omega
        have hs' := hs.out
        rw [List.take_length] at hs'
        have HS := Lib.hid hs'
        have HKr := Lib.hid ((hB.out.block _ hXb).trans HK.out)
        have HRr := Lib.hid (HRX.out.below hB.out)
        have hBw := hXB.trans (hB.out.mono hXB.size)
        have kx0 : wr.cell? ⟨w.heap.size, 0, none⟩ = some (.int .u64 (U A)) := by simp [World.cell?, HKr.out]
        have kx1 : wr.cell? ⟨w.heap.size, 1, none⟩ = some (.int .u64 (U B)) := by simp [World.cell?, HKr.out]
        clear hs' HK HRX hXB hB2 HS0 HBK hs
        go_wp2_with fail
        refine (hash_any A B _ [b] _ (rows_one wr _ b 37 HRr.out) (by simp; omega) (by simp)).mono ?_
        rintro e w3 ⟨rfl, hB3⟩
        rw [show [b].flatten = b by simp]
        have hA1 : Below wr.heap.size wr (wr.alloc (.cells #[.slice p b.length cap] 37)) := (Below.refl _ _).alloc (Nat.le_refl _) _
        have hB13 := hA1.trans (hB3.mono hA1.size)
        have HS3 := Lib.hid ((hB13.block _ (Array.getElem?_eq_some_iff.1 HS.out).1).trans HS.out)
        have HR3 := Lib.hid (HRr.out.below hB13)
        have HK3 := Lib.hid ((hB13.block _ (Array.getElem?_eq_some_iff.1 HKr.out).1).trans HKr.out)
        have hBw3 := Lib.hid (hBw.trans (hB13.mono hBw.size))
        have hsum : ((newP A B).write b).sum = hashS A B b := rfl
        have hn3 : b.length ≤ 3000 := by omega
        clear hA1 hB13 hB3 HS HRr HKr hBw kx0 kx1 hB hil hi e2 hg e1
        go_wp2_with fail
        have hkk : ∀ X, Below w3.heap.size w3 X → X.cell? ⟨w.heap.size, 0, none⟩ = some (.int .u64 (U A)) ∧ X.cell? ⟨w.heap.size, 1, none⟩ = some (.int .u64 (U B)) := by
          intro X hX
          have := (hX.block _ (Array.getElem?_eq_some_iff.1 HK3.out).1).trans HK3.out
          exact ⟨by simp [World.cell?, this], by simp [World.cell?, this]⟩
        have hb1 : decide (x ≤ cap) = true := decide_eq_true (by omega)
        have hb2 : decide (y ≤ cap) = true := decide_eq_true (by omega)
        have hb3 : decide (x ≤ y) = true := decide_eq_true (by omega)
        have hb4 : decide (y ≤ b.length) = true := decide_eq_true (by omega)
        refine wp_region_vals [[], [], [], [1, 2], [], [], [], [4, 5, 6], [], [], [8, 9], [3, 7, 10], [0, 11], [], [12, 13], [14], [15], [16, 15], [15], [17, 18, 15], [15, 19], [20], [21], [22, 21], [21], [23, 24, 21], [21, 25], [26], [27], [27], [28, 29, 27], [27], [27], [31, 32, 27], [30, 33, 27], [34, 27], [27], [36, 27], [37, 27], [35, 38, 27], [27, 39], [40]]
          (fun X => Below w3.heap.size w3 X) (fun X Y => Below X.heap.size X Y) (by kernel_rfl) (by kernel_rfl) (by kernel_rfl) (Below.drew (Below.refl _ _)) (fun X Y hC hG => hC.trans (hG.mono hC.size)) ?_
        have hh3 : ∀ X v, RowsAt X v [(b.drop 0).take x, (b.drop x).take (y - x), (b.drop y).take (b.length - y)] → Calls Try.prog 10 #[keyV A B, v] X fun e w' => e = .returned (.int .u64 (U (hashS A B b))) ∧ Below X.heap.size X w' := by
          intro X v h
          have e : [(b.drop 0).take x, (b.drop x).take (y - x), (b.drop y).take (b.length - y)].flatten = b := hf3 b x y hxy hyn
          have := hash_any A B v _ X h (by rw [e]; omega) (by simp)
          rwa [e] at this
        have hm2 : ∀ X v, RowsAt X v [(b.drop 0).take y, (b.drop y).take (b.length - y)] → Calls Try.prog 12 #[v] X fun e w' => e = .returned (markV (markB b)) ∧ Below X.heap.size X w' := by
          intro X v h
          have e : [(b.drop 0).take y, (b.drop y).take (b.length - y)].flatten = b := hf2 b y hyn
          have := mark_any v _ X h (by rw [e]; omega) (by simp)
          rwa [e] at this
        have hm1 : ∀ X v, RowsAt X v [b] → Calls Try.prog 12 #[v] X fun e w' => e = .returned (markV (markB b)) ∧ Below X.heap.size X w' := by
          intro X v h
          have e : [b].flatten = b := by simp
          have := mark_any v _ X h (by rw [e]; omega) (by simp)
          rwa [e] at this
        have hsm : ∀ X, Below w3.heap.size w3 X → Calls Try.prog 18 #[.pointer (some ⟨sb, 0, none⟩)] X fun e w' => e = .returned (.int .u64 (U (hashS A B b))) ∧ Below X.heap.size X w' := by
          intro X hX
          exact sum_any _ 60 sb X ((hX.block _ (Array.getElem?_eq_some_iff.1 HS3.out).1).trans HS3.out)
        have hRX : ∀ X, Below w3.heap.size w3 X → BytesAt X (.slice p b.length cap) b := fun X hX => HR3.out.below hX
        repeat
          (apply vals_fx
           · intro vs X hX hA
             try simp only [List.getD_cons_zero, List.getD_cons_succ, List.forall_mem_cons, List.not_mem_nil, false_implies, implies_true, and_true] at hA
             simp only [List.getD_cons_zero, List.getD_cons_succ, putL, dstOf, List.foldl_nil, List.foldl_cons, List.getElem?_toArray, List.getElem?_cons_zero, List.getElem?_cons_succ, Option.bind_some, Act.put, List.setIfInBounds_toArray, List.set_cons_zero, List.set_cons_succ]
             try simp only [hA]
             go_wp2_with fail
             exact ⟨_, rfl, Below.refl _ _, rfl⟩
           simp only [List.cons_append, List.nil_append])
        refine vals_pr (fun v X => BytesAt X v ((b.drop x).take (y - x))) (fun v X Y _ hG h => h.below hG) ?_ ?_
        · intro vs X hX hA
          try simp only [List.getD_cons_zero, List.getD_cons_succ, List.forall_mem_cons, List.not_mem_nil, false_implies, implies_true, and_true] at hA
          simp only [List.getD_cons_zero, List.getD_cons_succ, putL, dstOf, List.foldl_nil, List.foldl_cons, List.getElem?_toArray, List.getElem?_cons_zero, List.getElem?_cons_succ, Option.bind_some, Act.put, List.setIfInBounds_toArray, List.set_cons_zero, List.set_cons_succ]
          try simp only [hA]
          go_wp2_with fail
          · exact ⟨_, rfl, Below.refl _ _, BytesAt.none _ _ _ _ _ (by simp; omega) (by omega)⟩
          · exact ⟨_, rfl, Below.refl _ _, (hRX X hX).sub x (y - x) _ (by omega)⟩
        simp only [List.cons_append, List.nil_append]
        repeat
          (apply vals_fx
           · intro vs X hX hA
             try simp only [List.getD_cons_zero, List.getD_cons_succ, List.forall_mem_cons, List.not_mem_nil, false_implies, implies_true, and_true] at hA
             simp only [List.getD_cons_zero, List.getD_cons_succ, putL, dstOf, List.foldl_nil, List.foldl_cons, List.getElem?_toArray, List.getElem?_cons_zero, List.getElem?_cons_succ, Option.bind_some, Act.put, List.setIfInBounds_toArray, List.set_cons_zero, List.set_cons_succ]
             try simp only [hA]
             go_wp2_with fail
             exact ⟨_, rfl, Below.refl _ _, rfl⟩
           simp only [List.cons_append, List.nil_append])
        refine vals_pr (fun v X => BytesAt X v ((b.drop y).take (b.length - y))) (fun v X Y _ hG h => h.below hG) ?_ ?_
        · intro vs X hX hA
          try simp only [List.getD_cons_zero, List.getD_cons_succ, List.forall_mem_cons, List.not_mem_nil, false_implies, implies_true, and_true] at hA
          simp only [List.getD_cons_zero, List.getD_cons_succ, putL, dstOf, List.foldl_nil, List.foldl_cons, List.getElem?_toArray, List.getElem?_cons_zero, List.getElem?_cons_succ, Option.bind_some, Act.put, List.setIfInBounds_toArray, List.set_cons_zero, List.set_cons_succ]
          try simp only [hA]
          go_wp2_with fail
          · exact ⟨_, rfl, Below.refl _ _, BytesAt.none _ _ _ _ _ (by simp; omega) (by omega)⟩
          · exact ⟨_, rfl, Below.refl _ _, (hRX X hX).sub y (b.length - y) _ (by omega)⟩
        simp only [List.cons_append, List.nil_append]
        refine vals_pr (fun v X => RowsAt X v [(b.drop 0).take x, (b.drop x).take (y - x), (b.drop y).take (b.length - y)]) (fun v X Y _ hG h => h.below hG) ?_ ?_
        · intro vs X hX hA
          try simp only [List.getD_cons_zero, List.getD_cons_succ, List.forall_mem_cons, List.not_mem_nil, false_implies, implies_true, and_true] at hA
          simp only [List.getD_cons_zero, List.getD_cons_succ, putL, dstOf, List.foldl_nil, List.foldl_cons, List.getElem?_toArray, List.getElem?_cons_zero, List.getElem?_cons_succ, Option.bind_some, Act.put, List.setIfInBounds_toArray, List.set_cons_zero, List.set_cons_succ]
          try simp only [hA]
          obtain ⟨a3, a7, a10⟩ := hA
          obtain ⟨q7, c7, e7, _⟩ := id a7
          obtain ⟨q10, c10, e10, _⟩ := id a10
          rw [show ((b.drop x).take (y - x)).length = y - x by simp; omega] at e7
          rw [show ((b.drop y).take (b.length - y)).length = b.length - y by simp] at e10
          rw [e7] at a7 ⊢
          rw [e10] at a10 ⊢
          have A7 := Lib.hid a7
          have A10 := Lib.hid a10
          clear a7 a10 e7 e10
          go_wp2_with fail
          refine ⟨_, rfl, (Below.refl _ _).alloc (Nat.le_refl _) _, rows_lits X [.slice p x cap, .slice q7 (y - x) c7, .slice q10 (b.length - y) c10] [(b.drop 0).take x, (b.drop x).take (y - x), (b.drop y).take (b.length - y)] 37 rfl ?_⟩
          intro i hi
          obtain rfl | rfl | rfl : i = 0 ∨ i = 1 ∨ i = 2 := by simp at hi; omega
          · exact BytesAt.pre (hRX X hX) x (by omega)
          · exact A7.out
          · exact A10.out
        simp only [List.cons_append, List.nil_append]
        have hem := eql_marks (markB b) (by simp [markB])
        have heg := fun w => guard_marks (.tmp 91) (.tmp 94) (markB b) (markB b) w
        repeat
          (apply vals_fx
           · intro vs X hX hA
             try simp only [List.getD_cons_zero, List.getD_cons_succ, List.forall_mem_cons, List.not_mem_nil, false_implies, implies_true, and_true] at hA
             simp only [List.getD_cons_zero, List.getD_cons_succ, putL, dstOf, List.foldl_nil, List.foldl_cons, List.getElem?_toArray, List.getElem?_cons_zero, List.getElem?_cons_succ, Option.bind_some, Act.put, List.setIfInBounds_toArray, List.set_cons_zero, List.set_cons_succ]
             try simp only [hA]
             go_wp2_with fail
             first
             | exact ⟨_, rfl, Below.refl _ _, rfl⟩
             | (refine (hh3 X _ hA.2).mono ?_; rintro e w' ⟨rfl, hB⟩; go_wp2_with fail; exact ⟨_, rfl, hB, rfl⟩)
             | (refine (hsm X hX).mono ?_; rintro e w' ⟨rfl, hB⟩; go_wp2_with fail; exact ⟨_, rfl, hB, rfl⟩)
           simp only [List.cons_append, List.nil_append])
        refine vals_pr (fun v X => BytesAt X v ((b.drop y).take (b.length - y))) (fun v X Y _ hG h => h.below hG) ?_ ?_
        · intro vs X hX hA
          try simp only [List.getD_cons_zero, List.getD_cons_succ, List.forall_mem_cons, List.not_mem_nil, false_implies, implies_true, and_true] at hA
          simp only [List.getD_cons_zero, List.getD_cons_succ, putL, dstOf, List.foldl_nil, List.foldl_cons, List.getElem?_toArray, List.getElem?_cons_zero, List.getElem?_cons_succ, Option.bind_some, Act.put, List.setIfInBounds_toArray, List.set_cons_zero, List.set_cons_succ]
          try simp only [hA]
          go_wp2_with fail
          · exact ⟨_, rfl, Below.refl _ _, BytesAt.none _ _ _ _ _ (by simp; omega) (by omega)⟩
          · exact ⟨_, rfl, Below.refl _ _, (hRX X hX).sub y (b.length - y) _ (by omega)⟩
        simp only [List.cons_append, List.nil_append]
        refine vals_pr (fun v X => RowsAt X v [(b.drop 0).take y, (b.drop y).take (b.length - y)]) (fun v X Y _ hG h => h.below hG) ?_ ?_
        · intro vs X hX hA
          try simp only [List.getD_cons_zero, List.getD_cons_succ, List.forall_mem_cons, List.not_mem_nil, false_implies, implies_true, and_true] at hA
          simp only [List.getD_cons_zero, List.getD_cons_succ, putL, dstOf, List.foldl_nil, List.foldl_cons, List.getElem?_toArray, List.getElem?_cons_zero, List.getElem?_cons_succ, Option.bind_some, Act.put, List.setIfInBounds_toArray, List.set_cons_zero, List.set_cons_succ]
          try simp only [hA]
          obtain ⟨a3, a10, aB⟩ := hA
          obtain ⟨q10, c10, e10, _⟩ := id a10
          rw [show ((b.drop y).take (b.length - y)).length = b.length - y by simp] at e10
          rw [e10] at a10 ⊢
          have A10 := Lib.hid a10
          clear a10 e10
          go_wp2_with fail
          refine ⟨_, rfl, (Below.refl _ _).alloc (Nat.le_refl _) _, rows_lits X [.slice p y cap, .slice q10 (b.length - y) c10] [(b.drop 0).take y, (b.drop y).take (b.length - y)] 37 rfl ?_⟩
          intro i hi
          obtain rfl | rfl : i = 0 ∨ i = 1 := by simp at hi; omega
          · exact BytesAt.pre (hRX X hX) y (by omega)
          · exact A10.out
        simp only [List.cons_append, List.nil_append]
        repeat
          (apply vals_fx
           · intro vs X hX hA
             try simp only [List.getD_cons_zero, List.getD_cons_succ, List.forall_mem_cons, List.not_mem_nil, false_implies, implies_true, and_true] at hA
             simp only [List.getD_cons_zero, List.getD_cons_succ, putL, dstOf, List.foldl_nil, List.foldl_cons, List.getElem?_toArray, List.getElem?_cons_zero, List.getElem?_cons_succ, Option.bind_some, Act.put, List.setIfInBounds_toArray, List.set_cons_zero, List.set_cons_succ]
             try simp only [hA]
             go_wp2_with fail
             first
             | exact ⟨_, rfl, Below.refl _ _, rfl⟩
             | (refine (hm2 X _ hA.1).mono ?_; rintro e w' ⟨rfl, hB⟩; go_wp2_with fail; exact ⟨_, rfl, hB, rfl⟩)
           simp only [List.cons_append, List.nil_append])
        refine vals_pr (fun v X => RowsAt X v [b]) (fun v X Y _ hG h => h.below hG) ?_ ?_
        · intro vs X hX hA
          try simp only [List.getD_cons_zero, List.getD_cons_succ, List.forall_mem_cons, List.not_mem_nil, false_implies, implies_true, and_true] at hA
          simp only [List.getD_cons_zero, List.getD_cons_succ, putL, dstOf, List.foldl_nil, List.foldl_cons, List.getElem?_toArray, List.getElem?_cons_zero, List.getElem?_cons_succ, Option.bind_some, Act.put, List.setIfInBounds_toArray, List.set_cons_zero, List.set_cons_succ]
          try simp only [hA]
          go_wp2_with fail
          exact ⟨_, rfl, (Below.refl _ _).alloc (Nat.le_refl _) _, rows_one X _ b 37 (hRX X hX)⟩
        simp only [List.cons_append, List.nil_append]
        repeat
          (apply vals_fx
           · intro vs X hX hA
             try simp only [List.getD_cons_zero, List.getD_cons_succ, List.forall_mem_cons, List.not_mem_nil, false_implies, implies_true, and_true] at hA
             simp only [List.getD_cons_zero, List.getD_cons_succ, putL, dstOf, List.foldl_nil, List.foldl_cons, List.getElem?_toArray, List.getElem?_cons_zero, List.getElem?_cons_succ, Option.bind_some, Act.put, List.setIfInBounds_toArray, List.set_cons_zero, List.set_cons_succ]
             try simp only [hA]
             go_wp2_with fail
             first
             | exact ⟨_, rfl, Below.refl _ _, rfl⟩
             | (refine (hm1 X _ hA.1).mono ?_; rintro e w' ⟨rfl, hB⟩; go_wp2_with fail; exact ⟨_, rfl, hB, rfl⟩)
           simp only [List.cons_append, List.nil_append])
        refine vals_nil ?_
        intro vs X hX hA
        rw [(fun (l : List Oper) (h : l.length = 42) => (by rw [h]; rfl : List.range l.length = [0, 1, 2, 3, 4, 5, 6, 7, 8, 9, 10, 11, 12, 13, 14, 15, 16, 17, 18, 19, 20, 21, 22, 23, 24, 25, 26, 27, 28, 29, 30, 31, 32, 33, 34, 35, 36, 37, 38, 39, 40, 41])) _ rfl]
        simp only [List.getD_cons_zero, List.getD_cons_succ, putL, dstOf, List.foldl_nil, List.foldl_cons, List.getElem?_toArray, List.getElem?_cons_zero, List.getElem?_cons_succ, Option.bind_some, Act.put, List.setIfInBounds_toArray, List.set_cons_zero, List.set_cons_succ]
        have v41 : vs 41 = .bool true := hA 41 (by decide)
        rw [v41]
        clear hA v41
        go_wp2_with fail
        go_ret
        exact ⟨rfl, hBw3.out.trans (hX.mono hBw3.out.size)⟩
end Go.Proofs.Ytfebfpfmjdeedaa
