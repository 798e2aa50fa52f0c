/- Filters: new ones, marks added and asked for.
   Conditions: those that each theorem names. -/
import Derived.Test.YtehfinjcfjobeaaBlmA
namespace Go.Proofs.Ytehfinjcfjobeaa
set_option maxRecDepth 100000
set_option linter.unusedVariables false
set_option linter.unusedSimpArgs false
open Go.RowKit Go.Rg
attribute [local go_sem] Rg.q_add Rg.q_add' Rg.q_xor Rg.q_or Rg.q_and markV
def FltAt (k : Nat) (v : Value) (l : List UInt8) (X : World) : Prop := X.heap[k]? = some (.cells #[v] 60 (0, 0)) ∧ OwnB X v l
theorem FltAt.lt {k : Nat} {v : Value} {l : List UInt8} {X : World} (h : FltAt k v l X) : k < X.heap.size := blk_lt h.1
theorem FltAt.kept {k : Nat} {v : Value} {l : List UInt8} {X Y : World} (h : FltAt k v l X) (h1 : Y.heap[k]? = X.heap[k]?) (h2 : ∀ g, v.ownBlock = some g → Y.heap[g]? = X.heap[g]?) : FltAt k v l Y := ⟨h1.trans h.1, h.2.kept h2⟩
theorem FltAt.below {k : Nat} {v : Value} {l : List UInt8} {X Y : World} (h : FltAt k v l X) (hB : Below X.heap.size X Y) : FltAt k v l Y := h.kept (hB.block _ h.lt) (fun g hg => hB.block _ (h.2.lt hg))
theorem FltAt.touch {k : Nat} {v : Value} {l : List UInt8} {X Y : World} {M : Nat → Prop} (h : FltAt k v l X) (hT : Touch M X Y) (h1 : ¬ M k) (h2 : ∀ g, v.ownBlock = some g → ¬ M g) : FltAt k v l Y := h.kept (hT.block _ h.lt h1) (fun g hg => hT.block _ (h.2.lt hg) (h2 g hg))
theorem FltAt.cell {k : Nat} {v : Value} {l : List UInt8} {X : World} (h : FltAt k v l X) : X.cell? ⟨k, 0, none⟩ = some v := by
  have := cell_at (cs := [v]) h.1 0
  simpa using this
theorem FltAt.ne {k : Nat} {v : Value} {l : List UInt8} {X : World} (h : FltAt k v l X) {g : Nat} (hg : v.ownBlock = some g) : k ≠ g := by
  obtain ⟨c, hc⟩ := row_block h.2 hg
  intro e
  subst e
  rw [h.1] at hc
  injection hc with hc
  injection hc with _ ht
  exact absurd ht (by decide)
set_option maxHeartbeats 1000000 in
theorem bnew_yes (n : Nat) (h : fitsB ((8 * n : Nat) : Int)) (w : World) : Calls Try.prog 8 #[.int .i64 ((8 * n : Nat) : Int)] w fun e w' => ∃ k v, e = .returned (.tuple #[ptr k, .int .i64 0]) ∧ FltAt k v (List.replicate n 0) w' ∧ w.heap.size ≤ k ∧ (∀ g, v.ownBlock = some g → w.heap.size ≤ g) ∧ Below w.heap.size w w' := by
  have hn : n ≤ 1000000000 := by have := h.2.1; omega
  have mk := make_bytes n hn w
  have hd : ((8 * n : Nat) : Int) / 8 = (n : Int) := by omega
  have h0 : (0 : Int) ≤ ((8 * n : Nat) : Int) := by omega
  generalize hN : ((8 * n : Nat) : Int) = N at *
  go_enter Try.func8, Try.ntmps8
  go_wp2_with fail
  refine (bfits_yes N h _).mono ?_
  rintro e w' ⟨rfl, rfl⟩
  have HN := Lib.hid hN
  clear hN
  go_wp2_with (first | (refine wpList_msl_at rfl rfl rfl rfl mk ?_))
  go_ret2
  have hbs : (Array.replicate n (byteV 0)) = ((List.replicate n (0 : UInt8)).map byteV).toArray := by simp
  rw [hbs]
  have ho := own_made n (List.replicate n 0) w (by simp) hn
  refine ⟨w.heap.size + 1, .slice (some ⟨w.heap.size, 0, none⟩) n n, rfl, ⟨?_, ho.kept (fun g hg => Below.heap_alloc _ _ _ (ho.lt hg))⟩, by omega, fun g hg => by cases hg; exact Nat.le_refl _, ((Below.refl _ _).alloc (Nat.le_refl _) _).alloc (by simp) _⟩
  have := World.alloc_heap_new (w.alloc (.cells ((List.replicate n (0 : UInt8)).map byteV).toArray 5)) (.cells #[.slice (some ⟨w.heap.size, 0, none⟩) n n] 60)
  simpa using this
theorem bnew_no (n : Int) (h : ¬ fitsB n) (w : World) : Calls Try.prog 8 #[.int .i64 n] w fun e w' => e = .returned (.tuple #[.pointer none, .int .i64 2]) ∧ w = w' := by
  go_enter Try.func8, Try.ntmps8
  go_wp2_with fail
  refine (bfits_no n h _).mono ?_
  rintro e w' ⟨rfl, rfl⟩
  go_wp2_with fail
  go_ret2
  exact ⟨rfl, rfl⟩
theorem bbits_any (k : Nat) (v : Value) (l : List UInt8) (w : World) (h : FltAt k v l w) (hl : l.length ≤ 1000000) : Calls Try.prog 16 #[ptr k] w fun e w' => e = .returned (.int .i64 ((8 * l.length : Nat) : Int)) ∧ w = w' := by
  obtain ⟨p, c, rfl, _⟩ := h.2.shape
  have hc := h.cell
  clear h
  go_enter Try.func16, Try.ntmps16
  go_wp2_with fail
  go_ret
  exact ⟨by simp, rfl⟩
theorem bbits_nil (w : World) : Calls Try.prog 16 #[.pointer none] w fun e w' => e = .returned (.int .i64 0) ∧ w = w' := by
  go_enter Try.func16, Try.ntmps16
  go_wp2_with fail
  go_ret
  exact ⟨rfl, rfl⟩
theorem badd_nil (m : List UInt8) (w : World) : Calls Try.prog 9 #[.pointer none, markV m] w fun e w' => e = .returned (.tuple #[]) ∧ Below w.heap.size w w' := by
  unfold markV
  go_enter Try.func9, Try.ntmps9
  go_wp2_with fail
  refine bodyPost_ret (results_none rfl _ _ _) rfl ?_
  exact ⟨rfl, (Below.refl _ _).alloc (Nat.le_refl _) _⟩
theorem bmay_nil (m : List UInt8) (w : World) : Calls Try.prog 11 #[.pointer none, markV m] w fun e w' => e = .returned (.bool false) ∧ Below w.heap.size w w' := by
  unfold markV
  go_enter Try.func11, Try.ntmps11
  go_wp2_with fail
  go_ret
  exact ⟨rfl, (Below.refl _ _).alloc (Nat.le_refl _) _⟩
theorem bcount_nil (w : World) : Calls Try.prog 14 #[.pointer none] w fun e w' => e = .returned (.int .i64 0) ∧ w = w' := by
  go_enter Try.func14, Try.ntmps14
  go_wp2_with fail
  go_ret
  exact ⟨rfl, rfl⟩
/-! ### Bits -/
def putBit (l : List UInt8) (p : Nat) : List UInt8 := l.set (p / 8) ((l.getD (p / 8) 0) ||| UInt8.ofNat (2 ^ (p % 8)))
theorem putBit_length (l : List UInt8) (p : Nat) : (putBit l p).length = l.length := by simp [putBit]
def addP (l : List UInt8) (h : UInt64) (n i : Nat) : List UInt8 := ((List.range i).map (plN h n)).foldl putBit l
theorem addP_succ (l : List UInt8) (h : UInt64) (n i : Nat) : addP l h n (i + 1) = putBit (addP l h n i) (plN h n i) := by
  unfold addP
  rw [List.range_succ, List.map_append, List.foldl_append]; rfl
theorem addP_length (l : List UInt8) (h : UInt64) (n : Nat) : ∀ i, (addP l h n i).length = l.length
  | 0 => rfl
  | i + 1 => by rw [addP_succ, putBit_length, addP_length l h n i]
def addB (l : List UInt8) (m : List UInt8) : List UInt8 := addP l (hash8 m) (8 * l.length) 4
theorem addB_length (l m : List UInt8) : (addB l m).length = l.length := addP_length _ _ _ _
theorem idx4_0 (a b c d : Int) (w : World) : (Instr.index 44 (.agg #[.int .i64 a, .int .i64 b, .int .i64 c, .int .i64 d]) (.int .i64 0)).run Try.prog w = .ok (.int .i64 a) w := by kernel_rfl
theorem idx4_1 (a b c d : Int) (w : World) : (Instr.index 44 (.agg #[.int .i64 a, .int .i64 b, .int .i64 c, .int .i64 d]) (.int .i64 1)).run Try.prog w = .ok (.int .i64 b) w := by kernel_rfl
theorem idx4_2 (a b c d : Int) (w : World) : (Instr.index 44 (.agg #[.int .i64 a, .int .i64 b, .int .i64 c, .int .i64 d]) (.int .i64 2)).run Try.prog w = .ok (.int .i64 c) w := by kernel_rfl
theorem idx4_3 (a b c d : Int) (w : World) : (Instr.index 44 (.agg #[.int .i64 a, .int .i64 b, .int .i64 c, .int .i64 d]) (.int .i64 3)).run Try.prog w = .ok (.int .i64 d) w := by kernel_rfl
theorem idx4 (h : UInt64) (n i : Nat) (hi : i < 4) (w : World) : (Instr.index 44 (.agg (plV h n).toArray) (.int .i64 (i : Int))).run Try.prog w = .ok (.int .i64 (plN h n i : Int)) w := by
  have : i = 0 ∨ i = 1 ∨ i = 2 ∨ i = 3 := by omega
  rcases this with rfl | rfl | rfl | rfl
  · exact idx4_0 _ _ _ _ w
  · exact idx4_1 _ _ _ _ w
  · exact idx4_2 _ _ _ _ w
  · exact idx4_3 _ _ _ _ w
theorem shl8 (r : Nat) (hr : r < 8) : IntKind.u8.wrap (2 ^ r) = ((UInt8.ofNat (2 ^ r)).toNat : Int) := by
  have : r = 0 ∨ r = 1 ∨ r = 2 ∨ r = 3 ∨ r = 4 ∨ r = 5 ∨ r = 6 ∨ r = 7 := by omega
  rcases this with rfl | rfl | rfl | rfl | rfl | rfl | rfl | rfl <;> rfl
theorem q_or8 (a b : UInt8) : bits .or .u8 (a.toNat : Int) (b.toNat : Int) = ((a ||| b).toNat : Int) := by
  have ha : a.toNat % 2 ^ 8 = a.toNat := Nat.mod_eq_of_lt a.toNat_lt
  have hb : b.toNat % 2 ^ 8 = b.toNat := Nat.mod_eq_of_lt b.toNat_lt
  have hx : a.toNat ||| b.toNat < 2 ^ 8 := Nat.or_lt_two_pow a.toNat_lt b.toNat_lt
  have e : IntKind.u8.bits = 8 := rfl
  rw [UInt8.toNat_or]
  simp only [bits, e, BitVec.ofInt_natCast, BitVec.toNat_or, BitVec.toNat_ofNat, ha, hb]
  rw [IntKind.wrap_u8]
  omega
set_option maxHeartbeats 2000000 in
theorem badd_any (k : Nat) (v : Value) (l m : List UInt8) (w : World) (h : FltAt k v l w) (hf : fitsB ((8 * l.length : Nat) : Int)) (hm : m.length = 16) :
    Calls Try.prog 9 #[ptr k, markV m] w fun e w' => e = .returned (.tuple #[]) ∧ FltAt k v (addB l m) w' ∧ Touch (fun b => v.ownBlock = some b) w w' := by
  have H := Lib.hid h
  obtain ⟨p, c, rfl, hpc, _, hpp⟩ := h.2.shape
  have l0 : 0 < l.length := by have := hf.1; omega
  have l1 : l.length ≤ 1024 := by have := hf.2.1; omega
  obtain ⟨g, rfl⟩ : ∃ g, p = some ⟨g, 0, none⟩ := by
    cases p with
    | none => rcases h.2.2 with ⟨_, h0⟩ | ⟨g, cap, cur, e, _⟩; omega; cases e
    | some a => obtain ⟨g, rfl⟩ := hpp a rfl; exact ⟨g, rfl⟩
  have HF := Lib.hid hf
  have hne := h.ne (g := g) rfl
  clear h hpp hf
  unfold markV
  go_enter Try.func9, Try.ntmps9
  go_wp2_with fail
  obtain ⟨w1, hw1⟩ : ∃ w1, w1 = w.alloc (.cells (m.map byteV).toArray 24) := ⟨_, rfl⟩
  rw [← hw1]
  have hb : w1.heap[w.heap.size]? = some (.cells (m.map byteV).toArray 24 (0, 0)) := by rw [hw1]; exact World.alloc_heap_new _ _
  have hB : Below w.heap.size w w1 := by rw [hw1]; exact (Below.refl _ _).alloc (Nat.le_refl _) _
  have h1 := H.out.below hB
  have ht1 : Touch (fun b => (Value.slice (some ⟨g, 0, none⟩) l.length c).ownBlock = some b) w w1 := Touch.of_below hB
  have lm := fun X (hX : Below w1.heap.size w1 X) => mark_whole ((hX.block _ (blk_lt hb)).trans hb) hm
  obtain ⟨hh, hhd⟩ : ∃ hh, hash8 m = hh := ⟨_, rfl⟩
  obtain ⟨n, hn⟩ : ∃ n, 8 * l.length = n := ⟨_, rfl⟩
  have hab : addB l m = addP l (hash8 m) (8 * l.length) 4 := rfl
  have a1 := fun X (hX : Below w1.heap.size w1 X) => bbits_any k _ l X (h1.below hX) (by omega)
  have a2 := fun X => bplaces_any (8 * l.length) HF.out m hm X
  rw [hn] at a1 a2 hab
  rw [hhd] at a2 hab
  unfold markV at a2
  have HNN := Lib.hid hn
  have HAB := Lib.hid hab
  clear hn hhd hab
  have A1 := Lib.hid a1
  have A2 := Lib.hid a2
  have LM := Lib.hid lm
  have H1 := Lib.hid h1
  have T1 := Lib.hid ht1
  clear a1 a2 lm h1 ht1 hb hB hw1 H
  refine wp_region_calm_lit (by kernel_rfl) (by kernel_rfl) ?_
  repeat
    first
    | (apply calm_want
       · first | rfl | (go_simp; done)
       · intro X hX
         first
         | exact calm_load rfl rfl (LM.out X hX) hX
         | (go_simp
            first
              | done
              | rfl
              | (refine ⟨trivial, ?_⟩; (first | with_reducible exact calls_calm_same hX (A1.out X hX) | with_reducible exact calls_calm hX (A2.out X)); done)
              | ((first | with_reducible exact calls_calm_same hX (A1.out X hX) | with_reducible exact calls_calm hX (A2.out X)); done))
       intro K hK
       go_simp
       refine hK _ ?_
       clear hK K)
    | (apply calm_skip
       · first | rfl | (go_simp; done)
       intro K hK
       go_simp
       refine hK _ ?_
       clear hK K)
  refine wpQuiet_nil ?_
  intro X hX
  have T2 := Lib.hid (T1.out.trans (Touch.of_below (M := fun b => (Value.slice (some ⟨g, 0, none⟩) l.length c).ownBlock = some b) hX) (fun _ _ h => h))
  have H2 := Lib.hid (H1.out.below hX)
  clear hX LM A1 A2 H1 T1
  go_wp2_with fail
  go_loopw [5, 12] (fun _ cc wr => ∃ i : Nat, i ≤ 4 ∧ cc = .int .i64 i ∧ Hid (FltAt k (.slice (some ⟨g, 0, none⟩) l.length c) (addP l hh n i) wr) ∧ Hid (Touch (fun b => (Value.slice (some ⟨g, 0, none⟩) l.length c).ownBlock = some b) w wr)) (fun _ cc _ => 4 - (intOf cc).toNat)
  case atStart => exact ⟨0, by omega, rfl, H2, T2⟩
  case round =>
    obtain ⟨i, hi, rfl, HA, HT⟩ := hrel
    by_cases hil : i < 4
    · have e1 : decide ((i : Int) < 4) = true := decide_eq_true (by omega)
      have ix := idx4 hh n i hil wr
      have hpl : plN hh n i < n := Nat.mod_lt _ (by have := HNN.out; omega)
      have hlen := addP_length l hh n i
      obtain ⟨pp, hp⟩ : ∃ pp, plN hh n i = pp := ⟨_, rfl⟩
      rw [hp] at ix hpl
      obtain ⟨q, hq⟩ : ∃ q, pp / 8 = q := ⟨_, rfl⟩
      obtain ⟨r, hr⟩ : ∃ r, pp % 8 = r := ⟨_, rfl⟩
      have hql : q < l.length := by have := HNN.out; omega
      have hr8 : r < 8 := by omega
      have f1 : (pp : Int) / 8 = (q : Int) := by omega
      have f2 : (pp : Int) % 8 = (r : Int) := by omega
      have p0 : (0 : Int) ≤ (pp : Int) := by omega
      have f3 : (pp : Int).tmod 8 = (r : Int) := by rw [Int.tmod_eq_emod_of_nonneg p0]; exact f2
      have f4 : (pp : Int).tdiv 8 = (q : Int) := by rw [Int.tdiv_eq_ediv_of_nonneg p0]; exact f1
      have sh : IntKind.u8.wrap (2 ^ r) = ((UInt8.ofNat (2 ^ r)).toNat : Int) := shl8 r hr8
      obtain ⟨y, hy⟩ : ∃ y, UInt8.ofNat (2 ^ r) = y := ⟨_, rfl⟩
      rw [hy] at sh
      have HY := Lib.hid hy
      clear hy
      have qi : (q : Int) < (l.length : Int) := by omega
      have wq : IntKind.i64.wrap (q : Int) = (q : Int) := by rw [IntKind.wrap_i64]; omega
      have lc : ∀ X, Below wr.heap.size wr X → X.cell? ⟨k, 0, none⟩ = some (.slice (some ⟨g, 0, none⟩) l.length c) := fun X hX => (HA.out.below hX).cell
      have hrr : (r : Int) < 8 := by omega
      have HQ := Lib.hid hq
      have HR := Lib.hid hr
      have HP := Lib.hid hp
      have HL := Lib.hid hlen
      clear hq hr hp hlen hpl
      have hqL : q < (addP l hh n i).length := by have := HL.out; omega
      obtain ⟨x, hx⟩ : ∃ x, (addP l hh n i)[q]? = some x := ⟨_, List.getElem?_eq_getElem hqL⟩
      have st := fun X (hX : Below wr.heap.size wr X) => OwnB.set (HA.out.below hX).2 q hx (x ||| y)
      have lg : ∀ X, Below wr.heap.size wr X → X.cell? ⟨g, q, none⟩ = some (.int .u8 (x.toNat : Int)) := fun X hX => (st X hX).2.2.2.1
      have or8 := q_or8 x y
      have HX := Lib.hid hx
      have ST := Lib.hid st
      clear hx st hqL
      go_wp2_with fail
      refine wp_region_calm_tail 13 (by kernel_rfl) (by kernel_rfl) ?_
      simp only [List.take_succ_cons, List.take_zero, List.drop_succ_cons, List.drop_zero]
      repeat
        first
        | (apply calm_want
           · first | rfl | (go_simp; done)
           · intro X hX
             go_simp
             first
               | done
               | rfl
               | (refine ⟨trivial, ?_⟩; (fail); done)
               | ((fail); done)
           intro K hK
           go_simp
           refine hK _ ?_
           clear hK K)
        | (apply calm_skip
           · first | rfl | (go_simp; done)
           intro K hK
           go_simp
           refine hK _ ?_
           clear hK K)
      refine wpQuiet_nil ?_
      intro X hX
      obtain ⟨-, -, -, hcl, hfz, hown⟩ := ST.out X hX
      have hne' : k ≠ g := hne
      have nx : addP l hh n (i + 1) = (addP l hh n i).set q (x ||| y) := by
        rw [addP_succ]
        unfold putBit
        rw [HP.out, HQ.out, HR.out, HY.out, List.getD_eq_getElem?_getD, HX.out]; rfl
      have F : FltAt k (.slice (some ⟨g, 0, none⟩) l.length c) (addP l hh n (i + 1)) (X.setCell ⟨g, q, none⟩ (byteV (x ||| y))) := by
        rw [nx]
        exact ⟨(Below.heap_setCell X ⟨g, q, none⟩ _ k hne').trans ((HA.out.below hX).1), hown⟩
      have TT : Touch (fun b => (Value.slice (some ⟨g, 0, none⟩) l.length c).ownBlock = some b) w (X.setCell ⟨g, q, none⟩ (byteV (x ||| y))) := ((HT.out.trans (Touch.of_below (M := fun b => (Value.slice (some ⟨g, 0, none⟩) l.length c).ownBlock = some b) hX) (fun _ _ h => h))).set g q _ (.inl rfl)
      have FF := Lib.hid F
      have TTT := Lib.hid TT
      clear F TT nx hown ST lg lc
      go_wp2_with fail
      go_roundw
      case rel => exact ⟨i + 1, by omega, by go_num, FF, TTT⟩
      case measure => simp [intOf]; omega
    · have e1 : decide ((i : Int) < 4) = false := decide_eq_false (by omega)
      obtain rfl : i = 4 := by omega
      go_wp2_with fail
      go_end0
      exact ⟨rfl, by rw [HAB.out]; exact HA.out, HT.out⟩
end Go.Proofs.Ytehfinjcfjobeaa
