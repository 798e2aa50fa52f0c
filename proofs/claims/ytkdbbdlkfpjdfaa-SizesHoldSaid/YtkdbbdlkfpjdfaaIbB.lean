/- Sketches: new ones, marks put in and out.
   Conditions: those that each theorem names. -/
import Derived.Test.YtkdbbdlkfpjdfaaIbA
namespace Go.Proofs.Ytkdbbdlkfpjdfaa
set_option maxRecDepth 100000
set_option linter.unusedVariables false
set_option linter.unusedSimpArgs false
open Go.RowKit Go.Rg
attribute [local go_sem] Rg.q_add Rg.q_add' Rg.q_xor Rg.q_or Rg.q_and markV cellV
def Oks (cs : List Ce) : Prop := ∀ c ∈ cs, c.ok
theorem Oks.all16 {cs : List Ce} (h : Oks cs) : All16 cs := fun c hc => (h c hc).m
structure SkAt (k : Nat) (v : Value) (cs : List Ce) (X : World) : Prop where
  b : X.heap[k]? = some (.cells #[v] 118 (0, 0))
  o : OwnV 26 18 X v (rawC cs)
  ok : Oks cs
theorem SkAt.lt {k : Nat} {v : Value} {cs : List Ce} {X : World} (h : SkAt k v cs X) : k < X.heap.size := blk_lt h.b
theorem SkAt.kept {k : Nat} {v : Value} {cs : List Ce} {X Y : World} (h : SkAt k v cs X) (h1 : Y.heap[k]? = X.heap[k]?) (h2 : ∀ g, v.ownBlock = some g → Y.heap[g]? = X.heap[g]?) : SkAt k v cs Y := ⟨h1.trans h.b, h.o.kept h2, h.ok⟩
theorem SkAt.below {k : Nat} {v : Value} {cs : List Ce} {X Y : World} (h : SkAt k v cs X) (hB : Below X.heap.size X Y) : SkAt k v cs Y := h.kept (hB.block _ h.lt) (fun g hg => hB.block _ (h.o.lt hg))
theorem SkAt.touch {k : Nat} {v : Value} {cs : List Ce} {X Y : World} {M : Nat → Prop} (h : SkAt k v cs X) (hT : Touch M X Y) (h1 : ¬ M k) (h2 : ∀ g, v.ownBlock = some g → ¬ M g) : SkAt k v cs Y := h.kept (hT.block _ h.lt h1) (fun g hg => hT.block _ (h.o.lt hg) (h2 g hg))
theorem SkAt.cell {k : Nat} {v : Value} {cs : List Ce} {X : World} (h : SkAt k v cs X) : X.cell? ⟨k, 0, none⟩ = some v := by
  have := cell_at (cs := [v]) h.b 0
  simpa using this
theorem SkAt.shape {k : Nat} {v : Value} {cs : List Ce} {X : World} (h : SkAt k v cs X) : ∃ p c, v = .slice p cs.length c ∧ cs.length ≤ c := by
  obtain ⟨p, c, e, h1, _, _⟩ := h.o.shape
  rw [rawC_length] at e h1
  exact ⟨p, c, e, h1⟩
theorem SkAt.row {k : Nat} {cs : List Ce} {X : World} {p : Option Addr} {n c : Nat} (h : SkAt k (.slice p n c) cs X) (h0 : 0 < cs.length) : ∃ g, p = some ⟨g, 0, none⟩ ∧ k ≠ g := by
  obtain ⟨p', c', e, _, h1, h2⟩ := h.o.shape
  cases e
  cases p with
  | none => have e := congrArg List.length (h1 rfl).1; rw [rawC_length] at e; simp only [List.length_nil] at e; omega
  | some a =>
    obtain ⟨g, rfl⟩ := h2 a rfl
    refine ⟨g, rfl, fun e => ?_⟩
    obtain ⟨c, hc⟩ := row_block h.o.2 (g := g) rfl
    subst e
    rw [h.b] at hc
    injection hc with hc
    injection hc with _ ht
    exact absurd ht (by decide)
theorem SkAt.at {k : Nat} {v : Value} {cs : List Ce} {X : World} (h : SkAt k v cs X) : CellsAt X v cs := cellsAt_iff.2 h.o.at
theorem SkAt.load {k g n c : Nat} {cs : List Ce} {X : World} (h : SkAt k (.slice (some ⟨g, 0, none⟩) n c) cs X) {p : Nat} {x : Ce} (hp : cs[p]? = some x) : (Instr.loadAt 26 (.pointer (some ⟨g, p * 18, none⟩))).run Try.prog X = .ok (.agg x.vals.toArray) X := by
  obtain ⟨q, cap, e, _, hf⟩ := h.at
  cases e
  obtain ⟨g', o, e, _, hr⟩ := hf p x hp
  cases e
  have := cell_load hr (h.ok x (List.mem_of_getElem? hp)).m
  rwa [Nat.zero_add] at this
theorem rawC_set (cs : List Ce) (p : Nat) (x : Ce) : rawC (cs.set p x) = (rawC cs).set p x.vals := by unfold rawC; rw [List.map_set]
theorem SkAt.store {k g n c : Nat} {cs : List Ce} {X : World} (h : SkAt k (.slice (some ⟨g, 0, none⟩) n c) cs X) (hkg : k ≠ g) {p : Nat} (hp : p < cs.length) {x : Ce} (hx : x.ok) :
    (Instr.storeAt 26 (.pointer (some ⟨g, p * 18, none⟩)) (.agg x.vals.toArray)).run Try.prog X = .ok () (X.setCells g (p * 18) x.vals) ∧ SkAt k (.slice (some ⟨g, 0, none⟩) n c) (cs.set p x) (X.setCells g (p * 18) x.vals) := by
  obtain ⟨_, hg, ht, ho⟩ := h.o.store rfl (i := p) (by rw [rawC_length]; exact hp) (c := x.vals) (x.vals_length hx.m) x.one
  have h18 := x.vals_length hx.m
  refine ⟨run_storeAt_mid X g (p * 18) 26 x.vals.toArray (by rw [List.size_toArray, h18]; exact ht) (by rw [List.size_toArray, h18]; kernel_rfl) (all_oneCell_toArray x.one), ?_⟩
  refine ⟨(heap_setCells_ne _ _ _ _ _ hkg).trans h.b, by rw [rawC_set]; exact ho, fun y hy => ?_⟩
  rcases List.mem_or_eq_of_mem_set hy with h' | rfl
  · exact h.ok y h'
  · exact hx
theorem rawC_zeros (n : Nat) : (rawC (List.replicate n Ce.zero)).flatten = flatC (List.replicate n Ce.zero) := by unfold rawC flatC; rw [List.flatMap_def]
theorem oks_zeros (n : Nat) : Oks (List.replicate n Ce.zero) := fun c hc => by rw [(List.mem_replicate.1 hc).2]; exact Ce.zero_ok
set_option maxHeartbeats 1000000 in
theorem cnew_yes (n : Nat) (h : fitsC (n : Int)) (w : World) : Calls Try.prog 34 #[.int .i64 (n : Int)] w fun e w' => ∃ k v, e = .returned (.tuple #[ptr k, .int .i64 0]) ∧ SkAt k v (List.replicate n Ce.zero) w' ∧ w.heap.size ≤ k ∧ (∀ g, v.ownBlock = some g → w.heap.size ≤ g) ∧ Below w.heap.size w w' := by
  have hn : n ≤ 1000000000 := by have := h.2.1; omega
  have mk := make_cells n hn w
  go_enter Try.func34, Try.ntmps34
  go_wp2_with fail
  refine (cfits_yes (n : Int) h _).mono ?_
  rintro e w' ⟨rfl, rfl⟩
  go_wp2_with (first | (refine wpList_msl_at rfl rfl rfl rfl mk ?_))
  go_ret2
  have hs : Sized 18 (rawC (List.replicate n Ce.zero)) := rawC_sized (oks_zeros n).all16
  have ho := OwnV.made 26 18 w (rawC (List.replicate n Ce.zero)) hs (by rw [rawC_length, List.length_replicate]; unfold maxLen; omega)
  rw [rawC_zeros, rawC_length, List.length_replicate] at ho
  refine ⟨w.heap.size + 1, .slice (some ⟨w.heap.size, 0, none⟩) n n, rfl, ⟨?_, ho.kept (fun g hg => Below.heap_alloc _ _ _ (ho.lt hg)), oks_zeros n⟩, by omega, fun g hg => by cases hg; exact Nat.le_refl _, ((Below.refl _ _).alloc (Nat.le_refl _) _).alloc (by simp) _⟩
  have := World.alloc_heap_new (w.alloc (.cells (flatC (List.replicate n Ce.zero)).toArray 26)) (.cells #[.slice (some ⟨w.heap.size, 0, none⟩) n n] 118)
  simpa using this
theorem cnew_no (n : Int) (h : ¬ fitsC n) (w : World) : Calls Try.prog 34 #[.int .i64 n] w fun e w' => e = .returned (.tuple #[.pointer none, .int .i64 2]) ∧ w = w' := by
  go_enter Try.func34, Try.ntmps34
  go_wp2_with fail
  refine (cfits_no n h _).mono ?_
  rintro e w' ⟨rfl, rfl⟩
  go_wp2_with fail
  go_ret2
  exact ⟨rfl, rfl⟩
theorem csize_any (k : Nat) (v : Value) (cs : List Ce) (w : World) (h : SkAt k v cs w) : Calls Try.prog 39 #[ptr k] w fun e w' => e = .returned (.int .i64 (cs.length : Int)) ∧ w = w' := by
  obtain ⟨p, c, rfl, _⟩ := h.shape
  have hc := h.cell
  clear h
  go_enter Try.func39, Try.ntmps39
  go_wp2_with fail
  go_ret
  exact ⟨rfl, rfl⟩
theorem csize_nil (w : World) : Calls Try.prog 39 #[.pointer none] w fun e w' => e = .returned (.int .i64 0) ∧ w = w' := by
  go_enter Try.func39, Try.ntmps39
  go_wp2_with fail
  go_ret
  exact ⟨rfl, rfl⟩
/-! ### A mark in its places -/
def putP (f : Ce → Ce → Ce) (cs : List Ce) (x : Ce) (h : UInt64) (t i : Nat) : List Ce := ((List.range i).map (pcN h t)).foldl (fun cs p => cs.set p (f (cs.getD p Ce.zero) x)) cs
theorem putP_succ (f : Ce → Ce → Ce) (cs : List Ce) (x : Ce) (h : UInt64) (t i : Nat) : putP f cs x h t (i + 1) = (putP f cs x h t i).set (pcN h t i) (f ((putP f cs x h t i).getD (pcN h t i) Ce.zero) x) := by
  unfold putP
  rw [List.range_succ, List.map_append, List.foldl_append]; rfl
theorem putP_length (f : Ce → Ce → Ce) (cs : List Ce) (x : Ce) (h : UInt64) (t : Nat) : ∀ i, (putP f cs x h t i).length = cs.length
  | 0 => rfl
  | i + 1 => by rw [putP_succ, List.length_set, putP_length f cs x h t i]
def putC (f : Ce → Ce → Ce) (cs : List Ce) (m : List UInt8) : List Ce := putP f cs (Ce.of m) (hash4 m) (cs.length / 3) 3
theorem putC_length (f : Ce → Ce → Ce) (cs : List Ce) (m : List UInt8) : (putC f cs m).length = cs.length := putP_length _ _ _ _ _ _
theorem idx3_0 (a b c : Int) (w : World) : (Instr.index 64 (.agg #[.int .i64 a, .int .i64 b, .int .i64 c]) (.int .i64 0)).run Try.prog w = .ok (.int .i64 a) w := by kernel_rfl
theorem idx3_1 (a b c : Int) (w : World) : (Instr.index 64 (.agg #[.int .i64 a, .int .i64 b, .int .i64 c]) (.int .i64 1)).run Try.prog w = .ok (.int .i64 b) w := by kernel_rfl
theorem idx3_2 (a b c : Int) (w : World) : (Instr.index 64 (.agg #[.int .i64 a, .int .i64 b, .int .i64 c]) (.int .i64 2)).run Try.prog w = .ok (.int .i64 c) w := by kernel_rfl
theorem idx3 (h : UInt64) (t i : Nat) (hi : i < 3) (w : World) : (Instr.index 64 (.agg (pcV h t).toArray) (.int .i64 (i : Int))).run Try.prog w = .ok (.int .i64 (pcN h t i : Int)) w := by
  have : i = 0 ∨ i = 1 ∨ i = 2 := by omega
  rcases this with rfl | rfl | rfl
  · exact idx3_0 _ _ _ w
  · exact idx3_1 _ _ _ w
  · exact idx3_2 _ _ _ w
theorem pcN_lt (h : UInt64) (t i : Nat) (ht : 0 < t) (hi : i < 3) : pcN h t i < 3 * t := by
  have := Nat.mod_lt (h.toNat / 2 ^ (21 * i) % 2097152) ht
  unfold pcN
  have h2 : i * t ≤ 2 * t := Nat.mul_le_mul_right t (by omega)
  omega
set_option maxHeartbeats 2000000 in
theorem cadd_any (k : Nat) (v : Value) (cs : List Ce) (m : List UInt8) (w : World) (h : SkAt k v cs w) (hf : fitsC (cs.length : Int)) (hm : m.length = 16) :
    Calls Try.prog 49 #[ptr k, markV m] w fun e w' => (∃ v, e = .returned v) ∧ SkAt k v (putC Ce.add cs m) w' ∧ Touch (fun b => v.ownBlock = some b) w w' := by
  have H := Lib.hid h
  obtain ⟨p, c, rfl, hpc⟩ := h.shape
  obtain ⟨t, ht⟩ : ∃ t, cs.length = 3 * t := ⟨cs.length / 3, by have := hf.2.2; omega⟩
  have t1 : 1 ≤ t := by have := hf.1; omega
  have t2 : t ≤ 512 := by have := hf.2.1; omega
  obtain ⟨g, rfl, hkg⟩ := h.row (by omega)
  have hput : putC Ce.add cs m = putP Ce.add cs (Ce.of m) (hash4 m) t 3 := by unfold putC; rw [ht, show 3 * t / 3 = t by omega]
  rw [hput]
  have hf3 : fitsC ((3 * t : Nat) : Int) := by rw [← ht]; exact hf
  have HT := Lib.hid ht
  have HMM := Lib.hid hm
  clear h hput hf ht hm
  unfold markV
  go_enter Try.func49, Try.ntmps49
  obtain ⟨w1, hw1⟩ : ∃ w1, w1 = w.alloc (.cells (m.map byteV).toArray 23) := ⟨_, rfl⟩
  have hb : w1.heap[w.heap.size]? = some (.cells (m.map byteV).toArray 23 (0, 0)) := by rw [hw1]; exact World.alloc_heap_new _ _
  have hB : Below w.heap.size w w1 := by rw [hw1]; exact (Below.refl _ _).alloc (Nat.le_refl _) _
  have h1 := H.out.below hB
  have ht1 : Touch (fun b => (Value.slice (some ⟨g, 0, none⟩) cs.length c).ownBlock = some b) w w1 := Touch.of_below hB
  have lm := mark_whole hb HMM.out
  rw [hw1] at lm
  have HW1 := Lib.hid hw1
  have HB1 := Lib.hid hb
  have H1 := Lib.hid h1
  have T1 := Lib.hid ht1
  clear hw1 hb h1 ht1 hB H
  go_wp2_with (first | (refine wpList_load_at rfl _ _ rfl rfl (lm) ?_))
  rw [← HW1.out]
  clear lm HW1
  refine (of_any m HMM.out w1).mono ?_
  rintro e w2 ⟨rfl, hB2⟩
  obtain ⟨x, hx⟩ : ∃ x, Ce.of m = x := ⟨_, rfl⟩
  have xok : x.ok := hx ▸ Ce.of_ok HMM.out
  rw [hx]
  have HXD := Lib.hid hx
  clear hx
  obtain ⟨a1, a2⟩ := (zero_at (w := w2) (T := 26)).store (c := x) rfl xok.m
  have hB3 : Below w2.heap.size w2 ((w2.alloc (.cells zeroCells 26)).setCells w2.heap.size 0 x.vals) := Below.setCells ((Below.refl _ _).alloc (Nat.le_refl _) _) _ _ _ (Nat.le_refl _)
  have hB13 : Below w1.heap.size w1 ((w2.alloc (.cells zeroCells 26)).setCells w2.heap.size 0 x.vals) := hB2.trans (hB3.mono hB2.size)
  have hz3 : w2.heap.size < ((w2.alloc (.cells zeroCells 26)).setCells w2.heap.size 0 x.vals).heap.size := by rw [size_setCells]; simp
  have h3 := H1.out.below hB13
  have hb3 := (hB13.block _ (blk_lt HB1.out)).trans HB1.out
  have t3 := T1.out.trans (Touch.of_below (M := fun b => (Value.slice (some ⟨g, 0, none⟩) cs.length c).ownBlock = some b) hB13) (fun _ _ h => h)
  have hgl : g < w2.heap.size := Nat.lt_of_lt_of_le (H1.out.o.lt rfl) hB2.size
  have A2 := Lib.hid a2
  have H3 := Lib.hid h3
  have B3 := Lib.hid hb3
  have T3 := Lib.hid t3
  clear a2 h3 hb3 t3 hB3 hB13 hB2 H1 HB1 T1
  go_wp2_with (first | (refine wpList_store_at rfl _ _ _ rfl rfl rfl (a1) ?_))
  clear a1
  generalize (w2.alloc (.cells zeroCells 26)).setCells w2.heap.size 0 x.vals = w3 at *
  generalize w2.heap.size = kx at *
  obtain ⟨hh, hhd⟩ : ∃ hh, hash4 m = hh := ⟨_, rfl⟩
  have ck := fun X (hX : Below w3.heap.size w3 X) => (H3.out.below hX).cell
  have lm := fun X (hX : Below w3.heap.size w3 X) => mark_whole ((hX.block _ (blk_lt B3.out)).trans B3.out) HMM.out
  have a3 := fun X => cplaces_any t hf3 m HMM.out X
  rw [hhd, ← HT.out] at a3
  unfold markV at a3
  have A3 := Lib.hid a3
  have LM := Lib.hid lm
  have HHD := Lib.hid hhd
  clear a3 lm hhd hf3 B3
  refine wp_region_calm_lit (by kernel_rfl) (by kernel_rfl) ?_
  repeat
    first
    | (apply calm_want
       · first | rfl | (go_simp; done)
       · intro X hX
         first
         | exact calm_load rfl rfl (LM.out X hX) hX
         | (go_simp
            first
              | done
              | rfl
              | (refine ⟨trivial, ?_⟩; (with_reducible exact calls_calm hX (A3.out X)); done)
              | ((with_reducible exact calls_calm hX (A3.out X)); done))
       intro K hK
       go_simp
       refine hK _ ?_
       clear hK K)
    | (apply calm_skip
       · first | rfl | (go_simp; done)
       intro K hK
       go_simp
       refine hK _ ?_
       clear hK K)
  refine wpQuiet_nil ?_
  intro X hX
  have T4 := Lib.hid (T3.out.trans (Touch.of_below (M := fun b => (Value.slice (some ⟨g, 0, none⟩) cs.length c).ownBlock = some b) hX) (fun _ _ h => h))
  have H4 := Lib.hid (H3.out.below hX)
  have A4 := Lib.hid (A2.out.below hX (blk_lt A2.out))
  have hkX : kx < X.heap.size := Nat.lt_of_lt_of_le hz3 hX.size
  clear hX LM A3 H3 T3 A2 ck
  go_wp2_with fail
  go_loopw [6, 18] (fun _ cc wr => ∃ i : Nat, i ≤ 3 ∧ cc = .int .i64 i ∧ Hid (SkAt k (.slice (some ⟨g, 0, none⟩) cs.length c) (putP Ce.add cs x hh t i) wr) ∧ Hid (CellAt kx 26 x wr) ∧ Hid (Touch (fun b => (Value.slice (some ⟨g, 0, none⟩) cs.length c).ownBlock = some b) w wr)) (fun _ cc _ => 3 - (intOf cc).toNat)
  case atStart => exact ⟨0, by omega, rfl, H4, A4, T4⟩
  case round =>
    obtain ⟨i, hi, rfl, HA, HX, HT2⟩ := hrel
    by_cases hil : i < 3
    · have e1 : decide ((i : Int) < 3) = true := decide_eq_true (by omega)
      have e3 : (i : Int) < 3 := by omega
      have ix := idx3 hh t i hil wr
      have hpl := pcN_lt hh t i (by omega) hil
      have hlen := putP_length Ce.add cs x hh t i
      have hsu := putP_succ Ce.add cs x hh t i
      obtain ⟨pp, hp⟩ : ∃ pp, pcN hh t i = pp := ⟨_, rfl⟩
      rw [hp] at ix hpl hsu
      rw [← HT.out] at hpl
      obtain ⟨L, hL⟩ : ∃ L, putP Ce.add cs x hh t i = L := ⟨_, rfl⟩
      rw [hL] at HA hlen hsu
      obtain ⟨y, hy⟩ : ∃ y, L[pp]? = some y := ⟨_, List.getElem?_eq_getElem (by omega)⟩
      rw [List.getD_eq_getElem?_getD, hy] at hsu
      have yok := HA.out.ok y (List.mem_of_getElem? hy)
      have zok := Ce.add_ok yok xok
      have pi : (pp : Int) < (cs.length : Int) := by omega
      have p0 : (0 : Int) ≤ (pp : Int) := by omega
      have wp : IntKind.i64.wrap (pp : Int) = (pp : Int) := by have := HT.out; rw [IntKind.wrap_i64]; omega
      have lc : ∀ X, Below wr.heap.size wr X → X.cell? ⟨k, 0, none⟩ = some (.slice (some ⟨g, 0, none⟩) cs.length c) := fun X hX => (HA.out.below hX).cell
      have l1 := fun X (hX : Below wr.heap.size wr X) => (HA.out.below hX).load hy
      have l2 := fun X (hX : Below wr.heap.size wr X) => (HX.out.below hX (blk_lt HX.out)).whole xok.m
      have ad := fun X => add_any y x yok xok X
      have st := fun X (hX : Below wr.heap.size wr X) => (HA.out.below hX).store hkg (p := pp) (by omega) zok
      unfold cellV at ad
      have L1 := Lib.hid l1
      have L2 := Lib.hid l2
      have AD := Lib.hid ad
      have ST := Lib.hid st
      have HSU := Lib.hid hsu
      have HXX := Lib.hid (HX.out)
      clear l1 l2 ad st hsu hy hL hlen hp HA
      go_wp2_with fail
      refine wp_region_calm_tail 15 (by kernel_rfl) (by kernel_rfl) ?_
      simp only [List.take_succ_cons, List.take_zero, List.drop_succ_cons, List.drop_zero]
      repeat
        first
        | (apply calm_want
           · first | rfl | (go_simp; done)
           · intro X hX
             first
             | exact calm_load rfl rfl (L1.out X hX) hX
             | exact calm_load rfl rfl (L2.out X hX) hX
             | (go_simp
                first
                  | done
                  | rfl
                  | (refine ⟨trivial, ?_⟩; (with_reducible exact calls_calm hX (AD.out X)); done)
                  | ((with_reducible exact calls_calm hX (AD.out X)); done))
           intro K hK
           go_simp
           refine hK _ ?_
           clear hK K)
        | (apply calm_skip
           · first | rfl | (go_simp; done)
           intro K hK
           go_simp
           refine hK _ ?_
           clear hK K)
      refine wpQuiet_nil ?_
      intro X hX
      obtain ⟨s1, s2⟩ := ST.out X hX
      have x2 : CellAt kx 26 x (X.setCells g (pp * 18) (y.add x).vals) := (heap_setCells_ne _ _ _ _ _ (by omega)).trans (HX.out.below hX (blk_lt HX.out))
      have TT : Touch (fun b => (Value.slice (some ⟨g, 0, none⟩) cs.length c).ownBlock = some b) w (X.setCells g (pp * 18) (y.add x).vals) := (HT2.out.trans (Touch.of_below (M := fun b => (Value.slice (some ⟨g, 0, none⟩) cs.length c).ownBlock = some b) hX) (fun _ _ h => h)).setCells g _ _ (.inl rfl)
      have S2 := Lib.hid s2
      have X2 := Lib.hid x2
      have TTT := Lib.hid TT
      clear s2 x2 TT ST L1 L2 AD lc
      go_wp2_with (first | (refine wpList_store_at rfl _ _ _ rfl rfl rfl (s1) ?_))
      go_roundw
      case rel => exact ⟨i + 1, by omega, by go_num, by rw [HSU.out]; exact S2, X2, TTT⟩
      case measure => simp [intOf]; omega
    · have e1 : decide ((i : Int) < 3) = false := decide_eq_false (by omega)
      obtain rfl : i = 3 := by omega
      go_wp2_with fail
      go_end0
      have hfin := HA.out
      rw [← HXD.out, ← HHD.out] at hfin
      exact ⟨⟨_, rfl⟩, hfin, HT2.out⟩
theorem cadd_nil (m : List UInt8) (w : World) : Calls Try.prog 49 #[.pointer none, markV m] w fun e w' => (∃ v, e = .returned v) ∧ Below w.heap.size w w' := by
  unfold markV
  go_enter Try.func49, Try.ntmps49
  go_wp2_with fail
  refine bodyPost_ret (results_none rfl _ _ _) rfl ?_
  exact ⟨⟨_, rfl⟩, (Below.refl _ _).alloc (Nat.le_refl _) _⟩
set_option maxHeartbeats 2000000 in
theorem cremove_any (k : Nat) (v : Value) (cs : List Ce) (m : List UInt8) (w : World) (h : SkAt k v cs w) (hf : fitsC (cs.length : Int)) (hm : m.length = 16) :
    Calls Try.prog 47 #[ptr k, markV m] w fun e w' => (∃ v, e = .returned v) ∧ SkAt k v (putC Ce.sub cs m) w' ∧ Touch (fun b => v.ownBlock = some b) w w' := by
  have H := Lib.hid h
  obtain ⟨p, c, rfl, hpc⟩ := h.shape
  obtain ⟨t, ht⟩ : ∃ t, cs.length = 3 * t := ⟨cs.length / 3, by have := hf.2.2; omega⟩
  have t1 : 1 ≤ t := by have := hf.1; omega
  have t2 : t ≤ 512 := by have := hf.2.1; omega
  obtain ⟨g, rfl, hkg⟩ := h.row (by omega)
  have hput : putC Ce.sub cs m = putP Ce.sub cs (Ce.of m) (hash4 m) t 3 := by unfold putC; rw [ht, show 3 * t / 3 = t by omega]
  rw [hput]
  have hf3 : fitsC ((3 * t : Nat) : Int) := by rw [← ht]; exact hf
  have HT := Lib.hid ht
  have HMM := Lib.hid hm
  clear h hput hf ht hm
  unfold markV
  go_enter Try.func47, Try.ntmps47
  obtain ⟨w1, hw1⟩ : ∃ w1, w1 = w.alloc (.cells (m.map byteV).toArray 23) := ⟨_, rfl⟩
  have hb : w1.heap[w.heap.size]? = some (.cells (m.map byteV).toArray 23 (0, 0)) := by rw [hw1]; exact World.alloc_heap_new _ _
  have hB : Below w.heap.size w w1 := by rw [hw1]; exact (Below.refl _ _).alloc (Nat.le_refl _) _
  have h1 := H.out.below hB
  have ht1 : Touch (fun b => (Value.slice (some ⟨g, 0, none⟩) cs.length c).ownBlock = some b) w w1 := Touch.of_below hB
  have lm := mark_whole hb HMM.out
  rw [hw1] at lm
  have HW1 := Lib.hid hw1
  have HB1 := Lib.hid hb
  have H1 := Lib.hid h1
  have T1 := Lib.hid ht1
  clear hw1 hb h1 ht1 hB H
  go_wp2_with (first | (refine wpList_load_at rfl _ _ rfl rfl (lm) ?_))
  rw [← HW1.out]
  clear lm HW1
  refine (of_any m HMM.out w1).mono ?_
  rintro e w2 ⟨rfl, hB2⟩
  obtain ⟨x, hx⟩ : ∃ x, Ce.of m = x := ⟨_, rfl⟩
  have xok : x.ok := hx ▸ Ce.of_ok HMM.out
  rw [hx]
  have HXD := Lib.hid hx
  clear hx
  obtain ⟨a1, a2⟩ := (zero_at (w := w2) (T := 26)).store (c := x) rfl xok.m
  have hB3 : Below w2.heap.size w2 ((w2.alloc (.cells zeroCells 26)).setCells w2.heap.size 0 x.vals) := Below.setCells ((Below.refl _ _).alloc (Nat.le_refl _) _) _ _ _ (Nat.le_refl _)
  have hB13 : Below w1.heap.size w1 ((w2.alloc (.cells zeroCells 26)).setCells w2.heap.size 0 x.vals) := hB2.trans (hB3.mono hB2.size)
  have hz3 : w2.heap.size < ((w2.alloc (.cells zeroCells 26)).setCells w2.heap.size 0 x.vals).heap.size := by rw [size_setCells]; simp
  have h3 := H1.out.below hB13
  have hb3 := (hB13.block _ (blk_lt HB1.out)).trans HB1.out
  have t3 := T1.out.trans (Touch.of_below (M := fun b => (Value.slice (some ⟨g, 0, none⟩) cs.length c).ownBlock = some b) hB13) (fun _ _ h => h)
  have hgl : g < w2.heap.size := Nat.lt_of_lt_of_le (H1.out.o.lt rfl) hB2.size
  have A2 := Lib.hid a2
  have H3 := Lib.hid h3
  have B3 := Lib.hid hb3
  have T3 := Lib.hid t3
  clear a2 h3 hb3 t3 hB3 hB13 hB2 H1 HB1 T1
  go_wp2_with (first | (refine wpList_store_at rfl _ _ _ rfl rfl rfl (a1) ?_))
  clear a1
  generalize (w2.alloc (.cells zeroCells 26)).setCells w2.heap.size 0 x.vals = w3 at *
  generalize w2.heap.size = kx at *
  obtain ⟨hh, hhd⟩ : ∃ hh, hash4 m = hh := ⟨_, rfl⟩
  have ck := fun X (hX : Below w3.heap.size w3 X) => (H3.out.below hX).cell
  have lm := fun X (hX : Below w3.heap.size w3 X) => mark_whole ((hX.block _ (blk_lt B3.out)).trans B3.out) HMM.out
  have a3 := fun X => cplaces_any t hf3 m HMM.out X
  rw [hhd, ← HT.out] at a3
  unfold markV at a3
  have A3 := Lib.hid a3
  have LM := Lib.hid lm
  have HHD := Lib.hid hhd
  clear a3 lm hhd hf3 B3
  refine wp_region_calm_lit (by kernel_rfl) (by kernel_rfl) ?_
  repeat
    first
    | (apply calm_want
       · first | rfl | (go_simp; done)
       · intro X hX
         first
         | exact calm_load rfl rfl (LM.out X hX) hX
         | (go_simp
            first
              | done
              | rfl
              | (refine ⟨trivial, ?_⟩; (with_reducible exact calls_calm hX (A3.out X)); done)
              | ((with_reducible exact calls_calm hX (A3.out X)); done))
       intro K hK
       go_simp
       refine hK _ ?_
       clear hK K)
    | (apply calm_skip
       · first | rfl | (go_simp; done)
       intro K hK
       go_simp
       refine hK _ ?_
       clear hK K)
  refine wpQuiet_nil ?_
  intro X hX
  have T4 := Lib.hid (T3.out.trans (Touch.of_below (M := fun b => (Value.slice (some ⟨g, 0, none⟩) cs.length c).ownBlock = some b) hX) (fun _ _ h => h))
  have H4 := Lib.hid (H3.out.below hX)
  have A4 := Lib.hid (A2.out.below hX (blk_lt A2.out))
  have hkX : kx < X.heap.size := Nat.lt_of_lt_of_le hz3 hX.size
  clear hX LM A3 H3 T3 A2 ck
  go_wp2_with fail
  go_loopw [6, 18] (fun _ cc wr => ∃ i : Nat, i ≤ 3 ∧ cc = .int .i64 i ∧ Hid (SkAt k (.slice (some ⟨g, 0, none⟩) cs.length c) (putP Ce.sub cs x hh t i) wr) ∧ Hid (CellAt kx 26 x wr) ∧ Hid (Touch (fun b => (Value.slice (some ⟨g, 0, none⟩) cs.length c).ownBlock = some b) w wr)) (fun _ cc _ => 3 - (intOf cc).toNat)
  case atStart => exact ⟨0, by omega, rfl, H4, A4, T4⟩
  case round =>
    obtain ⟨i, hi, rfl, HA, HX, HT2⟩ := hrel
    by_cases hil : i < 3
    · have e1 : decide ((i : Int) < 3) = true := decide_eq_true (by omega)
      have e3 : (i : Int) < 3 := by omega
      have ix := idx3 hh t i hil wr
      have hpl := pcN_lt hh t i (by omega) hil
      have hlen := putP_length Ce.sub cs x hh t i
      have hsu := putP_succ Ce.sub cs x hh t i
      obtain ⟨pp, hp⟩ : ∃ pp, pcN hh t i = pp := ⟨_, rfl⟩
      rw [hp] at ix hpl hsu
      rw [← HT.out] at hpl
      obtain ⟨L, hL⟩ : ∃ L, putP Ce.sub cs x hh t i = L := ⟨_, rfl⟩
      rw [hL] at HA hlen hsu
      obtain ⟨y, hy⟩ : ∃ y, L[pp]? = some y := ⟨_, List.getElem?_eq_getElem (by omega)⟩
      rw [List.getD_eq_getElem?_getD, hy] at hsu
      have yok := HA.out.ok y (List.mem_of_getElem? hy)
      have zok := Ce.sub_ok yok xok
      have pi : (pp : Int) < (cs.length : Int) := by omega
      have p0 : (0 : Int) ≤ (pp : Int) := by omega
      have wp : IntKind.i64.wrap (pp : Int) = (pp : Int) := by have := HT.out; rw [IntKind.wrap_i64]; omega
      have lc : ∀ X, Below wr.heap.size wr X → X.cell? ⟨k, 0, none⟩ = some (.slice (some ⟨g, 0, none⟩) cs.length c) := fun X hX => (HA.out.below hX).cell
      have l1 := fun X (hX : Below wr.heap.size wr X) => (HA.out.below hX).load hy
      have l2 := fun X (hX : Below wr.heap.size wr X) => (HX.out.below hX (blk_lt HX.out)).whole xok.m
      have ad := fun X => sub_any y x yok xok X
      have st := fun X (hX : Below wr.heap.size wr X) => (HA.out.below hX).store hkg (p := pp) (by omega) zok
      unfold cellV at ad
      have L1 := Lib.hid l1
      have L2 := Lib.hid l2
      have AD := Lib.hid ad
      have ST := Lib.hid st
      have HSU := Lib.hid hsu
      have HXX := Lib.hid (HX.out)
      clear l1 l2 ad st hsu hy hL hlen hp HA
      go_wp2_with fail
      refine wp_region_calm_tail 15 (by kernel_rfl) (by kernel_rfl) ?_
      simp only [List.take_succ_cons, List.take_zero, List.drop_succ_cons, List.drop_zero]
      repeat
        first
        | (apply calm_want
           · first | rfl | (go_simp; done)
           · intro X hX
             first
             | exact calm_load rfl rfl (L1.out X hX) hX
             | exact calm_load rfl rfl (L2.out X hX) hX
             | (go_simp
                first
                  | done
                  | rfl
                  | (refine ⟨trivial, ?_⟩; (with_reducible exact calls_calm hX (AD.out X)); done)
                  | ((with_reducible exact calls_calm hX (AD.out X)); done))
           intro K hK
           go_simp
           refine hK _ ?_
           clear hK K)
        | (apply calm_skip
           · first | rfl | (go_simp; done)
           intro K hK
           go_simp
           refine hK _ ?_
           clear hK K)
      refine wpQuiet_nil ?_
      intro X hX
      obtain ⟨s1, s2⟩ := ST.out X hX
      have x2 : CellAt kx 26 x (X.setCells g (pp * 18) (y.sub x).vals) := (heap_setCells_ne _ _ _ _ _ (by omega)).trans (HX.out.below hX (blk_lt HX.out))
      have TT : Touch (fun b => (Value.slice (some ⟨g, 0, none⟩) cs.length c).ownBlock = some b) w (X.setCells g (pp * 18) (y.sub x).vals) := (HT2.out.trans (Touch.of_below (M := fun b => (Value.slice (some ⟨g, 0, none⟩) cs.length c).ownBlock = some b) hX) (fun _ _ h => h)).setCells g _ _ (.inl rfl)
      have S2 := Lib.hid s2
      have X2 := Lib.hid x2
      have TTT := Lib.hid TT
      clear s2 x2 TT ST L1 L2 AD lc
      go_wp2_with (first | (refine wpList_store_at rfl _ _ _ rfl rfl rfl (s1) ?_))
      go_roundw
      case rel => exact ⟨i + 1, by omega, by go_num, by rw [HSU.out]; exact S2, X2, TTT⟩
      case measure => simp [intOf]; omega
    · have e1 : decide ((i : Int) < 3) = false := decide_eq_false (by omega)
      obtain rfl : i = 3 := by omega
      go_wp2_with fail
      go_end0
      have hfin := HA.out
      rw [← HXD.out, ← HHD.out] at hfin
      exact ⟨⟨_, rfl⟩, hfin, HT2.out⟩
theorem cremove_nil (m : List UInt8) (w : World) : Calls Try.prog 47 #[.pointer none, markV m] w fun e w' => (∃ v, e = .returned v) ∧ Below w.heap.size w w' := by
  unfold markV
  go_enter Try.func47, Try.ntmps47
  go_wp2_with fail
  refine bodyPost_ret (results_none rfl _ _ _) rfl ?_
  exact ⟨⟨_, rfl⟩, (Below.refl _ _).alloc (Nat.le_refl _) _⟩
end Go.Proofs.Ytkdbbdlkfpjdfaa
