/- Sketches: their cells, one by one, and the law's list of them.
   Conditions: those that each theorem names. -/
import Derived.Test.YtkdbbdlkfpjdfaaIbD
import Derived.Test.YtkdbbdlkfpjdfaaBs
import Derived.Deep.QuietTactic
import Derived.BigQuiet
namespace Go.Proofs.Ytkdbbdlkfpjdfaa
set_option maxRecDepth 100000
set_option linter.unusedVariables false
set_option linter.unusedSimpArgs false
open Go.RowKit Go.Shelf Go.Rg
attribute [local go_sem] Oper.semAt_some cellV
abbrev Ck := { c : Ce // c.ok }
def cvals (cs : List Ck) : List Ce := cs.map Subtype.val
theorem cvals_length (cs : List Ck) : (cvals cs).length = cs.length := List.length_map _
theorem cvals_ok (cs : List Ck) : Oks (cvals cs) := by
  intro c hc
  obtain ⟨x, _, rfl⟩ := List.mem_map.1 hc
  exact x.2
theorem cvals_get {cs : List Ck} {i : Nat} {x : Ck} (h : cs[i]? = some x) : (cvals cs)[i]? = some x.1 := by unfold cvals; rw [List.getElem?_map, h]; rfl
theorem toCk : ∀ {l : List Ce}, Oks l → ∃ cs : List Ck, cvals cs = l
  | [], _ => ⟨[], rfl⟩
  | c :: t, h => by
    obtain ⟨cs, hcs⟩ := toCk (fun x hx => h x (by simp [hx]) : Oks t)
    exact ⟨⟨c, h c (by simp)⟩ :: cs, by unfold cvals at *; rw [List.map_cons, hcs]⟩
def seqC (cs : List Ck) : List (Nat × Ck) := cs.zipIdx.map fun x => (x.2, x.1)
theorem seqC_length (cs : List Ck) : (seqC cs).length = cs.length := by simp [seqC]
theorem seqC_get {cs : List Ck} {i : Nat} {x : Ck} (h : cs[i]? = some x) : (seqC cs)[i]? = some (i, x) := by
  unfold seqC
  rw [List.getElem?_map, List.getElem?_zipIdx, h]; simp
theorem seqC_at {cs : List Ck} {i : Nat} {x : Nat × Ck} (h : (seqC cs)[i]? = some x) : x.1 = i := by
  have hi : i < cs.length := by have := (List.getElem?_eq_some_iff.1 h).1; rwa [seqC_length] at this
  rw [seqC_get (List.getElem?_eq_getElem hi)] at h
  cases h; rfl
theorem seqC_snd (cs : List Ck) : (seqC cs).map (fun x => x.2) = cs := by
  unfold seqC
  rw [List.map_map]
  show (cs.zipIdx).map (fun x => x.1) = cs
  rw [List.zipIdx_map_fst]
abbrev encC : Nat × Ck → Array Value := fun x => #[.int .i64 (x.1 : Int), cellV x.2.1]
theorem CellsAt.keep {w w' : World} {v : Value} {l : List Ce} (h : CellsAt w v l) (hB : ∀ k, v.ownBlock = some k → w'.heap[k]? = w.heap[k]?) : CellsAt w' v l := by
  obtain ⟨p, cap, rfl, hc, hf⟩ := h
  refine ⟨p, cap, rfl, hc, fun i m hi => ?_⟩
  obtain ⟨g, o, rfl, hg, hr⟩ := hf i m hi
  have he := hB g rfl
  refine ⟨g, o, rfl, ?_, range_kept hr he⟩
  rw [Array.getElem?_eq_getElem hg] at he
  exact (Array.getElem?_eq_some_iff.1 he).1
theorem CellsAt.get {w : World} {p : Option Addr} {n cap : Nat} {cs : List Ce} (h : CellsAt w (.slice p n cap) cs) {i : Nat} {c : Ce} (hi : cs[i]? = some c) : ∃ g o, p = some ⟨g, o, none⟩ ∧ g < w.heap.size ∧ w.rangeAt g (o + i * 18) c.vals := by
  obtain ⟨q, cap', e, _, hf⟩ := h
  cases e
  exact hf i c hi
set_option maxRecDepth 100000 in
set_option maxHeartbeats 4000000 in
theorem cells_in (m l bl : Nat) (p : Option Addr) (cap : Nat) (cs : List Ck) (M : Nat → Prop) (J Jx : List (Nat × Ck) → World → Prop)
    (hM : M bl ∧ ∀ a, p = some a → M a.block) (hn : cs.length ≤ 1000000)
    (hJ : ∀ s A B, Below A.heap.size A B → J s A → J s B)
    (hY : ∀ pre x W, J pre W → pre.length < (seqC cs).length → YieldAt Fence.wide (m - 1) Try.prog l (encC x) W fun e W' =>
      (e = .returned (.bool true) ∧ J (pre ++ [x]) W' ∧ Keeps M W W') ∨ (e = .returned (.bool false) ∧ Jx (pre ++ [x]) W'))
    (W : World) (h1 : Boxed W bl 27 (.slice p cs.length cap)) (h4 : CellsAt W (.slice p cs.length cap) (cvals cs)) (h0 : J [] W) :
    CallsIn Fence.wide m Try.prog 100 #[.func (.yield l) #[] #[], .pointer (some ⟨bl, 0, none⟩)] W fun e W' => (∃ v, e = .returned v) ∧
      ((∃ ys, ys = seqC cs ∧ J ys W') ∨ (∃ pre, pre <+: seqC cs ∧ Jx pre W')) := by
  refine callsIn_of_wp Try.func100 rfl trivial ?_ rfl
  simp only [Try.ntmps100, List.size_toArray, List.length_cons, List.length_nil, Nat.reduceAdd, Nat.reduceSub, Array.replicate_succ, Array.replicate_zero, List.push_toArray, List.append_toArray, List.nil_append, List.cons_append]
  have c1 := h1.cell
  have H4 := Lib.hid h4
  clear h1 h4
  gi_wp2_with fail
  clear c1
  gi_loopw [3, 4, 7] (fun _ _ cc wr => ∃ i : Nat, i ≤ cs.length ∧ cc = .int .i64 i ∧ J ((seqC cs).take i) wr ∧ Hid (CellsAt wr (.slice p cs.length cap) (cvals cs))) (fun _ _ cc _ => cs.length - (intOf cc).toNat)
  case atStart => exact ⟨0, by omega, rfl, h0, H4⟩
  case round =>
    obtain ⟨i, hi, rfl, hJi, H4⟩ := hrel
    by_cases hil : i < cs.length
    · have e1 : (i : Int) < (cs.length : Int) := by omega
      obtain ⟨x, hx⟩ : ∃ x, cs[i]? = some x := ⟨_, List.getElem?_eq_getElem hil⟩
      have hs := seqC_get hx
      have hcx := H4.out
      obtain ⟨g, o, hpe, hg, hr⟩ := hcx.get (cvals_get hx)
      subst hpe
      have hL := cell_load hr x.2.m
      have bc := boxedC wr x.1 x.2.m
      have a1 := bc.a1
      have l1 := bc.l1
      have m5 := H4.out.below bc.B
      have j5 := hJ _ _ _ bc.B hJi
      have hlt : ((seqC cs).take i).length < (seqC cs).length := by rw [List.length_take, seqC_length]; omega
      have htk : (seqC cs).take (i + 1) = (seqC cs).take i ++ [(i, x)] := by rw [List.take_add_one, hs]; rfl
      have hpre : (seqC cs).take i ++ [(i, x)] <+: seqC cs := by rw [← htk]; exact List.take_prefix _ _
      obtain ⟨fn, tmps, assign, body, hy, hR⟩ := hY _ (i, x) _ j5 hlt
      have TK := Lib.hid htk
      have HP := Lib.hid hpre
      have M5 := Lib.hid m5
      unfold encC cellV at hy
      clear hs hcx hr bc m5 j5 htk hpre hlt hJi H4 hx hg
      gi_wp2_with (first | (refine wpListIn_load_at rfl _ _ rfl rfl (hL) ?_) | (refine wpListIn_store_at rfl _ _ _ rfl rfl rfl (a1) ?_) | (refine wpListIn_load_at rfl _ _ rfl rfl (l1) ?_))
      refine ⟨wide_d, ?_⟩
      refine hR.mono ?_
      rintro e W3 (⟨rfl, hJ3, hk3⟩ | ⟨rfl, hJx3⟩)
      · obtain ⟨mb1, mb5⟩ := hM
        have m7 : CellsAt W3 (.slice (some ⟨g, o, none⟩) cs.length cap) (cvals cs) := M5.out.keep (fun k hk => by cases hk; exact hk3 g (mb5 ⟨g, o, none⟩ rfl))
        have M7 := Lib.hid m7
        rw [← TK.out] at hJ3
        clear m7 mb1 mb5 hk3 hy hR hL a1 l1
        gi_wp2_with fail
        go_roundw
        case rel => exact ⟨i + 1, by omega, by go_num, hJ3, M7⟩
        case measure => simp [intOf]; omega
      · gi_wp2_with fail
        refine bodyPost_ret (results_none rfl _ _ _) rfl ?_
        exact ⟨⟨_, rfl⟩, .inr ⟨_, HP.out, hJx3⟩⟩
    · have e1 : ¬ (i : Int) < (cs.length : Int) := by omega
      rw [List.take_of_length_le (by rw [seqC_length]; omega)] at hJi
      gi_wp2_with fail
      go_end0
      first | exact ⟨⟨_, rfl⟩, .inl hJi⟩ | exact ⟨⟨_, rfl⟩, .inl ⟨_, rfl, hJi⟩⟩
/-- What the iterator has hold of. -/
structure SeqAt (lo : Nat) (cs : List Ck) (bl : Nat) (vm : Value) (W : World) : Prop where
  b1 : Boxed W bl 27 vm
  m : CellsAt W vm (cvals cs)
  l1 : lo ≤ bl
  l5 : ∀ g, vm.ownBlock = some g → lo ≤ g
  l6 : ∀ g, vm.ownBlock = some g → g < W.heap.size
theorem cells_stops (m N0 lo : Nat) (cs : List Ck) (bl : Nat) (vm : Value) (w : World) (h : SeqAt lo cs bl vm w) (hn : cs.length ≤ 1000000) :
    SeqStopsK Fence.wide m Try.prog 100 #[ptr bl] encC (Keeps (fun k => k < N0 ∨ (lo ≤ k ∧ k < w.heap.size))) (fun ys => ys = seqC cs) (fun pre => pre <+: seqC cs) (seqC cs).length w := by
  intro l J Jx W hW hJ _ hY h0
  obtain ⟨p, cap, rfl, hc, hfr⟩ := id h.m
  rw [cvals_length] at hc
  have hm := h.m.below hW
  have hlm : ∀ a, p = some a → (fun k => k < N0 ∨ (lo ≤ k ∧ k < w.heap.size)) a.block := by
    intro a ha
    exact .inr ⟨h.l5 a.block (by rw [ha]; rfl), h.l6 a.block (by rw [ha]; rfl)⟩
  rw [cvals_length] at hm
  have b1 : Boxed W bl 27 (.slice p (cvals cs).length cap) := (hW.block _ h.b1.lt).trans h.b1
  rw [cvals_length] at b1
  exact cells_in m l bl p cap cs _ J Jx ⟨.inr ⟨h.l1, h.b1.lt⟩, hlm⟩ hn
    (fun s A B hB hs => hJ s A B none hs (grown_of_below hB none) (fun r e => by cases e)) hY W b1 hm h0
set_option maxHeartbeats 1000000 in
theorem cseq_any (k : Nat) (v : Value) (cs : List Ck) (w : World) (h : SkAt k v (cvals cs) w) (hn : cs.length ≤ 1000000) :
    Calls Try.prog 83 #[ptr k] w fun e w' => ∃ bl vm, e = .returned (.func (.func 100) #[] #[ptr bl]) ∧ SeqAt w.heap.size cs bl vm w' ∧ Below w.heap.size w w' := by
  have H := Lib.hid h
  obtain ⟨p, c, rfl, _⟩ := h.shape
  have hc := h.cell
  have hB : Below w.heap.size w (w.alloc (.cells #[.slice none 0 0] 27)) := (Below.refl _ _).alloc (Nat.le_refl _) _
  have hb := Boxed.new w 27 (.slice none 0 0)
  have h1 := h.below hB
  have hc1 := h1.cell
  have H1 := Lib.hid h1
  have HB := Lib.hid hB
  have HBX := Lib.hid hb
  clear h hc h1 hB hb
  go_enter Try.func83, Try.ntmps83
  go_wp2_with fail
  refine (cells_clone _ (cvals cs) _ H1.out.at (cvals_ok cs).all16 (by rw [cvals_length]; omega)).mono ?_
  rintro e w2 ⟨v', rfl, ho, hf, hB2⟩
  obtain ⟨p', c', rfl, _, _, _⟩ := ho.shape
  rw [rawC_length, cvals_length] at ho hf ⊢
  have bX : Boxed w2 w.heap.size 27 (.slice none 0 0) := (hB2.block _ HBX.out.lt).trans HBX.out
  have c2 := bX.cell
  have f2 := bX.frozen
  have hzw : w.heap.size < (w.alloc (.cells #[.slice none 0 0] 27)).heap.size := by simp
  have s2 : Boxed (w2.setCell ⟨w.heap.size, 0, none⟩ (.slice p' cs.length c')) w.heap.size 27 (.slice p' cs.length c') := bX.set _
  have o2 : OwnV 26 18 (w2.setCell ⟨w.heap.size, 0, none⟩ (.slice p' cs.length c')) (.slice p' cs.length c') (rawC (cvals cs)) := ho.kept (fun g hg => Below.heap_setCell _ ⟨w.heap.size, 0, none⟩ _ g (fun e => by have := hf g hg; simp at this; dsimp only at e; omega))
  have B2 : Below w.heap.size w (w2.setCell ⟨w.heap.size, 0, none⟩ (.slice p' cs.length c')) := (HB.out.trans (hB2.mono HB.out.size)).setCell (p := ⟨w.heap.size, 0, none⟩) (Nat.le_refl _) _
  have L : SeqAt w.heap.size cs w.heap.size (.slice p' cs.length c') _ := ⟨s2, cellsAt_iff.2 o2.at, Nat.le_refl _, fun g hg => by have := hf g hg; simp at this; omega, fun g hg => o2.lt hg⟩
  have LL := Lib.hid L
  have BB := Lib.hid B2
  clear L B2 o2 s2 bX ho hf hB2 hzw hc1
  go_wp2_with fail
  refine bodyPost_ret (results_tmp rfl _ _ _) rfl ?_
  exact ⟨_, _, rfl, LL.out, BB.out⟩
theorem cseq_nil (w : World) : Calls Try.prog 83 #[.pointer none] w fun e w' => ∃ bl vm, e = .returned (.func (.func 100) #[] #[ptr bl]) ∧ SeqAt w.heap.size [] bl vm w' ∧ Below w.heap.size w w' := by
  go_enter Try.func83, Try.ntmps83
  go_wp2_with fail
  refine bodyPost_ret (results_tmp rfl _ _ _) rfl ?_
  refine ⟨w.heap.size, .slice none 0 0, rfl, ⟨Boxed.new _ _ _, ⟨none, 0, rfl, Nat.le_refl _, fun i c hi => by simp [cvals] at hi⟩, Nat.le_refl _, (fun g hg => by cases hg), (fun g hg => by cases hg)⟩, (Below.refl _ _).alloc (Nat.le_refl _) _⟩
end Go.Proofs.Ytkdbbdlkfpjdfaa
