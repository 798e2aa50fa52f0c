/- Sketches: of marks, copies, differences, emptiness.
   Conditions: those that each theorem names. -/
import Derived.Test.YtkdbbdlkfpjdfaaIbB
import Derived.Test.YtkdbbdlkfpjdfaaMarks
import Derived.Test.YtkdbbdlkfpjdfaaNeq
namespace Go.Proofs.Ytkdbbdlkfpjdfaa
set_option maxRecDepth 100000
set_option linter.unusedVariables false
set_option linter.unusedSimpArgs false
open Go.RowKit Go.Rg
attribute [local go_sem] Rg.q_add Rg.q_add' Rg.q_xor Rg.q_or Rg.q_and markV cellV
def putAll (f : Ce → Ce → Ce) (cs : List Ce) (ms : List (List UInt8)) : List Ce := ms.foldl (putC f) cs
theorem putAll_length (f : Ce → Ce → Ce) (ms : List (List UInt8)) : ∀ cs, (putAll f cs ms).length = cs.length := by
  induction ms with
  | nil => intro cs; rfl
  | cons m t ih => intro cs; exact (ih _).trans (putC_length f cs m)
theorem putAll_snoc (f : Ce → Ce → Ce) (cs : List Ce) (ms : List (List UInt8)) (m : List UInt8) : putAll f cs (ms ++ [m]) = putC f (putAll f cs ms) m := by simp [putAll]
/-- A mark of a list, in a box of its own. -/
structure BoxedM (wr : World) (m : List UInt8) : Prop where
  a1 : (Instr.storeAt 23 (.pointer (some ⟨wr.heap.size, 0, none⟩)) (.agg (m.map byteV).toArray)).run Try.prog (wr.alloc (.cells zeroMark 23)) = .ok () ((wr.alloc (.cells zeroMark 23)).setCells wr.heap.size 0 (m.map byteV))
  l1 : (Instr.loadAt 23 (.pointer (some ⟨wr.heap.size, 0, none⟩))).run Try.prog ((wr.alloc (.cells zeroMark 23)).setCells wr.heap.size 0 (m.map byteV)) = .ok (.agg (m.map byteV).toArray) ((wr.alloc (.cells zeroMark 23)).setCells wr.heap.size 0 (m.map byteV))
  b : ((wr.alloc (.cells zeroMark 23)).setCells wr.heap.size 0 (m.map byteV)).heap[wr.heap.size]? = some (.cells (m.map byteV).toArray 23 (0, 0))
  B : Below wr.heap.size wr ((wr.alloc (.cells zeroMark 23)).setCells wr.heap.size 0 (m.map byteV))
theorem boxedM (wr : World) (m : List UInt8) (hm : m.length = 16) : BoxedM wr m := by
  have hnew : (wr.alloc (.cells zeroMark 23)).heap[wr.heap.size]? = some (.cells ((List.replicate 16 0).map byteV).toArray 23 (0, 0)) := World.alloc_heap_new _ _
  obtain ⟨a1, a2⟩ := mark_store hnew (m := m) (by simp) hm
  exact ⟨a1, mark_whole a2 hm, a2, Below.setCells ((Below.refl _ _).alloc (Nat.le_refl _) _) _ _ _ (Nat.le_refl _)⟩
structure BoxedC (wr : World) (c : Ce) : Prop where
  a1 : (Instr.storeAt 26 (.pointer (some ⟨wr.heap.size, 0, none⟩)) (.agg c.vals.toArray)).run Try.prog (wr.alloc (.cells zeroCells 26)) = .ok () ((wr.alloc (.cells zeroCells 26)).setCells wr.heap.size 0 c.vals)
  l1 : (Instr.loadAt 26 (.pointer (some ⟨wr.heap.size, 0, none⟩))).run Try.prog ((wr.alloc (.cells zeroCells 26)).setCells wr.heap.size 0 c.vals) = .ok (.agg c.vals.toArray) ((wr.alloc (.cells zeroCells 26)).setCells wr.heap.size 0 c.vals)
  b : CellAt wr.heap.size 26 c ((wr.alloc (.cells zeroCells 26)).setCells wr.heap.size 0 c.vals)
  B : Below wr.heap.size wr ((wr.alloc (.cells zeroCells 26)).setCells wr.heap.size 0 c.vals)
theorem boxedC (wr : World) (c : Ce) (hc : c.m.length = 16) : BoxedC wr c := by
  obtain ⟨a1, a2⟩ := (zero_at (w := wr) (T := 26)).store (c := c) rfl hc
  exact ⟨a1, a2.whole hc, a2, Below.setCells ((Below.refl _ _).alloc (Nat.le_refl _) _) _ _ _ (Nat.le_refl _)⟩
set_option maxHeartbeats 2000000 in
theorem cof_any (n : Nat) (h : fitsC (n : Int)) (v : Value) (ms : List (List UInt8)) (w : World) (hm : MarksAt w v ms) (h16 : Marks16 ms) (hn : ms.length ≤ 1000000) :
    Calls Try.prog 36 #[.int .i64 (n : Int), v] w fun e w' => ∃ k vr, e = .returned (.tuple #[ptr k, .int .i64 0]) ∧ SkAt k vr (putAll Ce.add (List.replicate n Ce.zero) ms) w' ∧ w.heap.size ≤ k ∧ (∀ g, vr.ownBlock = some g → w.heap.size ≤ g) ∧ Below w.heap.size w w' := by
  obtain ⟨p, cap, rfl, hcap, _⟩ := id hm
  have HM := Lib.hid hm
  have H16 := Lib.hid h16
  clear hm h16
  go_enter Try.func36, Try.ntmps36
  go_wp2_with fail
  refine (cnew_yes n h w).mono ?_
  rintro e w1 ⟨k, vr, rfl, hS, hk, hg, hB⟩
  have HS := Lib.hid hS
  have HB := Lib.hid hB
  have HH := Lib.hid h
  clear hS hB h
  go_wp2_with fail
  go_loopw [9, 17] (fun _ c wr => ∃ i : Nat, i ≤ ms.length ∧ c = .int .i64 i ∧ Hid (SkAt k vr (putAll Ce.add (List.replicate n Ce.zero) (ms.take i)) wr) ∧ Hid (Below w.heap.size w wr)) (fun _ c _ => ms.length - (intOf c).toNat)
  case atStart => exact ⟨0, by omega, rfl, HS, HB⟩
  case round =>
    obtain ⟨i, hi, rfl, HR, HW⟩ := hrel
    by_cases hil : i < ms.length
    · have e1 : decide ((i : Int) < (ms.length : Int)) = true := decide_eq_true (by omega)
      obtain ⟨x, hx⟩ : ∃ x, ms[i]? = some x := ⟨_, List.getElem?_eq_getElem hil⟩
      have hx16 := H16.out x (List.mem_of_getElem? hx)
      obtain ⟨g, o, hpe, _, hld⟩ := HM.out.load H16.out hx
      subst hpe
      have hL := hld wr HW.out
      have bm := boxedM wr x hx16
      have a1 := bm.a1
      have l1 := bm.l1
      have s5 := HR.out.below bm.B
      have b5 := HW.out.trans (bm.B.mono HW.out.size)
      have hlen : (putAll Ce.add (List.replicate n Ce.zero) (ms.take i)).length = n := by rw [putAll_length, List.length_replicate]
      have hcall := cadd_any k vr _ x _ s5 (by rw [hlen]; exact HH.out) hx16
      have hnx : putC Ce.add (putAll Ce.add (List.replicate n Ce.zero) (ms.take i)) x = putAll Ce.add (List.replicate n Ce.zero) (ms.take (i + 1)) := by
        rw [← putAll_snoc, List.take_add_one, hx]; rfl
      rw [hnx] at hcall
      unfold markV at hcall
      have HC := Lib.hid hcall
      have B5 := Lib.hid b5
      have HX16 := Lib.hid hx16
      clear hcall b5 s5 bm hld hx hx16 hnx hlen HR HW
      go_wp2_with (first | (refine wpList_load_at rfl _ _ rfl rfl (hL) ?_) | (refine wpList_store_at rfl _ _ _ rfl rfl rfl (a1) ?_) | (refine wpList_load_at rfl _ _ rfl rfl (l1) ?_))
      refine HC.out.mono ?_
      rintro e w6 ⟨⟨v6, rfl⟩, s6, t6⟩
      have S6 := Lib.hid s6
      have B6 := Lib.hid (B5.out.trans (t6.below (n := w.heap.size) hg B5.out.size))
      clear s6 t6 hL a1 l1
      go_wp2_with fail
      go_roundw
      case rel => exact ⟨i + 1, by omega, by go_num, S6, B6⟩
      case measure => simp [intOf]; omega
    · have e1 : decide ((i : Int) < (ms.length : Int)) = false := decide_eq_false (by omega)
      have hR := HR.out
      rw [List.take_of_length_le (by omega)] at hR
      go_wp2_with fail
      go_ret2
      exact ⟨k, vr, rfl, hR, hk, hg, HW.out⟩
set_option maxHeartbeats 2000000 in
theorem cof_no (n : Int) (h : ¬ fitsC n) (v : Value) (ms : List (List UInt8)) (w : World) (hm : MarksAt w v ms) (h16 : Marks16 ms) (hn : ms.length ≤ 1000000) :
    Calls Try.prog 36 #[.int .i64 n, v] w fun e w' => e = .returned (.tuple #[.pointer none, .int .i64 2]) ∧ Below w.heap.size w w' := by
  obtain ⟨p, cap, rfl, hcap, _⟩ := id hm
  have HM := Lib.hid hm
  have H16 := Lib.hid h16
  clear hm h16
  go_enter Try.func36, Try.ntmps36
  go_wp2_with fail
  refine (cnew_no n h w).mono ?_
  rintro e w' ⟨rfl, rfl⟩
  clear h
  go_wp2_with fail
  go_loopw [9, 17] (fun _ c wr => ∃ i : Nat, i ≤ ms.length ∧ c = .int .i64 i ∧ Hid (Below w.heap.size w wr)) (fun _ c _ => ms.length - (intOf c).toNat)
  case atStart => exact ⟨0, by omega, rfl, Lib.hid (Below.refl _ _)⟩
  case round =>
    obtain ⟨i, hi, rfl, HW⟩ := hrel
    by_cases hil : i < ms.length
    · have e1 : decide ((i : Int) < (ms.length : Int)) = true := decide_eq_true (by omega)
      obtain ⟨x, hx⟩ : ∃ x, ms[i]? = some x := ⟨_, List.getElem?_eq_getElem hil⟩
      have hx16 := H16.out x (List.mem_of_getElem? hx)
      obtain ⟨g, o, hpe, _, hld⟩ := HM.out.load H16.out hx
      subst hpe
      have hL := hld wr HW.out
      have bm := boxedM wr x hx16
      have a1 := bm.a1
      have l1 := bm.l1
      have B5 := Lib.hid (HW.out.trans (bm.B.mono HW.out.size))
      have hcall := cadd_nil x ((wr.alloc (.cells zeroMark 23)).setCells wr.heap.size 0 (x.map byteV))
      unfold markV at hcall
      have HC := Lib.hid hcall
      clear hcall bm hld hx hx16 HW
      go_wp2_with (first | (refine wpList_load_at rfl _ _ rfl rfl (hL) ?_) | (refine wpList_store_at rfl _ _ _ rfl rfl rfl (a1) ?_) | (refine wpList_load_at rfl _ _ rfl rfl (l1) ?_))
      refine HC.out.mono ?_
      rintro e w6 ⟨⟨v6, rfl⟩, hB6⟩
      have B6 := Lib.hid (B5.out.trans (hB6.mono B5.out.size))
      clear hB6 hL a1 l1
      go_wp2_with fail
      go_roundw
      case rel => exact ⟨i + 1, by omega, by go_num, B6⟩
      case measure => simp [intOf]; omega
    · have e1 : decide ((i : Int) < (ms.length : Int)) = false := decide_eq_false (by omega)
      go_wp2_with fail
      go_ret2
      exact ⟨rfl, HW.out⟩
set_option maxHeartbeats 1000000 in
theorem cclone_any (k : Nat) (v : Value) (cs : List Ce) (w : World) (h : SkAt k v cs w) (hn : cs.length ≤ 1000000) : Calls Try.prog 51 #[ptr k] w fun e w' => ∃ k' v', e = .returned (ptr k') ∧ SkAt k' v' cs w' ∧ w.heap.size ≤ k' ∧ (∀ g, v'.ownBlock = some g → w.heap.size ≤ g) ∧ Below w.heap.size w w' := by
  have H := Lib.hid h
  obtain ⟨p, c, rfl, _⟩ := h.shape
  have hc := h.cell
  clear h
  go_enter Try.func51, Try.ntmps51
  go_wp2_with fail
  refine (cells_clone _ cs w H.out.at H.out.ok.all16 (by omega)).mono ?_
  rintro e w1 ⟨v', rfl, ho, hf, hB⟩
  obtain ⟨p', c', rfl, _, _, _⟩ := ho.shape
  rw [rawC_length] at ho hf ⊢
  have HO := Lib.hid ho
  have HF := Lib.hid hf
  have HB := Lib.hid hB
  clear ho hf hB
  go_wp2_with fail
  go_ret
  refine ⟨w1.heap.size, .slice p' cs.length c', rfl, ⟨World.alloc_heap_new _ _, HO.out.kept (fun g hg => Below.heap_alloc _ _ _ (HO.out.lt hg)), H.out.ok⟩, HB.out.size, HF.out, HB.out.alloc HB.out.size _⟩
theorem cclone_nil (w : World) : Calls Try.prog 51 #[.pointer none] w fun e w' => e = .returned (.pointer none) ∧ w = w' := by
  go_enter Try.func51, Try.ntmps51
  go_wp2_with fail
  go_ret
  exact ⟨rfl, rfl⟩
/-! ### Emptiness -/
def emptyB (cs : List Ce) : Bool := cs.all fun c => c.eq Ce.zero
set_option maxHeartbeats 1000000 in
theorem full_any (c : Ce) (hc : c.ok) (w : World) : Calls Try.prog 81 #[cellV c] w fun e w' => e = .returned (.bool (!c.eq Ce.zero)) ∧ Below w.heap.size w w' := by
  unfold cellV
  have bz : ∀ X, (Instr.build 26 #[]).run Try.prog X = .ok (.agg Ce.zero.vals.toArray) X := fun X => by kernel_rfl
  have ne := fun (x y : Operand) X => neqv_cell c Ce.zero hc.m rfl x y X
  unfold cellV at ne
  have h0 : CellAt w.heap.size 26 c (w.alloc (.cells c.vals.toArray 26)) := World.alloc_heap_new _ _
  have hB : Below w.heap.size w (w.alloc (.cells c.vals.toArray 26)) := (Below.refl _ _).alloc (Nat.le_refl _) _
  have l0 := h0.whole hc.m
  clear h0 hc
  go_enter Try.func81, Try.ntmps81
  go_wp2_with (first | (refine wpList_load_at rfl _ _ rfl rfl (l0) ?_) | (refine wpList_build_at rfl _ rfl (by go_simp) (bz _) ?_) | (refine wpList_bin_at rfl rfl rfl rfl (ne _ _ _) ?_))
  go_ret
  exact ⟨rfl, hB⟩
/-- Where the first cell lies that isn't nought. -/
def fullAt : List Ce → Nat → Int
  | [], _ => -1
  | c :: t, i => if c.eq Ce.zero then fullAt t (i + 1) else (i : Int)
theorem fullAt_take (cs : List Ce) : ∀ (i j : Nat), (∀ k c, k < i → cs[k]? = some c → c.eq Ce.zero = true) → i ≤ cs.length → fullAt cs j = fullAt (cs.drop i) (j + i) := by
  induction cs with
  | nil => intro i j _ hi; simp at hi; subst hi; rfl
  | cons c t ih =>
    intro i j h hi
    cases i with
    | zero => rfl
    | succ i =>
      have hc := h 0 c (by omega) rfl
      rw [List.drop_succ_cons]
      show (if c.eq Ce.zero then fullAt t (j + 1) else (j : Int)) = _
      rw [hc, if_pos rfl, ih i (j + 1) (fun k x hk hx => h (k + 1) x (by omega) hx) (by simpa using hi), show j + 1 + i = j + (i + 1) by omega]
theorem fullAt_empty (cs : List Ce) : ∀ j, (decide (0 ≤ fullAt cs j)) = !emptyB cs := by
  induction cs with
  | nil => intro j; rfl
  | cons c t ih =>
    intro j
    show decide (0 ≤ (if c.eq Ce.zero then fullAt t (j + 1) else (j : Int))) = !(c.eq Ce.zero && emptyB t)
    cases h : c.eq Ce.zero with
    | true => simp only [if_true, Bool.true_and]; exact ih _
    | false => simp only [Bool.false_eq_true, if_false, Bool.false_and]; simp
theorem fullAt_rng (cs : List Ce) : ∀ j, -1 ≤ fullAt cs j ∧ fullAt cs j < (cs.length : Int) + j + 1 := by
  induction cs with
  | nil => intro j; exact ⟨by show (-1 : Int) ≤ -1; omega, by show (-1 : Int) < _; simp; omega⟩
  | cons c t ih =>
    intro j
    have := ih (j + 1)
    show -1 ≤ (if c.eq Ce.zero then fullAt t (j + 1) else (j : Int)) ∧ (if c.eq Ce.zero then fullAt t (j + 1) else (j : Int)) < _
    split
    · simp only [List.length_cons]; omega
    · simp only [List.length_cons]; omega
set_option maxHeartbeats 2000000 in
theorem index_any (v : Value) (cs : List Ce) (w : World) (h : CellsAt w v cs) (hk : Oks cs) (hn : cs.length ≤ 1000000) :
    Calls Try.prog 99 #[v, .func (.func 81) #[] #[]] w fun e w' => e = .returned (.int .i64 (fullAt cs 0)) ∧ Below w.heap.size w w' := by
  obtain ⟨p, cap, rfl, hcap, _⟩ := id h
  have HH := Lib.hid h
  have HK := Lib.hid hk
  clear h hk
  go_enter Try.func99, Try.ntmps99
  go_wp2_with fail
  go_loopw [5, 8] (fun _ c wr => ∃ i : Nat, i ≤ cs.length ∧ c = .int .i64 i ∧ Hid (∀ k c, k < i → cs[k]? = some c → c.eq Ce.zero = true) ∧ Hid (Below w.heap.size w wr)) (fun _ c _ => cs.length - (intOf c).toNat)
  case atStart => exact ⟨0, by omega, rfl, Lib.hid (fun k c hk => by omega), Lib.hid (Below.refl _ _)⟩
  case round =>
    obtain ⟨i, hi, rfl, HZ, HW⟩ := hrel
    by_cases hil : i < cs.length
    · have e1 : decide ((i : Int) < (cs.length : Int)) = true := decide_eq_true (by omega)
      have i1 : (i : Int) < (cs.length : Int) := by omega
      obtain ⟨x, hx⟩ : ∃ x, cs[i]? = some x := ⟨_, List.getElem?_eq_getElem hil⟩
      have xok := HK.out x (List.mem_of_getElem? hx)
      obtain ⟨q, cap', e, _, hf⟩ := HH.out.below HW.out
      cases e
      obtain ⟨g, o, rfl, hg, hr⟩ := hf i x hx
      have hL := cell_load hr xok.m
      have hcall := full_any x xok wr
      unfold cellV at hcall
      have HC := Lib.hid hcall
      have HX := Lib.hid hx
      clear hcall hf hr hg hx
      go_wp2_with (first | (refine wpList_load_at rfl _ _ rfl rfl (hL) ?_))
      refine HC.out.mono ?_
      rintro e w2 ⟨rfl, hB2⟩
      have B2 := Lib.hid (HW.out.trans (hB2.mono HW.out.size))
      clear hB2 hL HC
      cases hz : x.eq Ce.zero with
      | true =>
        have HZ2 := Lib.hid (fun k c (hk : k < i + 1) (hc : cs[k]? = some c) => show c.eq Ce.zero = true by
          by_cases e : k = i
          · subst e
            rw [HX.out] at hc
            cases hc
            exact hz
          · exact HZ.out k c (by omega) hc)
        clear hz
        go_wp2_with fail
        go_roundw
        case rel => exact ⟨i + 1, by omega, by go_num, HZ2, B2⟩
        case measure => simp [intOf]; omega
      | false =>
        have hfull : fullAt cs 0 = (i : Int) := by
          rw [fullAt_take cs i 0 HZ.out hi, List.drop_eq_getElem_cons hil, Nat.zero_add]
          have : cs[i] = x := by have := HX.out; rw [List.getElem?_eq_getElem hil] at this; exact Option.some.inj this
          rw [this]
          show (if x.eq Ce.zero then _ else (i : Int)) = _
          rw [hz]; rfl
        have HF := Lib.hid hfull
        clear hz hfull
        go_wp2_with fail
        go_ret
        exact ⟨by rw [HF.out]; rfl, B2.out⟩
    · have e1 : decide ((i : Int) < (cs.length : Int)) = false := decide_eq_false (by omega)
      have hfull : fullAt cs 0 = -1 := by
        rw [fullAt_take cs cs.length 0 (fun k c hk hc => HZ.out k c (by omega) hc) (Nat.le_refl _), List.drop_length]; rfl
      have HF := Lib.hid hfull
      clear hfull
      go_wp2_with fail
      go_ret
      exact ⟨by rw [HF.out]; rfl, HW.out⟩
set_option maxHeartbeats 1000000 in
theorem cempty_any (k : Nat) (v : Value) (cs : List Ce) (w : World) (h : SkAt k v cs w) (hn : cs.length ≤ 1000000) : Calls Try.prog 40 #[ptr k] w fun e w' => e = .returned (.bool (emptyB cs)) ∧ Below w.heap.size w w' := by
  have hcon : Calls Try.prog 80 #[v, .func (.func 81) #[] #[]] w fun e w' => e = .returned (.bool (!emptyB cs)) ∧ Below w.heap.size w w' := by
    obtain ⟨p, c, rfl, _⟩ := h.shape
    have hi := index_any _ cs w h.at h.ok hn
    have hr := fullAt_rng cs 0
    have he := fullAt_empty cs 0
    have HI := Lib.hid hi
    clear hi h
    go_enter Try.func80, Try.ntmps80
    go_wp2_with fail
    refine HI.out.mono ?_
    rintro e w' ⟨rfl, hB⟩
    have HE := Lib.hid he
    clear he
    go_wp2_with fail
    go_ret
    exact ⟨by rw [← HE.out]; rfl, hB⟩
  obtain ⟨p, c, rfl, _⟩ := h.shape
  have hc := h.cell
  have HC := Lib.hid hcon
  clear h hcon
  go_enter Try.func40, Try.ntmps40
  go_wp2_with fail
  refine HC.out.mono ?_
  rintro e w' ⟨rfl, hB⟩
  cases he : emptyB cs
  all_goals
    have HE := Lib.hid he
    clear he
    go_wp2_with fail
    go_ret
    exact ⟨by rw [HE.out]; rfl, hB⟩
theorem cempty_nil (w : World) : Calls Try.prog 40 #[.pointer none] w fun e w' => e = .returned (.bool true) ∧ w = w' := by
  go_enter Try.func40, Try.ntmps40
  go_wp2_with fail
  go_ret
  exact ⟨rfl, rfl⟩
end Go.Proofs.Ytkdbbdlkfpjdfaa
