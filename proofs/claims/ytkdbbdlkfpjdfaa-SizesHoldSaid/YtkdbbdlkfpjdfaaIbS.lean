/- The document's answers of law 11: sketches of marks; sizes.
   Conditions: those that each theorem names. -/
import Derived.Test.YtkdbbdlkfpjdfaaIbR
import Derived.Test.YtkdbbdlkfpjdfaaIbF
namespace Go.Proofs.Ytkdbbdlkfpjdfaa
set_option maxRecDepth 100000
set_option linter.unusedVariables false
set_option linter.unusedSimpArgs false
open Go.RowKit Go.Rg
attribute [local go_sem] markV cellV
theorem rfits_yes (n : Int) (h : fitsC n) (w : World) : Calls Try.prog 35 #[.int .i64 n] w fun e w' => e = .returned (.bool true) ∧ w = w' := by
  obtain ⟨h1, h2, h3⟩ := h
  have h0 : 0 ≤ n := by omega
  have h4 : (2 : Int) < n := by omega
  have h5 : n < 1537 := by omega
  go_enter Try.func35, Try.ntmps35
  go_wp2_with fail
  go_ret
  exact ⟨rfl, rfl⟩
theorem rfits_no (n : Int) (h : ¬ fitsC n) (w : World) : Calls Try.prog 35 #[.int .i64 n] w fun e w' => e = .returned (.bool false) ∧ w = w' := by
  unfold fitsC at h
  by_cases h1 : (2 : Int) < n
  · by_cases h2 : n < 1537
    · have h3 : ¬ n % 3 = 0 := fun e => h ⟨by omega, by omega, e⟩
      have h0 : 0 ≤ n := by omega
      have h4 : (n % 3 == 0) = false := by simpa using h3
      clear h h3
      go_enter Try.func35, Try.ntmps35
      go_wp2_with fail
      go_ret
      exact ⟨rfl, rfl⟩
    · clear h
      go_enter Try.func35, Try.ntmps35
      go_wp2_with fail
      go_ret
      exact ⟨rfl, rfl⟩
  · clear h
    go_enter Try.func35, Try.ntmps35
    go_wp2_with fail
    go_ret
    exact ⟨rfl, rfl⟩
theorem radd_fun : (fun a b : Ce => a.radd b 1) = Ce.add := by funext a b; exact Ce.radd_one a b
theorem radd_fun_neg : (fun a b : Ce => a.radd b (-1)) = Ce.sub := by funext a b; exact Ce.radd_neg a b
theorem putAll_ok {ms : List (List UInt8)} (h16 : Marks16 ms) : ∀ {cs : List Ce}, Oks cs → Oks (putAll Ce.add cs ms) := by
  induction ms with
  | nil => intro cs h; exact h
  | cons m t ih => intro cs h; exact ih (fun x hx => h16 x (by simp [hx])) (putC_ok (fun a b ha hb => Ce.add_ok ha hb) h (h16 m (by simp)))
set_option maxHeartbeats 2000000 in
theorem refsk_any (n : Nat) (h : fitsC (n : Int)) (v : Value) (ms : List (List UInt8)) (w : World) (hm : MarksAt w v ms) (h16 : Marks16 ms) (hn : ms.length ≤ 1000000) :
    Calls Try.prog 79 #[.int .i64 (n : Int), v] w fun e w' => ∃ v', e = .returned v' ∧ OwnV 26 18 w' v' (rawC (putAll Ce.add (List.replicate n Ce.zero) ms)) ∧ (∀ g, v'.ownBlock = some g → w.heap.size ≤ g) ∧ Below w.heap.size w w' := by
  have hnb : n ≤ 1536 := by have := h.2.1; omega
  have mk := make_cells n (by omega) w
  obtain ⟨p, cap, rfl, hcap, _⟩ := id hm
  have HM := Lib.hid hm
  have H16 := Lib.hid h16
  have HH := Lib.hid h
  clear hm h16 h
  go_enter Try.func79, Try.ntmps79
  go_wp2_with (first | (refine wpList_msl_at rfl rfl rfl rfl mk ?_))
  clear mk
  have hs : Sized 18 (rawC (List.replicate n Ce.zero)) := rawC_sized (oks_zeros n).all16
  have ho := OwnV.made 26 18 w (rawC (List.replicate n Ce.zero)) hs (by rw [rawC_length, List.length_replicate]; unfold maxLen; omega)
  rw [rawC_zeros, rawC_length, List.length_replicate] at ho
  have hB : Below w.heap.size w (w.alloc (.cells (flatC (List.replicate n Ce.zero)).toArray 26)) := (Below.refl _ _).alloc (Nat.le_refl _) _
  generalize w.alloc (.cells (flatC (List.replicate n Ce.zero)).toArray 26) = w1 at *
  have HO := Lib.hid ho
  have HB := Lib.hid hB
  clear ho hB hs
  go_loopw [5, 7, 12] (fun u _ c wr => ∃ i : Nat, i ≤ ms.length ∧ c = .int .i64 i ∧ ∃ q d, u = .slice q n d ∧ Hid (OwnV 26 18 wr (.slice q n d) (rawC (putAll Ce.add (List.replicate n Ce.zero) (ms.take i)))) ∧ Hid (∀ g, (Value.slice q n d).ownBlock = some g → w.heap.size ≤ g) ∧ Hid (Below w.heap.size w wr)) (fun _ _ c _ => ms.length - (intOf c).toNat)
  case atStart => exact ⟨0, by omega, rfl, _, _, rfl, HO, Lib.hid (fun g hg => (by have hg' : w.heap.size = g := by simpa [Value.ownBlock] using hg
                                                                                   omega)), HB⟩
  case round =>
    obtain ⟨i, hi, rfl, q, d, rfl, HR, HG, HW⟩ := hrel
    by_cases hil : i < ms.length
    · have e1 : decide ((i : Int) < (ms.length : Int)) = true := decide_eq_true (by omega)
      obtain ⟨x, hx⟩ : ∃ x, ms[i]? = some x := ⟨_, List.getElem?_eq_getElem hil⟩
      have hx16 := H16.out x (List.mem_of_getElem? hx)
      obtain ⟨g, o, hpe, _, hld⟩ := HM.out.load H16.out hx
      subst hpe
      have hL := hld wr HW.out
      have bm := boxedM wr x hx16
      have a1 := bm.a1
      have l1 := bm.l1
      have o5 := HR.out.below bm.B
      have b5 := HW.out.trans (bm.B.mono HW.out.size)
      have hlen : (putAll Ce.add (List.replicate n Ce.zero) (ms.take i)).length = n := by rw [putAll_length, List.length_replicate]
      have hok : Oks (putAll Ce.add (List.replicate n Ce.zero) (ms.take i)) := putAll_ok (fun y hy => H16.out y (List.mem_of_mem_take hy)) (oks_zeros n)
      have hcall := refput_any 1 _ _ x _ (cellsAt_iff.2 o5.at) hok (by rw [hlen]; exact HH.out) hx16
      rw [radd_fun] at hcall
      have hnx : putC Ce.add (putAll Ce.add (List.replicate n Ce.zero) (ms.take i)) x = putAll Ce.add (List.replicate n Ce.zero) (ms.take (i + 1)) := by
        rw [← putAll_snoc, List.take_add_one, hx]; rfl
      have hlen2 : (putAll Ce.add (List.replicate n Ce.zero) (ms.take (i + 1))).length = n := by rw [putAll_length, List.length_replicate]
      rw [hnx] at hcall
      unfold markV at hcall
      have HC := Lib.hid hcall
      have B5 := Lib.hid b5
      have HL2 := Lib.hid hlen2
      clear hcall b5 o5 bm hld hx hx16 hnx hlen hlen2 hok HR HW
      go_wp2_with (first | (refine wpList_load_at rfl _ _ rfl rfl (hL) ?_) | (refine wpList_store_at rfl _ _ _ rfl rfl rfl (a1) ?_) | (refine wpList_load_at rfl _ _ rfl rfl (l1) ?_))
      refine HC.out.mono ?_
      rintro e w6 ⟨v', rfl, o6, f6, b6⟩
      obtain ⟨p6, c6, rfl, _, _, _⟩ := o6.shape
      rw [rawC_length, HL2.out] at o6 f6 ⊢
      have O6 := Lib.hid o6
      have F6 := Lib.hid (fun g hg => Nat.le_trans B5.out.size (f6 g hg))
      have B6 := Lib.hid (B5.out.trans (b6.mono B5.out.size))
      clear o6 f6 b6 hL a1 l1 HC
      go_wp2_with fail
      go_roundw
      case rel => exact ⟨i + 1, by omega, by go_num, _, _, rfl, O6, F6, B6⟩
      case measure => simp [intOf]; omega
    · have e1 : decide ((i : Int) < (ms.length : Int)) = false := decide_eq_false (by omega)
      have hR := HR.out
      rw [List.take_of_length_le (by omega)] at hR
      go_wp2_with fail
      go_ret
      exact ⟨_, rfl, hR, HG.out, HW.out⟩
/-! ### The law's list of a sketch -/
theorem lawcells_any (k : Nat) (v : Value) (cs : List Ce) (most : Int) (w : World) (h : SkAt k v cs w) (hn : cs.length ≤ 1000000) :
    Calls Try.prog 44 #[ptr k, .int .i64 most] w fun e w' => ∃ vb, e = .returned vb ∧ OwnV 26 18 w' vb (rawC (cs.take most.toNat)) ∧ (∀ g, vb.ownBlock = some g → w.heap.size ≤ g) ∧ Below w.heap.size w w' := by
  obtain ⟨ck, rfl⟩ := toCk h.ok
  rw [cvals_length] at hn
  refine (lawcells_gen (ptr k) ck most w hn (fun W hW => cseq_any k v ck W (h.below hW) hn)).mono ?_
  rintro e w' ⟨vb, rfl, hr, hB⟩
  have e1 : ((seqC ck).take most.toNat).map (fun x => x.2.1) = (cvals ck).take most.toNat := by
    rw [show (fun x : Nat × Ck => x.2.1) = (Subtype.val ∘ fun x : Nat × Ck => x.2) from rfl, ← List.map_map, List.map_take, seqC_snd]
    unfold cvals; rw [List.map_take]
  rw [e1, show ((seqC ck).take most.toNat).length = ((cvals ck).take most.toNat).length by rw [List.length_take, List.length_take, seqC_length, cvals_length], ← rawC_length] at hr
  refine ⟨vb, rfl, ⟨rawC_sized (fun c hc => (cvals_ok ck c (List.mem_of_mem_take hc)).m), row_base hr (Nat.zero_le _)⟩, fun g hg => (hr.lt g hg).1, hB⟩
theorem lawcells_nil (most : Int) (w : World) :
    Calls Try.prog 44 #[.pointer none, .int .i64 most] w fun e w' => ∃ vb, e = .returned vb ∧ OwnV 26 18 w' vb [] ∧ Below w.heap.size w w' := by
  refine (lawcells_gen (.pointer none) [] most w (by simp) (fun W hW => cseq_nil W)).mono ?_
  rintro e w' ⟨vb, rfl, hr, hB⟩
  have e1 : (seqC []).take most.toNat = [] := by simp [seqC]
  rw [e1] at hr
  exact ⟨vb, rfl, ⟨Sized.nil _, row_base hr (Nat.zero_le _)⟩, hB⟩
end Go.Proofs.Ytkdbbdlkfpjdfaa
