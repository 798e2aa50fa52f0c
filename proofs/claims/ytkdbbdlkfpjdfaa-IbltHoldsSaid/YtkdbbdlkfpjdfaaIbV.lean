/- Law IbltHolds, in plain Lean: the document's order, sets of marks, and differences of sketches.
   Conditions: those that each theorem names. -/
import Derived.Test.YtkdbbdlkfpjdfaaIbP
import Derived.Test.YtkdbbdlkfpjdfaaIbS
import Derived.Test.YtkdbbdlkfpjdfaaRef9P
namespace Go.Proofs.Ytkdbbdlkfpjdfaa
set_option maxRecDepth 100000
set_option linter.unusedVariables false
set_option linter.unusedSimpArgs false
open Go.Rg
theorem less_irrefl : ∀ a : List UInt8, Op.bytesLess a a = false
  | [] => rfl
  | a :: x => by simp [Op.bytesLess, less_irrefl x]
theorem less_trans : ∀ a b c : List UInt8, Op.bytesLess a b = true → Op.bytesLess b c = true → Op.bytesLess a c = true
  | _, [], _, h, _ => by simp [Op.bytesLess] at h
  | _, _ :: _, [], _, h => by simp [Op.bytesLess] at h
  | [], _ :: _, _ :: _, _, _ => by simp [Op.bytesLess]
  | a :: x, b :: y, c :: z, h1, h2 => by
    simp only [Op.bytesLess, Bool.or_eq_true, Bool.and_eq_true, decide_eq_true_eq, beq_iff_eq] at h1 h2 ⊢
    rcases h1 with h1 | ⟨rfl, h1⟩
    · rcases h2 with h2 | ⟨rfl, h2⟩
      · left; rw [UInt8.lt_iff_toNat_lt] at *; omega
      · exact .inl h1
    · rcases h2 with h2 | ⟨rfl, h2⟩
      · exact .inl h2
      · exact .inr ⟨rfl, less_trans x y z h1 h2⟩
theorem less_total : ∀ a b : List UInt8, Op.bytesLess a b = false → a ≠ b → Op.bytesLess b a = true
  | [], [], _, h => absurd rfl h
  | [], _ :: _, h, _ => by simp [Op.bytesLess] at h
  | _ :: _, [], _, _ => by simp [Op.bytesLess]
  | a :: x, b :: y, h, hn => by
    simp only [Op.bytesLess, Bool.or_eq_false_iff, Bool.and_eq_false_imp, decide_eq_false_iff_not, beq_iff_eq] at h
    simp only [Op.bytesLess, Bool.or_eq_true, Bool.and_eq_true, decide_eq_true_eq, beq_iff_eq]
    obtain ⟨h1, h2⟩ := h
    by_cases e : a = b
    · subst e
      exact .inr ⟨rfl, less_total x y (h2 rfl) (fun e => hn (by rw [e]))⟩
    · left
      have : a.toNat ≠ b.toNat := fun h => e (UInt8.toNat_inj.1 h)
      rw [UInt8.lt_iff_toNat_lt] at *; omega
abbrev SortM (l : List (List UInt8)) : Prop := l.Pairwise (fun a b => Op.bytesLess a b = true)
theorem sort_nodup {l : List (List UInt8)} (h : SortM l) : l.Nodup := List.Pairwise.imp (fun {a b} hab e => by subst e; rw [less_irrefl] at hab; cases hab) h
theorem sort_right {l : List (List UInt8)} (h : SortM l) : rightB l = true := by
  unfold rightB
  rw [List.all_eq_true]
  intro j hj
  have hj' := List.mem_range.1 hj
  rw [List.getD_eq_getElem?_getD, List.getD_eq_getElem?_getD, List.getElem?_eq_getElem (show j < l.length by omega), List.getElem?_eq_getElem (show j + 1 < l.length by omega)]
  exact List.pairwise_iff_getElem.1 h j (j + 1) (by omega) (by omega) (by omega)
theorem atR_above (m : List UInt8) (out : List (List UInt8)) : ∀ k j, atR m out k ≤ j → j < k → Op.bytesLess m (out.getD j []) = true
  | 0, j, _, h => absurd h (Nat.not_lt_zero _)
  | k + 1, j, h1, h2 => by
    unfold atR at h1
    by_cases hl : Op.bytesLess m (out.getD k []) = true
    · rw [if_pos hl] at h1
      by_cases e : j = k
      · subst e; exact hl
      · exact atR_above m out k j h1 (by omega)
    · rw [if_neg hl] at h1; omega
theorem atR_not (m : List UInt8) (out : List (List UInt8)) : ∀ k, 0 < atR m out k → Op.bytesLess m (out.getD (atR m out k - 1) []) = false
  | 0, h => absurd h (Nat.not_lt_zero _)
  | k + 1, h => by
    unfold atR at h ⊢
    by_cases hl : Op.bytesLess m (out.getD k []) = true
    · rw [if_pos hl] at h ⊢; exact atR_not m out k h
    · rw [if_neg hl, Nat.add_sub_cancel]; simpa using hl
theorem getD_get {l : List (List UInt8)} {j : Nat} (h : j < l.length) : l.getD j [] = l[j] := by rw [List.getD_eq_getElem?_getD, List.getElem?_eq_getElem h]; rfl
theorem insM_sort {out : List (List UInt8)} (h : SortM out) (m : List UInt8) : SortM (insM out m) := by
  unfold insM
  have hle := atR_le m out out.length
  have hab := atR_above m out out.length
  have hno := atR_not m out out.length
  generalize atR m out out.length = K at *
  split
  · exact h
  · rename_i hd
    have hg := List.pairwise_iff_getElem.1 h
    have hlow : ∀ j (hj : j < out.length), j < K → Op.bytesLess out[j] m = true := by
      intro j hj hjK
      have h0 := hno (by omega)
      rw [getD_get (by omega)] at h0
      have hne : m ≠ out[K - 1]'(by omega) := by
        intro e
        apply hd
        unfold dupR
        rw [getD_get (by omega), ← e]
        simp; omega
      have h1 := less_total _ _ h0 hne
      by_cases e : j = K - 1
      · subst e; exact h1
      · exact less_trans _ _ _ (hg j (K - 1) hj (by omega) (by omega)) h1
    have hhigh : ∀ j (hj : j < out.length), K ≤ j → Op.bytesLess m out[j] = true := by
      intro j hj hK
      have := hab j hK hj
      rwa [getD_get hj] at this
    rw [List.append_assoc, SortM, List.pairwise_append]
    refine ⟨h.sublist (List.take_sublist _ _), ?_, ?_⟩
    · rw [List.singleton_append, List.pairwise_cons]
      refine ⟨fun b hb => ?_, h.sublist (List.drop_sublist _ _)⟩
      obtain ⟨j, hj, rfl⟩ := List.mem_iff_getElem.1 hb
      rw [List.getElem_drop]
      exact hhigh _ _ (by omega)
    · intro a ha b hb
      obtain ⟨i, hi, rfl⟩ := List.mem_iff_getElem.1 ha
      rw [List.getElem_take]
      have hi' : i < K ∧ i < out.length := by rw [List.length_take] at hi; omega
      rw [List.singleton_append, List.mem_cons] at hb
      rcases hb with rfl | hb
      · exact hlow i hi'.2 hi'.1
      · obtain ⟨j, hj, rfl⟩ := List.mem_iff_getElem.1 hb
        rw [List.getElem_drop]
        exact hg i (K + j) hi'.2 (by rw [List.length_drop] at hj; omega) (by omega)
theorem fold_sort (l : List (List UInt8)) : ∀ {out}, SortM out → SortM (l.foldl insM out) := by
  induction l with
  | nil => intro out h; exact h
  | cons m t ih => intro out h; exact ih (insM_sort h m)
theorem marksR_sort (l : List (List UInt8)) : SortM (marksR l) := fold_sort l List.Pairwise.nil
theorem insM_perm {out : List (List UInt8)} {m : List UInt8} (h : m ∉ out) : (insM out m).Perm (m :: out) := by
  unfold insM
  have hle := atR_le m out out.length
  generalize atR m out out.length = K at *
  split
  · rename_i hd
    exfalso
    unfold dupR at hd
    simp only [Bool.and_eq_true, decide_eq_true_eq, beq_iff_eq] at hd
    obtain ⟨h0, h1⟩ := hd
    rw [getD_get (by omega)] at h1
    exact h (h1 ▸ List.getElem_mem _)
  · rw [List.append_assoc, List.singleton_append]
    refine (List.perm_middle).trans ?_
    rw [List.take_append_drop]
theorem fold_perm (l : List (List UInt8)) : ∀ {out}, (out ++ l).Nodup → (l.foldl insM out).Perm (out ++ l) := by
  induction l with
  | nil => intro out _; rw [List.append_nil]; exact List.Perm.refl _
  | cons m t ih =>
    intro out h
    have hm : m ∉ out := fun hm => (List.nodup_append.1 h).2.2 m hm m (by simp) rfl
    have hp := insM_perm hm
    have hq : (insM out m ++ t).Perm (out ++ m :: t) := (hp.append_right t).trans (by rw [List.cons_append]; exact List.perm_middle.symm)
    exact (ih (hq.nodup_iff.2 h)).trans hq
theorem marksR_perm {l : List (List UInt8)} (h : l.Nodup) : (marksR l).Perm l := fold_perm l h
/-! ### Sketches of sets -/
theorem putC_comm (t : Nat) (ht : 0 < t) (cs : List Ce) (hl : cs.length = 3 * t) (a b : List UInt8) : putC Ce.add (putC Ce.add cs a) b = putC Ce.add (putC Ce.add cs b) a := by
  apply cells_ext
  · simp only [putC_length]
  · intro p _
    rw [putC_get _ _ b t ht (by rw [putC_length, hl]), putC_get _ _ a t ht hl, putC_get _ _ a t ht (by rw [putC_length, hl]), putC_get _ _ b t ht hl]
    cases inP a t p <;> cases inP b t p <;> simp only [if_true, Bool.false_eq_true, if_false]
    rw [Ce.add_assoc, Ce.add_assoc, Ce.add_comm (Ce.of a)]
theorem putAll_perm (t : Nat) (ht : 0 < t) {l m : List (List UInt8)} (h : l.Perm m) : ∀ cs : List Ce, cs.length = 3 * t → putAll Ce.add cs l = putAll Ce.add cs m := by
  induction h with
  | nil => intro cs _; rfl
  | cons x _ ih => intro cs hl; exact ih _ (by rw [putC_length, hl])
  | swap x y l => intro cs hl; show putAll _ (putC _ (putC _ cs y) x) l = putAll _ (putC _ (putC _ cs x) y) l; rw [putC_comm t ht cs hl]
  | trans _ _ ih1 ih2 => intro cs hl; exact (ih1 cs hl).trans (ih2 cs hl)
theorem putAll_app (f : Ce → Ce → Ce) (cs : List Ce) (l m : List (List UInt8)) : putAll f cs (l ++ m) = putAll f (putAll f cs l) m := List.foldl_append
theorem putAll_len (f : Ce → Ce → Ce) {cs : List Ce} {n : Nat} (h : cs.length = n) (l : List (List UInt8)) : (putAll f cs l).length = n := (putAll_length f l cs).trans h
theorem ok_get {cs : List Ce} (h : Oks cs) (p : Nat) : (cs.getD p Ce.zero).ok := by
  rw [List.getD_eq_getElem?_getD]
  cases e : cs[p]? with
  | none => exact Ce.zero_ok
  | some c => exact h c (List.mem_of_getElem? e)
theorem putAll_sum (t : Nat) (ht : 0 < t) (p : Nat) : ∀ (l : List (List UInt8)) (cs zs : List Ce), Marks16 l → cs.length = 3 * t → zs.length = 3 * t → ∀ d : Ce, cs.getD p Ce.zero = d.add (zs.getD p Ce.zero) → (putAll Ce.add cs l).getD p Ce.zero = d.add ((putAll Ce.add zs l).getD p Ce.zero)
  | [], _, _, _, _, _, _, h => h
  | m :: l, cs, zs, h16, hc, hz, d, h => by
    refine putAll_sum t ht p l (putC Ce.add cs m) (putC Ce.add zs m) (fun x hx => h16 x (by simp [hx])) (by rw [putC_length, hc]) (by rw [putC_length, hz]) d ?_
    rw [putC_get _ _ m t ht hc, putC_get _ _ m t ht hz]
    cases inP m t p <;> simp only [if_true, Bool.false_eq_true, if_false]
    · exact h
    · rw [h, Ce.add_assoc]
theorem add_sub' (a b : Ce) (ha : a.ok) (hb : b.ok) : (a.sub b).add b = a := by
  obtain ⟨n, m, h⟩ := a
  obtain ⟨n', m', h'⟩ := b
  unfold Ce.add Ce.sub
  have hm : m.length = m'.length := ha.m.trans hb.m.symm
  have e1 : IntKind.i64.wrap (IntKind.i64.wrap (n - n') + n') = n := by
    have h1 := ha.lo
    have h2 := ha.hi
    dsimp only at h1 h2
    rw [IntKind.wrap_i64, IntKind.wrap_i64]; omega
  have e3 : (h ^^^ h') ^^^ h' = h := by rw [UInt64.xor_assoc, UInt64.xor_self, UInt64.xor_zero]
  simp only [e1, xorL_self m m' hm, e3]
theorem sub_cancel (c a b : Ce) (hc : c.ok) (ha : a.ok) (hb : b.ok) : (c.add a).sub (c.add b) = a.sub b := by
  have h1 : (a.sub b).add b = a := add_sub' a b ha hb
  have h2 : c.add a = (a.sub b).add (c.add b) := by rw [← Ce.add_assoc, Ce.add_comm (a.sub b) c, Ce.add_assoc, h1]
  rw [h2]
  exact sub_add _ _ (Ce.sub_ok ha hb) (Ce.add_ok hc hb)
theorem zeros_len (t : Nat) : (List.replicate (3 * t) Ce.zero).length = 3 * t := List.length_replicate
/-- Differences of sketches: what both have says nothing. -/
theorem diff_app (t : Nat) (ht : 0 < t) (C a b : List (List UInt8)) (hC : Marks16 C) (ha : Marks16 a) (hb : Marks16 b) :
    subL (putAll Ce.add (List.replicate (3 * t) Ce.zero) (C ++ a)) (putAll Ce.add (List.replicate (3 * t) Ce.zero) (C ++ b)) = subL (putAll Ce.add (List.replicate (3 * t) Ce.zero) a) (putAll Ce.add (List.replicate (3 * t) Ce.zero) b) := by
  have hl := fun l => putAll_len Ce.add (zeros_len t) l
  have hk := fun {l} (h : Marks16 l) => putAll_ok h (oks_zeros (3 * t))
  apply cells_ext
  · rw [subL_length, subL_length, hl, hl]
  · intro p hp
    rw [subL_length, hl] at hp
    rw [subL_get _ _ p (by rw [hl]; exact hp), subL_get _ _ p (by rw [hl]; exact hp), putAll_app, putAll_app]
    have hq : ∀ l, Marks16 l → (putAll Ce.add (putAll Ce.add (List.replicate (3 * t) Ce.zero) C) l).getD p Ce.zero = ((putAll Ce.add (List.replicate (3 * t) Ce.zero) C).getD p Ce.zero).add ((putAll Ce.add (List.replicate (3 * t) Ce.zero) l).getD p Ce.zero) := fun l h =>
      putAll_sum t ht p l _ _ h (hl C) (zeros_len t) _ (by rw [zeros_get, Ce.add_zero _ (ok_get (hk hC) p)])
    rw [hq a ha, hq b hb]
    exact sub_cancel _ _ _ (ok_get (hk hC) p) (ok_get (hk ha) p) (ok_get (hk hb) p)
theorem putC_back (t : Nat) (ht : 0 < t) (cs : List Ce) (hl : cs.length = 3 * t) (hk : Oks cs) (m : List UInt8) (hm : m.length = 16) : putC Ce.sub (putC Ce.add cs m) m = cs := by
  apply cells_ext
  · simp only [putC_length]
  · intro p _
    rw [putC_get _ _ m t ht (by rw [putC_length, hl]), putC_get _ _ m t ht hl]
    cases inP m t p <;> simp only [if_true, Bool.false_eq_true, if_false]
    exact sub_add _ _ (ok_get hk p) (Ce.of_ok hm)
theorem putAll_back (t : Nat) (ht : 0 < t) : ∀ (l : List (List UInt8)) (cs : List Ce), Marks16 l → cs.length = 3 * t → Oks cs → putAll Ce.sub (putAll Ce.add cs l) l = cs
  | [], _, _, _, _ => rfl
  | m :: l, cs, h16, hl, hk => by
    have h16' : Marks16 l := fun x hx => h16 x (by simp [hx])
    have e : putAll Ce.add cs (m :: l) = putC Ce.add (putAll Ce.add cs l) m := by
      rw [putAll_perm t ht (List.perm_append_singleton m l).symm cs hl, putAll_snoc]
    rw [e]
    show putAll Ce.sub (putC Ce.sub (putC Ce.add (putAll Ce.add cs l) m) m) l = cs
    rw [putC_back t ht _ (putAll_len _ hl l) (putAll_ok h16' hk) m (h16 m (by simp))]
    exact putAll_back t ht l cs h16' hl hk
theorem filter_split (p : List UInt8 → Bool) (l : List (List UInt8)) : l.Perm (l.filter p ++ l.filter (fun x => !p x)) := (List.filter_append_perm p l).symm
theorem common_perm {x y : List (List UInt8)} (hx : x.Nodup) (hy : y.Nodup) : (x.filter fun m => y.contains m).Perm (y.filter fun m => x.contains m) := by
  refine (List.perm_ext_iff_of_nodup (hx.filter _) (hy.filter _)).2 (fun m => ?_)
  simp only [List.mem_filter, List.contains_iff_mem]
  exact and_comm
theorem holds_diff (t : Nat) (ht : 0 < t) (x y : List (List UInt8)) (hx : SortM x) (hy : SortM y) (h16x : Marks16 x) (h16y : Marks16 y) :
    subL (putAll Ce.add (List.replicate (3 * t) Ce.zero) x) (putAll Ce.add (List.replicate (3 * t) Ce.zero) y) =
    subL (putAll Ce.add (List.replicate (3 * t) Ce.zero) (marksR (pickA x y true false false))) (putAll Ce.add (List.replicate (3 * t) Ce.zero) (marksR (pickA x y false true false))) := by
  have p1 : pickA x y true false false = x.filter fun m => !y.contains m := by
    unfold pickA pickP
    simp
  have p2 : pickA x y false true false = y.filter fun m => !x.contains m := by
    unfold pickA pickP
    simp
  have nx := sort_nodup hx
  have ny := sort_nodup hy
  have hz := zeros_len t
  rw [p1, p2, putAll_perm t ht (marksR_perm (nx.filter _)) _ hz, putAll_perm t ht (marksR_perm (ny.filter _)) _ hz,
    putAll_perm t ht (filter_split (fun m => y.contains m) x) _ hz,
    putAll_perm t ht ((filter_split (fun m => x.contains m) y).trans ((common_perm nx ny).symm.append_right _)) _ hz]
  exact diff_app t ht _ _ _ (filter_16 h16x) (filter_16 h16x) (filter_16 h16y)
end Go.Proofs.Ytkdbbdlkfpjdfaa
