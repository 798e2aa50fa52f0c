/- Law IbltBack, in plain Lean: how many marks the cells of a sketch tell of.
   Conditions: those that each theorem names. -/
import Derived.Test.YtkdbbdlkfpjdfaaIbP
import Derived.IntWalk
namespace Go.Proofs.Ytkdbbdlkfpjdfaa
set_option maxRecDepth 100000
set_option linter.unusedVariables false
set_option linter.unusedSimpArgs false
open Go.Rg
def sN : List Ce → Int
  | [] => 0
  | c :: t => c.n + sN t
def sumW (cs : List Ce) (i : Nat) : Int := (cs.take i).foldl (fun s c => IntKind.i64.wrap (s + c.n)) 0
theorem wrapA (a b : Int) : IntKind.i64.wrap (IntKind.i64.wrap a + b) = IntKind.i64.wrap (a + b) := by
  simp only [IntKind.wrap_i64]; omega
theorem fold_sN (cs : List Ce) : ∀ s : Int, IntKind.i64.wrap (cs.foldl (fun s c => IntKind.i64.wrap (s + c.n)) s) = IntKind.i64.wrap (s + sN cs) := by
  induction cs with
  | nil => intro s; simp [sN]
  | cons c t ih =>
    intro s
    rw [List.foldl_cons, ih, wrapA, Int.add_assoc]; rfl
theorem sumW_succ (cs : List Ce) (i : Nat) (c : Ce) (h : cs[i]? = some c) : sumW cs (i + 1) = IntKind.i64.wrap (sumW cs i + c.n) := by
  unfold sumW
  rw [List.take_add_one, h, List.foldl_append]; rfl
theorem sN_set (cs : List Ce) : ∀ (p : Nat) (x c : Ce), cs[p]? = some x → sN (cs.set p c) = sN cs - x.n + c.n := by
  induction cs with
  | nil => intro p x c h; simp at h
  | cons y t ih =>
    intro p x c h
    cases p with
    | zero =>
      rw [List.getElem?_cons_zero] at h
      cases h
      show c.n + sN t = y.n + sN t - y.n + c.n
      omega
    | succ p =>
      rw [List.getElem?_cons_succ] at h
      show y.n + sN (t.set p c) = y.n + sN t - x.n + c.n
      rw [ih p x c h]; omega
theorem sN_zeros (n : Nat) : sN (List.replicate n Ce.zero) = 0 := by
  induction n with
  | zero => rfl
  | succ n ih =>
    rw [List.replicate_succ]
    show (0 : Int) + sN _ = 0
    rw [ih]; rfl
theorem wrapB {a b : Int} (h : IntKind.i64.wrap a = IntKind.i64.wrap b) (c : Int) : IntKind.i64.wrap (a + c) = IntKind.i64.wrap (b + c) := by
  rw [← wrapA a c, h, wrapA]
theorem putP_sN (cs : List Ce) (m : List UInt8) (h : UInt64) (t : Nat) (ht : 0 < t) (hl : cs.length = 3 * t) : ∀ i : Nat, i ≤ 3 → IntKind.i64.wrap (sN (putP Ce.add cs (Ce.of m) h t i)) = IntKind.i64.wrap (sN cs + (i : Int))
  | 0, _ => by simp [putP]
  | i + 1, hi => by
    have ih := putP_sN cs m h t ht hl i (by omega)
    have hlt := pcN_lt h t i ht (by omega)
    have hlen := putP_length Ce.add cs (Ce.of m) h t i
    have hq : (putP Ce.add cs (Ce.of m) h t i)[pcN h t i]? = some ((putP Ce.add cs (Ce.of m) h t i).getD (pcN h t i) Ce.zero) := by
      rw [List.getD_eq_getElem?_getD, List.getElem?_eq_getElem (by omega)]; rfl
    rw [putP_succ, sN_set _ _ _ _ hq]
    generalize putP Ce.add cs (Ce.of m) h t i = ds at *
    generalize ds.getD (pcN h t i) Ce.zero = x at *
    show IntKind.i64.wrap (sN ds - x.n + IntKind.i64.wrap (x.n + 1)) = _
    have := wrapB ih 1
    simp only [IntKind.wrap_i64] at this ⊢
    omega
theorem putC_sN (cs : List Ce) (m : List UInt8) (t : Nat) (ht : 0 < t) (hl : cs.length = 3 * t) : IntKind.i64.wrap (sN (putC Ce.add cs m)) = IntKind.i64.wrap (sN cs + 3) := by
  unfold putC
  rw [hl, show 3 * t / 3 = t by omega]
  exact putP_sN cs m (hash4 m) t ht hl 3 (by omega)
theorem putAll_sN (t : Nat) (ht : 0 < t) (ms : List (List UInt8)) : ∀ cs : List Ce, cs.length = 3 * t → IntKind.i64.wrap (sN (putAll Ce.add cs ms)) = IntKind.i64.wrap (sN cs + 3 * (ms.length : Int)) := by
  induction ms with
  | nil => intro cs _; simp [putAll]
  | cons m l ih =>
    intro cs hl
    show IntKind.i64.wrap (sN (putAll Ce.add (putC Ce.add cs m) l)) = _
    rw [ih _ (by rw [putC_length, hl]), wrapB (putC_sN cs m t ht hl), List.length_cons]
    congr 1
    push_cast
    omega
theorem sumW_all (t : Nat) (ht : 0 < t) (ms : List (List UInt8)) (hm : ms.length ≤ 60) : sumW (putAll Ce.add (List.replicate (3 * t) Ce.zero) ms) (3 * t) = 3 * (ms.length : Int) := by
  have hl : (putAll Ce.add (List.replicate (3 * t) Ce.zero) ms).length = 3 * t := by rw [putAll_length, List.length_replicate]
  have h1 := putAll_sN t ht ms (List.replicate (3 * t) Ce.zero) (by simp)
  rw [sN_zeros, Int.zero_add] at h1
  generalize putAll Ce.add (List.replicate (3 * t) Ce.zero) ms = cs at *
  have h2 := fold_sN cs 0
  rw [Int.zero_add, h1] at h2
  have h3 : sumW cs (3 * t) = cs.foldl (fun s c => IntKind.i64.wrap (s + c.n)) 0 := by unfold sumW; rw [List.take_of_length_le (by omega)]
  have h4 : ∀ l : List Ce, IntKind.i64.wrap (l.foldl (fun s c => IntKind.i64.wrap (s + c.n)) 0) = l.foldl (fun s c => IntKind.i64.wrap (s + c.n)) 0 := by
    intro l
    rcases List.eq_nil_or_concat l with rfl | ⟨l, c, rfl⟩
    · rfl
    · rw [List.concat_eq_append, List.foldl_append]
      exact (by simpa using wrapA (l.foldl (fun s c => IntKind.i64.wrap (s + c.n)) 0 + c.n) 0)
  rw [h3, ← h4, h2, IntWalk.i64_in _ (by omega)]
end Go.Proofs.Ytkdbbdlkfpjdfaa
