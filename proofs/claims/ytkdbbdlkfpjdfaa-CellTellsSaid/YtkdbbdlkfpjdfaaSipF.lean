/- Contracts of the words that the laws lean on: rotations, rounds, hashes and marks, plainly told.
   Conditions: those that each theorem names. -/
import Derived.Laws.BytesArg
import Derived.Laws.IdiomStrings
import Derived.Test.YtkdbbdlkfpjdfaaSipE
namespace Go.Proofs.Ytkdbbdlkfpjdfaa
set_option maxRecDepth 100000
set_option linter.unusedVariables false
set_option linter.unusedSimpArgs false
set_option linter.unusedVariables false
open Go.RowKit Go.Rg
attribute [local go_sem] Rg.q_add Rg.q_add' Rg.q_xor Rg.q_or Rg.q_and
/-- Eight bytes as one number, the first the least. -/
def hN : List UInt8 → Nat
  | [] => 0
  | c :: l => c.toNat + 256 * hN l
def word (l : List UInt8) : UInt64 := UInt64.ofNat (hN l)
def refIt : Nat → S4 → List UInt8 → S4
  | 0, s, _ => s
  | n + 1, s, l => refIt n (s.take (word (l.take 8))) (l.drop 8)
def pd (l : List UInt8) : Nat := (15 - l.length % 8) % 8
def pad (l : List UInt8) : List UInt8 := l ++ List.replicate (pd l) 0 ++ [UInt8.ofNat (l.length % 256)]
def refHash (A B : UInt64) (l : List UInt8) : UInt64 := (refIt ((l.length + 8) / 8) (newS A B) (pad l)).fin
def strLen : Value → Nat | .string s => s.size | _ => 0
theorem pd_le (l : List UInt8) : pd l ≤ 7 := by unfold pd; omega
theorem pd_end (l : List UInt8) : (l.length + pd l) % 8 = 7 := by unfold pd; omega
theorem pd_first (l : List UInt8) (j : Nat) (h : j ≤ pd l) (h7 : (l.length + j) % 8 = 7) : j = pd l := by unfold pd at *; omega

/-- A block of four numbers, all below the call's start as it was. -/
structure Box (w W : World) (b : Nat) (s : S4) : Prop where
  box : W.heap[b]? = some (.cells (s.vals ++ []).toArray 134 (0, 0))
  below : Below w.heap.size w W
  low : w.heap.size ≤ b
theorem Box.grow {w W X : World} {b : Nat} {s : S4} (h : Box w W b s) (hX : Below W.heap.size W X) : Box w X b s :=
  ⟨(hX.block _ (Array.getElem?_eq_some_iff.1 h.box).1).trans h.box, h.below.trans (hX.mono h.below.size), h.low⟩
theorem Box.look {w W : World} {b : Nat} {s : S4} (h : Box w W b s) :
    W.cell? ⟨b, 0, none⟩ = some (.int .u64 (U s.a)) ∧ W.cell? ⟨b, 1, none⟩ = some (.int .u64 (U s.b)) ∧ W.cell? ⟨b, 2, none⟩ = some (.int .u64 (U s.c)) ∧ W.cell? ⟨b, 3, none⟩ = some (.int .u64 (U s.d)) ∧
    W.frozen? ⟨b, 0, none⟩ = false ∧ W.frozen? ⟨b, 1, none⟩ = false ∧ W.frozen? ⟨b, 2, none⟩ = false ∧ W.frozen? ⟨b, 3, none⟩ = false := by
  obtain ⟨k0, k1, k2, k3⟩ := cellS h.box
  exact ⟨k0, k1, k2, k3, freeS h.box 0, freeS h.box 1, freeS h.box 2, freeS h.box 3⟩
theorem Box.put {w W : World} {b : Nat} {s : S4} (h : Box w W b s) (s' : S4) (j : Nat) (x : UInt64) (hs : (s.vals ++ []).toArray.setIfInBounds j (.int .u64 (U x)) = (s'.vals ++ []).toArray) : Box w (W.setCell ⟨b, j, none⟩ (.int .u64 (U x))) b s' :=
  ⟨(block_set _ h.box).trans (by rw [hs]), h.below.setCell h.low _, h.low⟩

theorem plain_round (s : S4) (w : World) : Calls Try.prog 93 #[.agg #[.int .u64 (U s.a), .int .u64 (U s.b), .int .u64 (U s.c), .int .u64 (U s.d)]] w fun e w' =>
    e = .returned (.agg #[.int .u64 (U s.round.a), .int .u64 (U s.round.b), .int .u64 (U s.round.c), .int .u64 (U s.round.d)]) ∧ Below w.heap.size w w' := plain_round_any s w
/-- All four numbers laid anew. -/
theorem Box.puts {w W : World} {b : Nat} {s : S4} (h : Box w W b s) (s' : S4) :
    Box w ((((W.setCell ⟨b, 0, none⟩ (.int .u64 (U s'.a))).setCell ⟨b, 1, none⟩ (.int .u64 (U s'.b))).setCell ⟨b, 2, none⟩ (.int .u64 (U s'.c))).setCell ⟨b, 3, none⟩ (.int .u64 (U s'.d))) b s' :=
  (((h.put ⟨s'.a, s.b, s.c, s.d⟩ 0 s'.a rfl).put ⟨s'.a, s'.b, s.c, s.d⟩ 1 s'.b rfl).put ⟨s'.a, s'.b, s'.c, s.d⟩ 2 s'.c rfl).put s' 3 s'.d rfl
theorem hN_lt : ∀ l : List UInt8, hN l < 256 ^ l.length
  | [] => by simp [hN]
  | c :: l => by
    have := hN_lt l
    have := c.toNat_lt
    simp only [hN, List.length_cons, Nat.pow_succ]
    omega
theorem word_cons (c : UInt8) (l : List UInt8) : IntKind.u64.wrap (IntKind.u64.wrap (U (word l) * 256) + IntKind.u64.wrap (c.toNat : Int)) = U (word (c :: l)) := by
  have := byte_lt c
  simp only [wrap_u64, U, word, hN, UInt64.toNat_ofNat']
  omega
theorem ba_drop (q : List UInt8) : (⟨q.toArray⟩ : ByteArray).extract 8 q.length = ⟨(q.drop 8).toArray⟩ := by
  apply ByteArray.ext
  simp [ByteArray.data_extract]
  exact List.take_of_length_le (by simp)
theorem drop8 (q : List UInt8) (hq8 : q.length % 8 = 0) (n : Nat) (hn : q.length / 8 = n + 1) : (q.drop 8).length % 8 = 0 ∧ (q.drop 8).length / 8 = n ∧ (q.drop 8).length < q.length := by
  simp; omega
attribute [local go_sem] ba_app

set_option maxRecDepth 100000 in
set_option maxHeartbeats 2000000 in
theorem plain_hash_any (A B : UInt64) (l : List UInt8) (w : World) (hn : l.length ≤ 1000000) :
    Calls Try.prog 62 #[keyV A B, str l] w fun e w' => e = .returned (.int .u64 (U (refHash A B l))) ∧ Below w.heap.size w w' := by
  have x0 : bits .xor .u64 (U A) 8317987319222330741 = U (newS A B).a := q_xor A 8317987319222330741
  have x1 : bits .xor .u64 (U B) 7237128888997146477 = U (newS A B).b := q_xor B 7237128888997146477
  have x2 : bits .xor .u64 (U A) 7816392313619706465 = U (newS A B).c := q_xor A 7816392313619706465
  have x3 : bits .xor .u64 (U B) 8387220255154660723 = U (newS A B).d := q_xor B 8387220255154660723
  generalize hr : refHash A B l = r
  have HR := Lib.hid hr
  clear hr
  go_enter Try.func62, Try.ntmps62
  go_wp2_with fail
  generalize hw1 : (w.alloc (.cells #[.int .u64 (U A), .int .u64 (U B)] 98)).alloc (.cells #[.int .u64 (U (newS A B).a), .int .u64 (U (newS A B).b), .int .u64 (U (newS A B).c), .int .u64 (U (newS A B).d)] 134) = w1
  have hV : Box w w1 (w.heap.size + 1) (newS A B) := by
    rw [← hw1]
    refine ⟨?_, ((Below.refl _ _).alloc (Nat.le_refl _) _).alloc (by simp) _, by omega⟩
    rw [show w.heap.size + 1 = (w.alloc (.cells #[.int .u64 (U A), .int .u64 (U B)] 98)).heap.size by simp]
    exact World.alloc_heap_new _ _
  have HV := Lib.hid hV
  generalize hst : newS A B = st at *
  have HST := Lib.hid hst
  clear hw1 hV x0 x1 x2 x3 hst
  go_loopw [1, 25, 26, 27, 28, 29, 30] (fun c _ _ _ _ _ _ wr => ∃ m : List UInt8, c = .string ⟨m.toArray⟩ ∧ wr = w1 ∧ Hid (∃ j, j ≤ pd l ∧ m = l ++ List.replicate j 0)) (fun c _ _ _ _ _ _ _ => l.length + pd l - strLen c)
  case atStart => exact ⟨l, rfl, rfl, Lib.hid ⟨0, by omega, by simp⟩⟩
  case round =>
    obtain ⟨m, rfl, rfl, hm⟩ := hrel
    have hml : m.length ≤ 1000007 := by
      obtain ⟨j, hj, rfl⟩ := hm.out
      have := pd_le l
      simp; omega
    by_cases hil : m.length % 8 = 7
    · have e1 : ((m.length : Int) % 8 != 7) = false := by simp; omega
      obtain ⟨cl, hcl⟩ : ∃ cl, cl = UInt8.ofNat (l.length % 256) := ⟨_, rfl⟩
      have e5 : (l.length : Int) % 256 = (cl.toNat : Int) := by rw [hcl]; simp
      have hconv := conv_one cl
      have hpad : pad l = m ++ [cl] := by
        obtain ⟨j, hj, rfl⟩ := hm.out
        have := pd_first l j hj (by simpa using hil)
        subst this
        rw [hcl]; rfl
      have hq8 : (pad l).length = (l.length + 8) / 8 * 8 := by
        unfold pad pd; simp; omega
      have HCL := Lib.hid hcl
      have HP := Lib.hid hpad
      have HQ := Lib.hid hq8
      clear hcl hpad hq8
      go_wp2_with fail
      have hbx := HV.out.grow ((Below.refl wr.heap.size wr).alloc (Nat.le_refl _) (.cells #[.int .u8 (cl.toNat : Int)] 5))
      have hit : (refIt ((m ++ [cl]).length / 8) st (m ++ [cl])).fin = r := by
        rw [← HP.out, HQ.out, ← HST.out, ← HR.out]
        unfold refHash
        rw [Nat.mul_div_cancel _ (by decide)]
      have hq8 : (m ++ [cl]).length % 8 = 0 := by rw [← HP.out, HQ.out, Nat.mul_mod_left]
      have hql : (m ++ [cl]).length ≤ 1000008 := by simp; omega
      generalize m ++ [cl] = q0 at *
      generalize wr.alloc (.cells #[.int .u8 (cl.toNat : Int)] 5) = w2 at *
      have HB := Lib.hid hbx
      have HIT := Lib.hid hit
      clear hbx hit hm hil e1 hml HV HCL HP HQ hconv e5
      go_loopw [1, 7, 8, 37, 38, 39, 40, 41, 42, 43, 44, 45, 46, 47, 48, 49, 50, 51, 52, 53, 54, 55, 56, 57, 58, 59, 60, 61, 62, 63, 64, 65]
        (fun c _ _ _ _ _ _ _ _ _ _ _ _ _ _ _ _ _ _ _ _ _ _ _ _ _ _ _ _ _ _ _ wr => ∃ (q : List UInt8) (s : S4), c = .string ⟨q.toArray⟩ ∧ Hid (Box w wr (w.heap.size + 1) s) ∧ q.length % 8 = 0 ∧ q.length ≤ 1000008 ∧ Hid ((refIt (q.length / 8) s q).fin = r)) (fun c _ _ _ _ _ _ _ _ _ _ _ _ _ _ _ _ _ _ _ _ _ _ _ _ _ _ _ _ _ _ _ _ => strLen c)
      case atStart => exact ⟨q0, st, rfl, HB, hq8, hql, HIT⟩
      case round =>
        obtain ⟨q, s, rfl, hB, hq8, hql, hit⟩ := hrel
        by_cases hq0 : 0 < q.length
        · have e1 : decide ((0 : Int) < (q.length : Int)) = true := decide_eq_true (by omega)
          have e2 : decide ((q.length : Int) > 0) = true := e1
          obtain ⟨n, hn8⟩ : ∃ n, q.length / 8 = n + 1 := ⟨q.length / 8 - 1, by omega⟩
          have hit' : (refIt n (s.take (word (q.take 8))) (q.drop 8)).fin = r := by rw [← hit.out, hn8]; rfl
          have HIT' := Lib.hid hit'
          have HN := Lib.hid hn8
          clear hit' hn8
          go_wp2_with fail
          go_loopw [7, 8, 40, 41, 42, 43, 44, 45, 46, 47, 48, 49, 50] (fun x i _ _ _ _ _ _ _ _ _ _ _ wr' => ∃ k : Nat, k ≤ 8 ∧ i = .int .i64 ((k : Int) - 1) ∧ x = .int .u64 (U (word ((q.take 8).drop k))) ∧ wr' = wr) (fun _ i _ _ _ _ _ _ _ _ _ _ _ _ => (intOf i + 1).toNat)
          case atStart => exact ⟨8, by omega, rfl, by simp [word, hN]; rfl, rfl⟩
          case round =>
            obtain ⟨k, hk, rfl, rfl, rfl⟩ := hrel
            by_cases hk0 : 0 < k
            · have e3 : decide (0 ≤ (k : Int) - 1) = true := decide_eq_true (by omega)
              have e4 : decide ((k : Int) - 1 ≥ 0) = true := e3
              go_wp2_with fail
              refine ⟨⟨k - 1, by omega, by go_num, ?_, trivial⟩, by simp [intOf]; omega⟩
              have hkq : k - 1 < (q.take 8).length := by simp; omega
              have e : (q.take 8).drop (k - 1) = q[k - 1]'(by simp at hkq; omega) :: (q.take 8).drop k := by
                rw [List.drop_eq_getElem_cons hkq, List.getElem_take, show k - 1 + 1 = k by omega]
              rw [e]
              exact congrArg _ (word_cons _ _)
            · have e3 : decide (0 ≤ (k : Int) - 1) = false := decide_eq_false (by omega)
              have e4 : decide ((k : Int) - 1 ≥ 0) = false := e3
              obtain rfl : k = 0 := by omega
              rw [List.drop_zero]
              obtain ⟨x, hx⟩ : ∃ x, word (q.take 8) = x := ⟨_, rfl⟩
              have HX := Lib.hid hx
              rw [hx]
              clear hx
              obtain ⟨k0, k1, k2, k3, f0, f1, f2, f3⟩ := hB.out.look
              go_wp2_with fail
              have h1 := hB.out.put ⟨s.a, s.b, s.c, s.d ^^^ x⟩ 3 (s.d ^^^ x) rfl
              generalize hdx : s.d ^^^ x = dx at *
              have HDX := Lib.hid hdx
              clear hdx
              refine (plain_round ⟨s.a, s.b, s.c, dx⟩ _).mono ?_
              rintro e X ⟨rfl, hX⟩
              have h2 := h1.grow hX
              go_wp2_with fail
              refine (plain_round (S4.round ⟨s.a, s.b, s.c, dx⟩) _).mono ?_
              rintro e Y ⟨rfl, hY⟩
              have h3 := h2.grow hY
              obtain ⟨t, ht⟩ : ∃ t, t = (S4.round ⟨s.a, s.b, s.c, dx⟩).round := ⟨_, rfl⟩
              rw [← ht]
              have HT := Lib.hid ht
              clear ht h1 h2 k0 k1 k2 k3 f0 f1 f2 f3 hX hY
              have H3 := Lib.hid h3
              obtain ⟨k0, k1, k2, k3, f0, f1, f2, f3⟩ := h3.look
              clear h3
              obtain ⟨ax, hax⟩ : ∃ ax, ax = t.a ^^^ x := ⟨_, rfl⟩
              have e5 : bits .xor .u64 (U t.a) (U x) = U ax := by rw [hax]; exact q_xor t.a x
              have HAX := Lib.hid hax
              clear hax
              go_wp2_with fail
              obtain ⟨d1, d2, d3⟩ := drop8 q hq8 n HN.out
              have ht : s.take x = ⟨ax, t.b, t.c, t.d⟩ := by
                rw [HAX.out, HT.out, ← HDX.out]; rfl
              have hb := (H3.out.puts t).put ⟨ax, t.b, t.c, t.d⟩ 0 ax rfl
              refine ⟨⟨q.drop 8, ⟨ax, t.b, t.c, t.d⟩, by rw [ba_drop], Lib.hid hb, d1, by omega, Lib.hid ?_⟩, ?_⟩
              · rw [d2, ← ht, ← HX.out]; exact HIT'.out
              · rw [ba_drop]; exact d3
        · have e1 : decide ((0 : Int) < (q.length : Int)) = false := decide_eq_false (by omega)
          have e2 : decide ((q.length : Int) > 0) = false := e1
          obtain rfl : q = [] := List.eq_nil_of_length_eq_zero (by omega)
          obtain ⟨k0, k1, k2, k3, f0, f1, f2, f3⟩ := hB.out.look
          have e3 : bits .xor .u64 (U s.c) 255 = U (s.c ^^^ 255) := q_xor s.c 255
          go_wp2_with fail
          have h0 := hB.out.put ⟨s.a, s.b, s.c ^^^ 255, s.d⟩ 2 (s.c ^^^ 255) rfl
          have hfin : S4.fin s = r := hit.out
          unfold S4.fin at hfin
          generalize hcx : s.c ^^^ 255 = cx at *
          have HCX := Lib.hid hcx
          clear hcx
          refine (plain_round ⟨s.a, s.b, cx, s.d⟩ _).mono ?_
          rintro e X ⟨rfl, hX⟩
          have h1 := h0.grow hX
          generalize S4.round ⟨s.a, s.b, cx, s.d⟩ = r1 at *
          go_wp2_with fail
          refine (plain_round r1 _).mono ?_
          rintro e X2 ⟨rfl, hX2⟩
          have h2 := h1.grow hX2
          generalize S4.round r1 = r2 at *
          go_wp2_with fail
          refine (plain_round r2 _).mono ?_
          rintro e X3 ⟨rfl, hX3⟩
          have h3 := h2.grow hX3
          generalize S4.round r2 = r3 at *
          go_wp2_with fail
          refine (plain_round r3 _).mono ?_
          rintro e X4 ⟨rfl, hX4⟩
          have h4 := h3.grow hX4
          generalize S4.round r3 = r4 at *
          have HF := Lib.hid hfin
          clear h0 h1 h2 h3 hX hX2 hX3 hX4 hfin k0 k1 k2 k3 f0 f1 f2 f3
          have H4 := Lib.hid h4
          obtain ⟨k0, k1, k2, k3, f0, f1, f2, f3⟩ := h4.look
          clear h4
          go_wp2_with fail
          have hb := H4.out.puts r4
          go_ret
          exact ⟨by rw [HF.out]; rfl, hb.below⟩
    · have e1 : ((m.length : Int) % 8 != 7) = true := by simp; omega
      go_wp2_with fail
      obtain ⟨j, hj, hmj⟩ := hm.out
      refine ⟨⟨m ++ [0], rfl, trivial, Lib.hid ⟨j + 1, ?_, ?_⟩⟩, ?_⟩
      · have := pd_end l
        have : m.length = l.length + j := by rw [hmj]; simp
        have : j ≠ pd l := fun e => hil (by omega)
        omega
      · rw [hmj, List.append_assoc, List.replicate_succ']
      · simp [strLen, ByteArray.size]
        have := pd_end l
        have : m.length = l.length + j := by rw [hmj]; simp
        have : j ≠ pd l := fun e => hil (by omega)
        omega
end Go.Proofs.Ytkdbbdlkfpjdfaa
