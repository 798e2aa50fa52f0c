/- Openers of rows: bytes, numbers.
   Conditions: those that each theorem names. -/
import Derived.Test.YtehfinjcfjobeaaBytes
import Derived.Lib.SmallJoins
import Derived.Deep.Slices
import Derived.ChangeSlices
namespace Go.Proofs.Ytehfinjcfjobeaa
set_option maxRecDepth 100000
set_option linter.unusedVariables false
set_option linter.unusedSimpArgs false
set_option linter.unusedVariables false
open Go.RowKit Go.Rg Go.ChangeShapes Go.Deep Go.Joins
theorem spot_none {w : World} {a : Addr} {v : Value} (h : w.cell? a = some v) : a.spot = none ∧ a.block < w.heap.size := by
  unfold World.cell? at h
  split at h
  · rename_i heq
    refine ⟨?_, (Array.getElem?_eq_some_iff.1 heq).1⟩
    cases hs : a.spot with
    | none => rfl
    | some k => rw [hs] at h; simp at h
  · cases h
theorem add_off {w : World} {a : Addr} {u : Value} (i : Nat) (h : w.cell? (a.add 0) = some u) : a = ⟨a.block, a.off, none⟩ ∧ a.add i = ⟨a.block, a.off + i, none⟩ := by
  obtain ⟨b, o, s⟩ := a
  have h0 : (⟨b, o, s⟩ : Addr).add 0 = ⟨b, o, s⟩ := by unfold Addr.add; simp
  rw [h0] at h
  have := (spot_none h).1
  simp only at this
  subst this
  refine ⟨rfl, ?_⟩
  unfold Addr.add
  split
  · rename_i hi; subst hi; rfl
  · rfl
def bytesOf (zs : List Int) : List UInt8 := zs.map fun z => UInt8.ofNat z.toNat
section
variable {H : Type} {enc : TypeId × Value → H} {w : World} {base : Nat} {spare : Nat → Bool} {held : Bool}
/-- What is read of bytes is as long as they are. -/
def FitB (d : DataW H) (l : List UInt8) : Prop := d = .nil ∧ l = [] ∨ ∃ es rest, d = .slice es rest ∧ es.length = l.length
theorem open_byteslice {fuel : Nat} {v : Value} {x : DataW H × List MemPlace} (h : DataW.trod enc Try.prog w base spare held fuel 25 [v] = some x) :
    ∃ l : List UInt8, BytesAt w v l ∧ FitB x.1 l := by
  rcases open_ints (P := Try.prog) (e := 5) rfl rfl rfl h with ⟨hc, rfl⟩ | ⟨a, len, cap, zs, hc, hb, hl, hm, hz, rfl, hx, hw⟩
  · cases hc
    exact ⟨[], ⟨none, 0, rfl, fun i hi => by simp at hi⟩, .inl ⟨rfl, rfl⟩⟩
  · cases hc
    have hle : len ≤ zs.length := by rw [hz]; split <;> omega
    refine ⟨bytesOf (zs.take len), ⟨some a, cap, ?_, fun i hi => ?_⟩, .inr ⟨_, _, rfl, ?_⟩⟩
    · simp [bytesOf, Nat.min_eq_left hle]
    · have hi' : i < len := by simpa [bytesOf, Nat.min_eq_left hle] using hi
      have hcell := hx i (by omega)
      obtain ⟨h1, h2⟩ := spot_none hcell
      obtain ⟨h3, h4⟩ := add_off i (hx 0 (by omega))
      rw [h4] at hcell h2
      refine ⟨a.block, a.off, congrArg some h3, h2, ?_⟩
      · have hwf := hw (zs[i]'(by omega)) (List.getElem_mem _)
        have hr : 0 ≤ zs[i]'(by omega) ∧ zs[i]'(by omega) ≤ 255 := by
          simpa [Lit.wf, IntKind.min, IntKind.max, IntKind.signed, IntKind.bits] using hwf
        rw [hcell]
        simp [bytesOf, hi', List.getD, List.getElem?_eq_getElem (show i < zs.length by omega)]
        omega
    · simp [bytesOf, lits]
theorem open_bytes_any {a : Option Addr} {n c : Nat} {d : DataW H} {p : List MemPlace} (h : DataW.Trod enc Try.prog w base spare held 25 (.slice a n c) d p) :
    ∃ l : List UInt8, n = l.length ∧ l.length ≤ c ∧ BytesAt w (.slice a l.length c) l ∧ FitB d l := by
  obtain ⟨fuel, hf⟩ := h
  obtain ⟨l, hl, hd⟩ := open_byteslice (x := (d, p)) hf
  obtain ⟨q, c', e, hb⟩ := id hl
  cases e
  refine ⟨l, rfl, ?_, hl, hd⟩
  rcases open_ints (P := Try.prog) (e := 5) rfl rfl rfl hf with ⟨hc, _⟩ | ⟨a, len, cap, zs, hc, _, hl, _⟩
  · injection hc with h1
    injection h1 with _ h2 h3
    omega
  · injection hc with h1
    injection h1 with _ h2 h3
    omega
theorem fit_small {d : DataW H} {l : List UInt8} (h : FitB d l) (hs : ∀ n ∈ d.weights Try.prog 25, n ≤ reachBytes) : l.length ≤ 1000000000000000 := by
  have hrb : reachBytes < 2 ^ 47 := reachBytes_lt
  rcases h with ⟨rfl, rfl⟩ | ⟨es, r, rfl, el⟩
  · simp
  · have hu2 : Try.prog.underlying 25 = some (.slice 5) := rfl
    have hb2 : Try.prog.bytesOf 5 = 1 := by kernel_rfl
    have := hs ((es.length + r.length) * Try.prog.bytesOf 5) (by simp [DataW.weights, hu2])
    rw [hb2] at this
    omega
end
theorem u64_wf {z : Int} (h : (Lit.int .u64 z).wf = true) : ∃ A, z = U A := by
  have hb : 0 ≤ z ∧ z ≤ 18446744073709551615 := by simpa [Lit.wf, IntKind.min, IntKind.max, IntKind.signed, IntKind.bits] using h
  refine ⟨UInt64.ofNat z.toNat, ?_⟩
  unfold U
  rw [UInt64.toNat_ofNat']
  omega
theorem i64_wf {n : Int} (h : (Lit.int .i64 n).wf = true) : -9223372036854775808 ≤ n ∧ n ≤ 9223372036854775807 := by
  simpa [Lit.wf, IntKind.min, IntKind.max, IntKind.signed, IntKind.bits] using h
theorem weightsAll_mem {H : Type} {P : Program} {e : TypeId} {n : Nat} : ∀ {l : List (DataW H)} {d : DataW H}, d ∈ l → n ∈ d.weights P e → n ∈ DataW.weightsAll P e l
  | x :: l, d, h, hn => by
    simp only [DataW.weightsAll, List.mem_append]
    rcases List.mem_cons.1 h with rfl | h
    · exact .inl hn
    · exact .inr (weightsAll_mem h hn)
/-- Cells of an element of a slice. -/
theorem elem_cells {w : World} {base k : Nat} {a : Addr} {cs0 cs : List Value} (h0 : w.cells? base (a.add (0 * k)) k = some cs0) (hk : 0 < k) (i : Nat) (h : w.cells? base (a.add (i * k)) k = some cs) :
    a = ⟨a.block, a.off, none⟩ ∧ a.block < w.heap.size ∧ cs.length = k ∧ ∀ j, j < k → w.cell? ⟨a.block, a.off + i * k + j, none⟩ = cs[j]? := by
  obtain ⟨_, hl0, hc0⟩ := World.cells?_some h0
  obtain ⟨_, hl, hc⟩ := World.cells?_some h
  have k0 := hc0 0 hk
  have k0' : w.cell? (a.add 0) = some (cs0[0]'(by omega)) := by
    rw [List.getElem?_eq_getElem (by omega)] at k0
    simpa [Addr.add] using k0
  obtain ⟨e1, e2⟩ := add_off 0 k0'
  obtain ⟨_, hlt⟩ := spot_none k0'
  rw [e2] at hlt
  refine ⟨e1, hlt, hl, fun j hj => ?_⟩
  rw [← hc j hj]
  have e3 := (add_off (i * k) k0').2
  rw [e3]
  congr 1
  unfold Addr.add
  split
  · rename_i h; subst h; rfl
  · rfl
end Go.Proofs.Ytehfinjcfjobeaa
