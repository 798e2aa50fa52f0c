/- Slices of bytes, and slices of them, opened out of an argument.
   Conditions: those that each theorem names. -/
import Derived.Test.YtfebfpfmjdeedaaC
import Derived.Deep.Slices
import Derived.ChangeSlices
import Derived.SizedLaws
namespace Go.Proofs.Ytfebfpfmjdeedaa
open Go.RowKit Go.Rg Go.ChangeShapes Go.Deep
theorem spot_none {w : World} {a : Addr} {v : Value} (h : w.cell? a = some v) : a.spot = none ∧ a.block < w.heap.size := by
  unfold World.cell? at h
  split at h
  · rename_i heq
    refine ⟨?_, (Array.getElem?_eq_some_iff.1 heq).1⟩
    cases hs : a.spot with
    | none => rfl
    | some k => rw [hs] at h; simp at h
  · cases h
theorem add_off {w : World} {a : Addr} {u : Value} (i : Nat) (h : w.cell? (a.add 0) = some u) : a = ⟨a.block, a.off, none⟩ ∧ a.add i = ⟨a.block, a.off + i, none⟩ := by
  obtain ⟨b, o, s⟩ := a
  have h0 : (⟨b, o, s⟩ : Addr).add 0 = ⟨b, o, s⟩ := by unfold Addr.add; simp
  rw [h0] at h
  have := (spot_none h).1
  simp only at this
  subst this
  refine ⟨rfl, ?_⟩
  unfold Addr.add
  split
  · rename_i hi; subst hi; rfl
  · rfl
def bytesOf (zs : List Int) : List UInt8 := zs.map fun z => UInt8.ofNat z.toNat
section
variable {H : Type} {enc : TypeId × Value → H} {w : World} {base : Nat} {spare : Nat → Bool} {held : Bool}
theorem open_byteslice {fuel : Nat} {v : Value} {x : DataW H × List MemPlace} (h : DataW.trod enc Try.prog w base spare held fuel 37 [v] = some x) :
    ∃ l : List UInt8, BytesAt w v l ∧ (x.1 = .nil ∧ l = [] ∨ ∃ es rest, x.1 = .slice es rest ∧ es.length = l.length) := by
  rcases open_ints (P := Try.prog) (e := 5) rfl rfl rfl h with ⟨hc, rfl⟩ | ⟨a, len, cap, zs, hc, hb, hl, hm, hz, rfl, hx, hw⟩
  · cases hc
    exact ⟨[], ⟨none, 0, rfl, fun i hi => by simp at hi⟩, .inl ⟨rfl, rfl⟩⟩
  · cases hc
    have hle : len ≤ zs.length := by rw [hz]; split <;> omega
    refine ⟨bytesOf (zs.take len), ⟨some a, cap, ?_, fun i hi => ?_⟩, .inr ⟨_, _, rfl, ?_⟩⟩
    · simp [bytesOf, Nat.min_eq_left hle]
    · have hi' : i < len := by simpa [bytesOf, Nat.min_eq_left hle] using hi
      have hcell := hx i (by omega)
      obtain ⟨h1, h2⟩ := spot_none hcell
      obtain ⟨h3, h4⟩ := add_off i (hx 0 (by omega))
      rw [h4] at hcell h2
      refine ⟨a.block, a.off, congrArg some h3, h2, ?_⟩
      · have hwf := hw (zs[i]'(by omega)) (List.getElem_mem _)
        have hr : 0 ≤ zs[i]'(by omega) ∧ zs[i]'(by omega) ≤ 255 := by
          simpa [Lit.wf, IntKind.min, IntKind.max, IntKind.signed, IntKind.bits] using hwf
        rw [hcell]
        simp [bytesOf, hi', List.getD, List.getElem?_eq_getElem (show i < zs.length by omega)]
        omega
    · simp [bytesOf, lits]
theorem open_rows {fuel : Nat} {v : Value} {x : DataW H × List MemPlace} (h : DataW.trod enc Try.prog w base spare held fuel 25 [v] = some x) :
    ∃ ls : List (List UInt8), RowsAt w v ls ∧ (x.1 = .nil ∧ ls = [] ∨ ∃ (D : Nat → DataW H) (rest : List (DataW H)), x.1 = .slice ((List.range ls.length).map D) rest ∧
      ∀ i, i < ls.length → D i = .nil ∧ ls[i]?.getD [] = [] ∨ ∃ es r, D i = .slice es r ∧ es.length = (ls[i]?.getD []).length) := by
  rcases Go.Deep.open_slice1 (P := Try.prog) (e := 37) rfl rfl h with ⟨hc, rfl⟩ | ⟨a, len, cap, m, n, V, D, Pl, hc, hb, hl, hm, hmm, rfl, hx⟩
  · cases hc
    exact ⟨[], ⟨none, 0, rfl, fun i hi => by simp at hi⟩, .inl ⟨rfl, rfl⟩⟩
  · cases hc
    have hle : len ≤ m := by rw [hmm]; split <;> omega
    obtain ⟨L, hL⟩ := choose_lt (α := List UInt8) (n := len) (p := fun i l => BytesAt w (V i) l ∧ (D i = .nil ∧ l = [] ∨ ∃ es rest, D i = .slice es rest ∧ es.length = l.length))
      (fun i hi => open_byteslice (hx i (by omega)).2)
    refine ⟨(List.range len).map L, ⟨some a, cap, by simp, fun i hi => ?_⟩, .inr ⟨D, (List.range (m - len)).map fun j => D (len + j), by simp, fun i hi => ?_⟩⟩
    · have hi' : i < len := by simpa using hi
      have hcell := (hx i (by omega)).1
      obtain ⟨h1, h2⟩ := spot_none hcell
      obtain ⟨h3, h4⟩ := add_off i (hx 0 (by omega)).1
      rw [h4] at hcell h2
      refine ⟨a.block, a.off, V i, congrArg some h3, h2, hcell, ?_⟩
      · have := (hL i hi').1
        simpa [hi'] using this
    · have hi' : i < len := by simpa using hi
      have := (hL i hi').2
      simpa [hi'] using this
end
theorem u64_wf {z : Int} (h : (Lit.int .u64 z).wf = true) : ∃ A, z = U A := by
  have hr : 0 ≤ z ∧ z ≤ 18446744073709551615 := by simpa [Lit.wf, IntKind.min, IntKind.max, IntKind.signed, IntKind.bits] using h
  refine ⟨UInt64.ofNat z.toNat, ?_⟩
  unfold U
  rw [UInt64.toNat_ofNat']
  omega
def Fits {H : Type} (d : DataW H) (ls : List (List UInt8)) : Prop :=
  d = .nil ∧ ls = [] ∨ ∃ (D : Nat → DataW H) (rest : List (DataW H)), d = .slice ((List.range ls.length).map D) rest ∧
      ∀ i, i < ls.length → D i = .nil ∧ ls[i]?.getD [] = [] ∨ ∃ es r, D i = .slice es r ∧ es.length = (ls[i]?.getD []).length
theorem open_rows_any {H : Type} {enc : TypeId × Value → H} {w : World} {base : Nat} {spare : Nat → Bool} {held : Bool} {a : Option Addr} {n c : Nat} {d : DataW H} {p : List MemPlace} (h : DataW.Trod enc Try.prog w base spare held 25 (.slice a n c) d p) :
    ∃ ls : List (List UInt8), RowsAt w (.slice a n c) ls ∧ Fits d ls := by
  obtain ⟨fuel, hf⟩ := h
  exact open_rows (x := (d, p)) hf
theorem weightsAll_mem {H : Type} {P : Program} {e : TypeId} {n : Nat} : ∀ {l : List (DataW H)} {d : DataW H}, d ∈ l → n ∈ d.weights P e → n ∈ DataW.weightsAll P e l
  | x :: l, d, h, hn => by
    simp only [DataW.weightsAll, List.mem_append]
    rcases List.mem_cons.1 h with rfl | h
    · exact .inl hn
    · exact .inr (weightsAll_mem h hn)
theorem fits_small {H : Type} {d : DataW H} {ls : List (List UInt8)} (h : Fits d ls) (hs : ∀ n ∈ d.weights Try.prog 25, n ≤ reachBytes) :
    ls.length ≤ 1000000000000000 ∧ ∀ i : Nat, (ls[i]?.getD []).length ≤ 1000000000000000 := by
  have hrb : reachBytes < 2 ^ 47 := reachBytes_lt
  rcases h with ⟨rfl, rfl⟩ | ⟨D, rest, rfl, hD⟩
  · exact ⟨by simp, fun i => by simp⟩
  · have hu : Try.prog.underlying 25 = some (.slice 37) := rfl
    have hu2 : Try.prog.underlying 37 = some (.slice 5) := rfl
    have hb : Try.prog.bytesOf 37 = 24 := by kernel_rfl
    have hb2 : Try.prog.bytesOf 5 = 1 := by kernel_rfl
    simp only [DataW.weights, hu] at hs
    refine ⟨?_, fun i => ?_⟩
    · have := hs _ (List.mem_cons_self ..)
      rw [hb] at this
      simp at this
      omega
    · by_cases hi : i < ls.length
      · rcases hD i hi with ⟨_, e⟩ | ⟨es, r, e, el⟩
        · rw [e]; simp
        · have hm : D i ∈ (List.range ls.length).map D := List.mem_map.2 ⟨i, List.mem_range.2 hi, rfl⟩
          have h1 : (es.length + r.length) * Try.prog.bytesOf 5 ∈ (D i).weights Try.prog 37 := by
            rw [e]; simp [DataW.weights, hu2]
          have := hs _ (List.mem_cons_of_mem _ (List.mem_append_left _ (weightsAll_mem hm h1)))
          rw [hb2] at this
          omega
      · rw [List.getElem?_eq_none (by omega)]; simp
end Go.Proofs.Ytfebfpfmjdeedaa
