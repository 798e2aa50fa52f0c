/- The opener of the row of PenWrites: a slice of writes.
   Conditions: those that each theorem names. -/
import Derived.Test.YtfmgkllnncibaaaOpen
import Derived.Test.YtfmgkllnncibaaaI
namespace Go.Proofs.Ytfmgkllnncibaaa
set_option linter.unusedVariables false
open Go.RowKit Go.Rg Go.ChangeShapes Go.Joins Go.Deep
variable {H : Type} {enc : TypeId × Value → H} {w : World} {base : Nat} {spare : Nat → Bool} {held : Bool}
instance : Inhabited OutOp := ⟨⟨0, 0, 0, []⟩⟩
def FitO (d : DataW H) (q : OutOp) : Prop := ∃ d0 d1 d2 d3, d = .agg [d0, d1, d2, d3] ∧ FitB d3 q.b
theorem open_out {n : Nat} {cs : List Value} {x : DataW H × List MemPlace} (h : DataW.trod enc Try.prog w base spare held n 67 cs = some x) :
    ∃ (q : OutOp) (u : Value), cs = [.int .i64 q.kind, .int .i64 q.n, .int .u64 (U q.u), u] ∧ BytesAt w u q.b ∧ FitO x.1 q ∧ (-9223372036854775808 ≤ q.kind ∧ q.kind ≤ 9223372036854775807) ∧ (-9223372036854775808 ≤ q.n ∧ q.n ≤ 9223372036854775807) := by
  obtain ⟨y0, y1, y2, y3, n', hx, hl, h0, h1, h2, h3⟩ := trod_struct4 (P := Try.prog) Try.underlying67 h
  have c0 : Try.prog.cellsOf 67 = 4 := by kernel_rfl
  have c1 : Try.prog.cellsOf 3 = 1 := by kernel_rfl
  have c2 : Try.prog.cellsOf 23 = 1 := by kernel_rfl
  have c3 : Try.prog.cellsOf 29 = 1 := by kernel_rfl
  rw [c0] at hl
  match cs, hl with
  | [v0, v1, v2, v3], _ =>
    simp [c1, c2, c3] at h0 h1 h2 h3
    obtain ⟨z0, e0, _, w0⟩ := DataW.trod_int (P := Try.prog) Try.underlying3 h0
    obtain ⟨z1, e1, _, w1⟩ := DataW.trod_int (P := Try.prog) Try.underlying3 h1
    obtain ⟨z2, e2, _, w2⟩ := DataW.trod_int (P := Try.prog) Try.underlying23 h2
    obtain ⟨l, hl, hfit⟩ := open_byteslice h3
    obtain ⟨u, rfl⟩ := u64_wf w2
    simp at e0 e1 e2
    subst e0 e1 e2
    exact ⟨⟨z0, z1, u, l⟩, v3, rfl, hl, ⟨_, _, _, _, by rw [hx], hfit⟩, i64_wf w0, i64_wf w1⟩
theorem open_outs {a : Option Addr} {n c : Nat} {d : DataW H} {p : List MemPlace} (h : DataW.Trod enc Try.prog w base spare held 22 (.slice a n c) d p) (hs : ∀ n ∈ d.weights Try.prog 22, n ≤ reachBytes) :
    ∃ os : List OutOp, OutsAt w (.slice a n c) os ∧ os.length ≤ 1000000000000000 ∧ ∀ q ∈ os, q.b.length ≤ 1000000000000000 := by
  have hrb : reachBytes < 2 ^ 47 := reachBytes_lt
  obtain ⟨fuel, hf⟩ := h
  rcases Go.Deep.open_slice (P := Try.prog) (e := 67) rfl hf with ⟨hc, _⟩ | ⟨a, len, cap, m, n', D, Pl, hc, hb, hl, hm, hmm, hd, hx⟩
  · cases hc
    exact ⟨[], ⟨none, 0, rfl, fun i hi => by simp at hi⟩, by simp, fun q hq => by cases hq⟩
  · cases hc
    have hle : n ≤ m := by rw [hmm]; split <;> omega
    have c0 : Try.prog.cellsOf 67 = 4 := by kernel_rfl
    have hu : Try.prog.underlying 22 = some (.slice 67) := rfl
    have hu2 : Try.prog.underlying 67 = some _ := Try.underlying67
    have hby : Try.prog.bytesOf 67 = 48 := by kernel_rfl
    simp only [Prod.mk.injEq] at hd
    obtain ⟨rfl, _⟩ := hd
    rw [c0] at hx
    obtain ⟨L, hL⟩ := Go.Deep.choose_lt (α := OutOp) (n := n) (p := fun i q => (∃ g o u, some a = some (⟨g, o, none⟩ : Addr) ∧ g < w.heap.size ∧ w.cell? ⟨g, o + i * 4, none⟩ = some (.int .i64 q.kind) ∧ w.cell? ⟨g, o + i * 4 + 1, none⟩ = some (.int .i64 q.n) ∧
        w.cell? ⟨g, o + i * 4 + 2, none⟩ = some (.int .u64 (U q.u)) ∧ w.cell? ⟨g, o + i * 4 + 3, none⟩ = some u ∧ BytesAt w u q.b ∧ (-9223372036854775808 ≤ q.kind ∧ q.kind ≤ 9223372036854775807) ∧ (-9223372036854775808 ≤ q.n ∧ q.n ≤ 9223372036854775807)) ∧ FitO (D i) q)
      (fun i hi => by
        obtain ⟨cs', h1, h2⟩ := hx i (by omega)
        obtain ⟨q, u, rfl, hu, hfit, hk, ha⟩ := open_out h2
        obtain ⟨cs0, h10, _⟩ := hx 0 (by omega)
        obtain ⟨e1, hlt, _, hcell⟩ := elem_cells h10 (by omega) i h1
        exact ⟨q, ⟨a.block, a.off, u, congrArg some e1, hlt, hcell 0 (by omega), hcell 1 (by omega), hcell 2 (by omega), hcell 3 (by omega), hu, hk, ha⟩, hfit⟩)
    simp only [DataW.weights, hu] at hs
    refine ⟨(List.range n).map L, ⟨some a, c, by simp, fun i hi => ?_⟩, ?_, fun q hq => ?_⟩
    · have hi' : i < n := by simpa using hi
      obtain ⟨⟨g, o, u, h1, h2, h3, h4, h5, h6, h7, h8⟩, _⟩ := hL i hi'
      exact ⟨g, o, u, L i, h1, h2, by simp [hi'], h3, h4, h5, h6, h7, h8⟩
    · have := hs _ (List.mem_cons_self ..)
      rw [hby] at this
      simp at this ⊢
      omega
    · obtain ⟨i, hi, rfl⟩ := List.mem_map.1 hq
      have hi' : i < n := List.mem_range.1 hi
      obtain ⟨_, d0, d1, d2, d3, e, hfb⟩ := hL i hi'
      refine fit_small hfb (fun k hk => ?_)
      have hm' : D i ∈ (List.range n).map D := List.mem_map.2 ⟨i, hi, rfl⟩
      refine hs _ (List.mem_cons_of_mem _ (List.mem_append_left _ (weightsAll_mem hm' ?_)))
      rw [e]
      simp only [DataW.weights, hu2]
      simp [DataW.weightsEach, hk]
end Go.Proofs.Ytfmgkllnncibaaa
