/- What must be answered ahead of everything else; the reference's cut points; the walks of SizesRounds and SizesParts.
   Conditions: the arguments are int's. -/
import Derived.Test.YtkdbbdlkfpjdfaaSzB
namespace Go.Proofs.Ytkdbbdlkfpjdfaa
set_option maxRecDepth 100000
set_option linter.unusedVariables false
set_option linter.unusedSimpArgs false
open Go.RowKit Go.Shelf Go.Rg
attribute [local go_sem] Rg.max2_int Rg.min2_int Rg.max_two Rg.min_two

theorem row_cells_int {w : World} {base : Nat} {v : Value} {n : Nat} {xs : List Value} (h : w.ownsRow base 3 1 v n xs) (h0 : 0 < n) : ∃ g cap, v = .slice (some ⟨g, 0, none⟩) n cap ∧ n ≤ cap ∧ g < w.heap.size ∧ ∀ j, j < n → w.cell? ⟨g, j, none⟩ = xs[j]? := by
  rcases h.2 with ⟨_, h1⟩ | ⟨g, cap, cur, rfl, hb, hg, hc, hrest⟩
  · omega
  · exact ⟨g, cap, rfl, hc, (h.lt g rfl).2, fun j hj => h.cellAt j (by omega)⟩

set_option maxRecDepth 100000 in
set_option maxHeartbeats 1000000 in
theorem szfirst_any (w : World) : Calls Try.prog 54 #[] w fun e w' => e = .returned (.bool true) ∧ Below w.heap.size w w' := by
  go_enter Try.func54, Try.ntmps54
  go_wp2_with fail
  refine (lawround_any 0 9 _).mono ?_
  rintro e w1 ⟨va, vb, rfl, ra, rb, hB⟩
  have ex : (rnds 0).take (Int.toNat 9) = [(0, 12), (1, 24), (2, 48), (3, 96)] := by decide
  rw [ex] at ra rb
  obtain ⟨ga, ca, rfl, hca, _, fa⟩ := row_cells_int ra (by decide)
  obtain ⟨gb, cb, rfl, hcb, _, fb⟩ := row_cells_int rb (by decide)
  have a3 : w1.cell? ⟨ga, 3, none⟩ = some (.int .i64 3) := fa 3 (by decide)
  have b3 : w1.cell? ⟨gb, 3, none⟩ = some (.int .i64 96) := fb 3 (by decide)
  clear fa fb ex ra rb
  go_wp2_with fail
  refine (szrange_any 60 1 _).mono ?_
  rintro e w2 ⟨rfl, rfl⟩
  rw [show rangeA 60 1 = 48 by decide, show rangeB 60 1 = 60 by decide, show rangeOk 60 1 = true by decide]
  go_wp2_with fail
  refine (szcells_any 0 _).mono ?_
  rintro e w2 ⟨rfl, rfl⟩
  rw [show cellsV 0 = 12 by decide]
  go_wp2_with fail
  refine (sznext_any 1536 _).mono ?_
  rintro e w2 ⟨rfl, rfl⟩
  rw [show nextV 1536 = 1536 by decide]
  go_wp2_with fail
  refine (sznext_any 4 _).mono ?_
  rintro e w2 ⟨rfl, rfl⟩
  rw [show nextV 4 = 0 by decide]
  go_wp2_with fail
  refine (szparts_any 60 _).mono ?_
  rintro e w2 ⟨rfl, rfl⟩
  rw [show partsV 60 = 2 by decide]
  go_wp2_with fail
  refine (szbytes_any 3 _).mono ?_
  rintro e w2 ⟨rfl, rfl⟩
  rw [show bytesV 3 = 84 by decide]
  go_wp2_with fail
  go_ret
  exact ⟨rfl, hB⟩

theorem rnds_take (g : Int) (k : Nat) : (rnds g).take k = rup g (min k 4) := by
  unfold rnds rup
  rw [← List.map_take, List.take_range]
theorem rup_get (g : Int) (m i : Nat) (h : i < m) (f : Int × Int → Value) : ((rup g m).map f)[i]? = some (f ((i : Int), sizeAt g i)) := by
  simp [rup, h]

/-- The cut points. -/
def cuts (n k : Nat) : List Value := (List.range (k + 1)).map fun j => .int .i64 (min n (48 * j) : Nat)
theorem cuts_len (n k : Nat) : (cuts n k).length = k + 1 := by simp [cuts]
theorem cuts_succ (n k : Nat) : cuts n (k + 1) = cuts n k ++ [.int .i64 (min n (48 * (k + 1)) : Nat)] := by
  unfold cuts
  rw [List.range_succ, List.map_append]; rfl
theorem cuts_get (n k j : Nat) (h : j ≤ k) : (cuts n k)[j]? = some (.int .i64 (min n (48 * j) : Nat)) := by
  simp [cuts, show j < k + 1 by omega]

end Go.Proofs.Ytkdbbdlkfpjdfaa
