/- The law PeerTells: both walks together.
   Conditions: the arguments are int's. -/
import Derived.Test.YtlapamepkamnbaaD
namespace Go.Proofs.Ytlapamepkamnbaa
open Go.RowKit
theorem tells_any (n node turn rounds : Int) (w : World) (ht : -9223372036854775808 ≤ turn ∧ turn ≤ 9223372036854775807) :
    Calls Try.prog 3 #[.agg #[.int .i64 n, .int .i64 node, .int .i64 turn, .int .i64 rounds]] w fun e w' => e = .returned (.bool true) ∧ Below w.heap.size w w' := by
  by_cases h : 2 ≤ n ∧ n ≤ 8
  · obtain ⟨N, rfl⟩ := Int.eq_ofNat_of_zero_le (show 0 ≤ n by omega)
    exact tells_yes N node turn rounds w (by omega) (by omega) ht.2 ht.1
  · exact tells_no n node turn rounds w h ht.2
end Go.Proofs.Ytlapamepkamnbaa
