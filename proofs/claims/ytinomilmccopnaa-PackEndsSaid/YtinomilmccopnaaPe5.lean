/- PackEnds at what came in. -/
import Derived.Test.YtinomilmccopnaaPe3
import Derived.Test.YtinomilmccopnaaTh7
namespace Go.Proofs.Ytinomilmccopnaa
open Go.RowKit
theorem Ends_v (v : Value) (a b c d : Int) (w : World) (h : ThsV w v) (ha : 0 ≤ a ∧ a ≤ 65535) (hc : -9223372036854775808 ≤ c ∧ c ≤ 9223372036854775807) : Calls Try.prog 6 #[v, .int .u16 a, .int .i64 b, .int .i64 c, .int .i64 d] w fun e w' => e = .returned (.bool true) ∧ Fr Nil w w' := by
  obtain ⟨A, n, cp, xs, rfl, hT, _, _⟩ := h
  exact Ends_any hT ha hc
end Go.Proofs.Ytinomilmccopnaa
