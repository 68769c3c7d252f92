/- PackThings at what came in. -/
import Derived.Test.YtinomilmccopnaaTh6
import Derived.Test.YtinomilmccopnaaTh7
namespace Go.Proofs.Ytinomilmccopnaa
open Go.RowKit
theorem Things_v (v u : Value) (w : World) (h : ThsV w v) (h' : BytesV w u) : Calls Try.prog 8 #[v, u] w fun e w' => e = .returned (.bool true) ∧ Fr Nil w w' := by
  obtain ⟨A, n, c, xs, rfl, hT, _, _⟩ := h
  obtain ⟨bs, B, m, d, rfl, hr, hb, _, _⟩ := h'
  exact Things_any hT hr hb
end Go.Proofs.Ytinomilmccopnaa
