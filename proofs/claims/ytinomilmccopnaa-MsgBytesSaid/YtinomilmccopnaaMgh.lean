/- MsgBytes at what came in. -/
import Derived.Test.YtinomilmccopnaaMgf
import Derived.Test.YtinomilmccopnaaMg9
namespace Go.Proofs.Ytinomilmccopnaa
open Go.RowKit
theorem Bytes_v (v : Value) (w : World) (h : ∃ m, MsgV w v m) : Calls Try.prog 10 #[v] w fun e w' => e = .returned (.bool true) ∧ Fr Nil w w' := by
  obtain ⟨m, hm⟩ := h
  rw [hm.v]
  exact Fn.top (lawBytes_ok hm.mev hm.b1 hm.b2)
end Go.Proofs.Ytinomilmccopnaa
