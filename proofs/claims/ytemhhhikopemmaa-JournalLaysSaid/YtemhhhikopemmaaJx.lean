/- JournalLays at what came in. -/
import Derived.Test.YtemhhhikopemmaaJw
namespace Go.Proofs.Ytemhhhikopemmaa
open Go.RowKit
theorem JLays_v (v0 : Value) (a1 : Int) (v2 : Value) (w : World) (h0 : LsVV w v0) (h1 : -9223372036854775808 ≤ a1 ∧ a1 ≤ 9223372036854775807) (h2 : BxV w v2) : Calls Try.prog 3 #[v0, .int .i64 a1, v2] w fun e w' => e = .returned (.bool true) ∧ Fr Nil w w' := by
  obtain ⟨R, c, xs, rfl, hx, hxm⟩ := h0
  obtain ⟨b, rfl, hb⟩ := h2
  exact Fn.top (lawLays_ok hx hxm hb h1)
end Go.Proofs.Ytemhhhikopemmaa
