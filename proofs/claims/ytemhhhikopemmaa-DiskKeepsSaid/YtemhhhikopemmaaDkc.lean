/- DiskKeeps at what came in. -/
import Derived.Test.YtemhhhikopemmaaDkb
namespace Go.Proofs.Ytemhhhikopemmaa
open Go.RowKit
theorem Keeps_v {v0 v1 : Value} {w : World} (h0 : RawV w v0) (h1 : RawV w v1) {k : Int} (hk : -9223372036854775808 ≤ k ∧ k ≤ 9223372036854775807) : Calls Try.prog 7 #[v0, v1, .int .i64 k] w fun e w' => e = .returned (.bool true) ∧ Fr Nil w w' := by
  obtain ⟨A, c, a, rfl, ha, hab, hc, hm⟩ := h0
  obtain ⟨B, d, b, rfl, hb, hbb, hd, hn⟩ := h1
  unfold maxLen at hm hn
  exact Fn.top (lawKeeps_ok (Vw.of_old .here ha) (Vw.of_old .here hb) hab hbb hd hk (by omega) (by omega))
end Go.Proofs.Ytemhhhikopemmaa
