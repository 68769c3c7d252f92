/- DiskNone at what came in. -/
import Derived.Test.YtemhhhikopemmaaDka
import Derived.Test.YtemhhhikopemmaaRaw
namespace Go.Proofs.Ytemhhhikopemmaa
open Go.RowKit
theorem None_v {s : ByteArray} {v : Value} {w : World} (h : RawV w v) {k : Int} : Calls Try.prog 9 #[.string s, v, .int .i64 k] w fun e w' => e = .returned (.bool true) ∧ Fr Nil w w' := by
  obtain ⟨A, c, l, rfl, _, _, hc, hm⟩ := h
  exact Fn.top (lawNone_ok (by unfold maxLen at hm; omega))
end Go.Proofs.Ytemhhhikopemmaa
