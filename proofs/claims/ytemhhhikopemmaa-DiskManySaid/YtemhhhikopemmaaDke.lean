/- DiskMany at what came in. -/
import Derived.Test.YtemhhhikopemmaaDkd
namespace Go.Proofs.Ytemhhhikopemmaa
open Go.RowKit
theorem Many_v {z : Int} {w : World} (hz : 0 ≤ z ∧ z ≤ 255) : Calls Try.prog 6 #[.int .u8 z] w fun e w' => e = .returned (.bool true) ∧ Fr Nil w w' := Fn.top (lawMany_ok hz)
end Go.Proofs.Ytemhhhikopemmaa
