/- StatsClamps at what came in. -/
import Derived.Test.YtidphdlhghgglaaCn
namespace Go.Proofs.Ytidphdlhghgglaa
open Go.RowKit
theorem lw {b : Nat} (h : (Lit.float .f64 b).wf = true) : b < 18446744073709551616 := by simpa [Lit.wf] using h
theorem Clamps_v {a b c d : Nat} {w : World} (ha : a < 18446744073709551616) (hb : b < 18446744073709551616) (hc : c < 18446744073709551616) (hd : d < 18446744073709551616) : Calls Try.prog 4 #[.float .f64 a, .float .f64 b, .float .f64 c, .float .f64 d] w fun e w' => e = .returned (.bool true) ∧ Fr Nil w w' := Fn.top (lawClamps_ok ha hb hc hd)
end Go.Proofs.Ytidphdlhghgglaa
