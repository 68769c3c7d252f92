/- Structs as they come in: ids, reports. -/
import Derived.Test.YtdmeofobljjpfaaIds
import Derived.Test.YtdmeofobljjpfaaOp
namespace Go.Proofs.Ytdmeofobljjpfaa
open Go.RowKit Go.ChangeShapes Go.WideShapes Go.Deep
section
variable {H : Type} {enc : TypeId × Value → H} {w : World} {base : Nat} {spare : Nat → Bool} {held : Bool} {fuel : Nat} {cs : List Value} {x : DataW H × List MemPlace}
theorem open_id (h : DataW.trod enc Try.prog w base spare held fuel 52 cs = some x) : ∃ a : Id, cs = bytes a.l := by
  obtain ⟨bs, h1, h2, h3⟩ := open_array (n := 16) Try.underlying52 Try.underlying5 (by kernel_rfl) (by kernel_rfl) h
  exact ⟨⟨bs, h2, h3⟩, h1⟩
end
end Go.Proofs.Ytdmeofobljjpfaa
