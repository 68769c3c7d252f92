/- Ids and reports as they come in. -/
import Derived.Test.YtlfmpjojdhfflaaRq6
import Derived.Test.YtlfmpjojdhfflaaOs
namespace Go.Proofs.Ytlfmpjojdhfflaa
open Go.RowKit Go.ChangeShapes Go.WideShapes Go.Deep

section
variable {H : Type} {enc : TypeId × Value → H} {w : World} {base : Nat} {spare : Nat → Bool} {held : Bool} {fuel : Nat} {cs : List Value} {x : DataW H × List MemPlace}
def IdV (_ : World) (v : Value) : Prop := ∃ a : Id, v = a.v
theorem open_id_v {v : Value} (h : DataW.trod enc Try.prog w base spare held fuel 23 v.cells.toList = some x) (hv : ∃ cs, v = .agg cs) : IdV w v := by
  obtain ⟨cs, rfl⟩ := hv
  obtain ⟨a, ha⟩ := open_id h
  refine ⟨a, ?_⟩
  have h1 : cs.toList = bytes a.l := ha
  show Value.agg cs = Value.agg (bytes a.l).toArray
  rw [← h1]
end
theorem Order_v (v u : Value) (w : World) (h : IdV w v) (h' : IdV w u) : Calls Try.prog 3 #[v, u] w fun e w' => e = .returned (.bool true) ∧ Fr Nil w w' := by
  obtain ⟨a, rfl⟩ := h
  obtain ⟨b, rfl⟩ := h'
  exact Fn.top (order_ok a b)
end Go.Proofs.Ytlfmpjojdhfflaa
