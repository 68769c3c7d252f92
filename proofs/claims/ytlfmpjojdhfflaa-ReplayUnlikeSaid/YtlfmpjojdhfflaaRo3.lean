/- ReplayOnce at what came in. -/
import Derived.Test.YtlfmpjojdhfflaaRo2
import Derived.Test.YtlfmpjojdhfflaaOs
namespace Go.Proofs.Ytlfmpjojdhfflaa
open Go.RowKit Go.ChangeShapes Go.WideShapes Go.Deep
instance : Inhabited Id := ⟨id0⟩
section
variable {H : Type} {enc : TypeId × Value → H} {w : World} {base : Nat} {spare : Nat → Bool} {held : Bool} {fuel : Nat} {cs : List Value} {x : DataW H × List MemPlace}
def IdsV (w : World) (v : Value) : Prop := ∃ (A : Option Addr) (c : Nat) (l : List Id), v = .slice A l.length c ∧ Reads w 16 A l.length (rows idc l)
theorem open_ids {v : Value} (h : DataW.trod enc Try.prog w base spare held fuel 27 v.cells.toList = some x) (hv : ∃ A n c, v = .slice A n c) : IdsV w v := by
  obtain ⟨A0, n0, c0, rfl⟩ := hv
  obtain ⟨A, n, c, xs, hcs, hl, hr, _, _, _⟩ := open_rows (X := Id) 16 idc (fun _ => True) Try.underlying27 (by kernel_rfl) (fun _ _ _ h => by
    obtain ⟨a, ha⟩ := open_id h
    exact ⟨a, ha, trivial⟩) h
  simp [Value.cells] at hcs
  obtain ⟨rfl, rfl, rfl⟩ := hcs
  subst hl
  exact ⟨_, _, xs, rfl, hr⟩
end
theorem Once_v (v : Value) (w : World) (h : IdsV w v) : Calls Try.prog 4 #[v] w fun e w' => e = .returned (.bool true) ∧ Fr Nil w w' := by
  obtain ⟨A, c, l, rfl, hr⟩ := h
  exact Fn.top (once_ok l (Vw.of_old .here hr))
end Go.Proofs.Ytlfmpjojdhfflaa
