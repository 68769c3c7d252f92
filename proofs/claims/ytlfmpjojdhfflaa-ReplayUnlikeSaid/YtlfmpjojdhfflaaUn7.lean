/- ReplayUnlike at what came in. -/
import Derived.Test.YtlfmpjojdhfflaaUn6
import Derived.Test.YtlfmpjojdhfflaaOs
namespace Go.Proofs.Ytlfmpjojdhfflaa
open Go.RowKit Go.ChangeShapes Go.WideShapes Go.Deep
instance : Inhabited Seen := ⟨seen0⟩
section
variable {H : Type} {enc : TypeId × Value → H} {w : World} {base : Nat} {spare : Nat → Bool} {held : Bool} {fuel : Nat} {cs : List Value} {x : DataW H × List MemPlace}
def SeensV (w : World) (v : Value) : Prop := ∃ (A : Option Addr) (c : Nat) (l : List Seen), v = .slice A l.length c ∧ Reads w 18 A l.length (rows Seen.cells l)
theorem open_seens {v : Value} (h : DataW.trod enc Try.prog w base spare held fuel 37 v.cells.toList = some x) (hv : ∃ A n c, v = .slice A n c) : SeensV w v := by
  obtain ⟨A0, n0, c0, rfl⟩ := hv
  obtain ⟨A, n, c, xs, hcs, hl, hr, _, _, _⟩ := open_rows (X := Seen) 18 Seen.cells (fun _ => True) Try.underlying37 (by kernel_rfl) (fun _ _ _ h => by
    obtain ⟨a, ha⟩ := open_seen h
    exact ⟨a, ha, trivial⟩) h
  simp [Value.cells] at hcs
  obtain ⟨rfl, rfl, rfl⟩ := hcs
  subst hl
  exact ⟨_, _, xs, rfl, hr⟩
end
theorem Unlike_v (v u : Value) (w : World) (h : SeensV w v) (h2 : SeensV w u) : Calls Try.prog 5 #[v, u] w fun e w' => e = .returned (.bool true) ∧ Fr Nil w w' := by
  obtain ⟨A, c, l, rfl, hr⟩ := h
  obtain ⟨B, d, k, rfl, hk⟩ := h2
  exact Fn.top (lawUnlike_ok (Vw.of_old .here hr) (Vw.of_old .here hk))
end Go.Proofs.Ytlfmpjojdhfflaa
