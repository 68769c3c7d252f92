/- Bytes that came in. -/
import Derived.Test.YtemhhhikopemmaaSp4
import Derived.Test.YtemhhhikopemmaaOp
namespace Go.Proofs.Ytemhhhikopemmaa
open Go.RowKit Go.ChangeShapes Go.WideShapes
def RawV (w : World) (v : Value) : Prop := ∃ (A : Option Addr) (c : Nat) (l : List Int), v = .slice A l.length c ∧ Reads w 1 A l.length (bytes l) ∧ IsBytes l ∧ l.length ≤ c ∧ c ≤ maxLen
theorem open_raw {H : Type} {enc : TypeId × Value → H} {w : World} {base : Nat} {spare : Nat → Bool} {held : Bool} {fuel : Nat} {x : DataW H × List MemPlace} {v : Value} (h : DataW.trod enc Try.prog w base spare held fuel 23 v.cells.toList = some x) (hv : ∃ A n c, v = .slice A n c) : RawV w v := by
  obtain ⟨A0, n0, c0, rfl⟩ := hv
  obtain ⟨v, bs, hcs, A, n, c, rfl, hr, hb, hc, hm⟩ := open_bytes Try.underlying23 Try.underlying5 (by kernel_rfl) h
  have hl : bs.length = n := by have := hr.1; simpa [bytes] using this
  subst hl
  exact ⟨A, c, bs, by simpa [Value.cells] using hcs, hr, hb, hc, hm⟩
end Go.Proofs.Ytemhhhikopemmaa
