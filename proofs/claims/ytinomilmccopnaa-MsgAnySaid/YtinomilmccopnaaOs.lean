/- Structs as they come in: ids, reports. -/
import Derived.Test.YtinomilmccopnaaIds
import Derived.Test.YtinomilmccopnaaOp
namespace Go.Proofs.Ytinomilmccopnaa
open Go.RowKit Go.ChangeShapes Go.WideShapes Go.Deep
section
variable {H : Type} {enc : TypeId × Value → H} {w : World} {base : Nat} {spare : Nat → Bool} {held : Bool} {fuel : Nat} {cs : List Value} {x : DataW H × List MemPlace}
theorem open_id (h : DataW.trod enc Try.prog w base spare held fuel 23 cs = some x) : ∃ a : Id, cs = bytes a.l := by
  obtain ⟨bs, h1, h2, h3⟩ := open_array (n := 16) Try.underlying23 Try.underlying5 (by kernel_rfl) (by kernel_rfl) h
  exact ⟨⟨bs, h2, h3⟩, h1⟩
theorem open_seen0 (h : DataW.trod enc Try.prog w base spare held fuel 27 cs = some x) : ∃ (z0 : Id) (z1 : Int) (z2 : Int), cs = bytes z0.l ++ ([Value.int .u64 z1] ++ ([Value.int .i64 z2] ++ [])) ∧ (0 ≤ z1 ∧ z1 ≤ 18446744073709551615) ∧ (-9223372036854775808 ≤ z2 ∧ z2 ≤ 9223372036854775807) := by
  obtain ⟨hl, m, hf⟩ := open_struct Try.underlying27 h
  have hl' : cs.length = 18 := hl.trans (by kernel_rfl)
  have n0 : Try.prog.cellsOf 23 = 16 := by kernel_rfl
  have n1 : Try.prog.cellsOf 24 = 1 := by kernel_rfl
  have n2 : Try.prog.cellsOf 25 = 1 := by kernel_rfl
  obtain ⟨y0, e0⟩ := hf 0 _ rfl
  have f0 : DataW.trod enc Try.prog w base spare held m 23 ((cs.drop 0).take (Try.prog.cellsOf 23)) = some y0 := e0
  rw [n0] at f0
  obtain ⟨y1, e1⟩ := hf 1 _ rfl
  have f1 : DataW.trod enc Try.prog w base spare held m 24 ((cs.drop 16).take (Try.prog.cellsOf 24)) = some y1 := e1
  rw [n1] at f1
  obtain ⟨y2, e2⟩ := hf 2 _ rfl
  have f2 : DataW.trod enc Try.prog w base spare held m 25 ((cs.drop 17).take (Try.prog.cellsOf 25)) = some y2 := e2
  rw [n2] at f2
  obtain ⟨z0, g0⟩ := open_id f0
  obtain ⟨z1, g1, _, u1⟩ := DataW.trod_int Try.underlying24 f1
  have b1 : 0 ≤ z1 ∧ z1 ≤ 18446744073709551615 := by simpa [Lit.wf, IntKind.min, IntKind.max, IntKind.signed, IntKind.bits] using u1
  obtain ⟨z2, g2, _, u2⟩ := DataW.trod_int Try.underlying25 f2
  have b2 : -9223372036854775808 ≤ z2 ∧ z2 ≤ 9223372036854775807 := by simpa [Lit.wf, IntKind.min, IntKind.max, IntKind.signed, IntKind.bits] using u2
  have hp : cs = (cs.drop 0).take 16 ++ ((cs.drop 16).take 1 ++ ((cs.drop 17).take 1 ++ [])) := by
    rw [← piece_end hl', ← piece 17 1 18 rfl, ← piece 16 1 17 rfl, ← piece 0 16 16 rfl, List.drop_zero]
  rw [g0, g1, g2] at hp
  exact ⟨z0, z1, z2, hp, b1, b2⟩
theorem open_seen (h : DataW.trod enc Try.prog w base spare held fuel 27 cs = some x) : ∃ s : Seen, cs = s.cells := by
  obtain ⟨a, t, c, h1, h2, h3⟩ := open_seen0 h
  exact ⟨⟨a, t, c, h2, h3⟩, by rw [h1]; simp [Seen.cells]⟩
def SeenV (_ : World) (v : Value) : Prop := ∃ s : Seen, v = s.v
theorem open_seen_v {v : Value} (h : DataW.trod enc Try.prog w base spare held fuel 27 v.cells.toList = some x) (hv : ∃ cs, v = .agg cs) : SeenV w v := by
  obtain ⟨cs, rfl⟩ := hv
  obtain ⟨a, ha⟩ := open_seen h
  refine ⟨a, ?_⟩
  have h1 : cs.toList = a.cells := ha
  show Value.agg cs = Value.agg a.cells.toArray
  rw [← h1]
end
end Go.Proofs.Ytinomilmccopnaa
