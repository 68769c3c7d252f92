/- The things of PackThings and PackEnds as they come in. -/
import Derived.Test.YtinomilmccopnaaTh5
import Derived.Test.YtinomilmccopnaaOp
namespace Go.Proofs.Ytinomilmccopnaa
open Go.RowKit Go.ChangeShapes Go.WideShapes Go.Deep

section
variable {H : Type} {enc : TypeId × Value → H} {w : World} {base : Nat} {spare : Nat → Bool} {held : Bool} {fuel : Nat} {cs : List Value} {x : DataW H × List MemPlace}
theorem split20 {cs : List Value} (h : cs.length = 20) : ∃ c0 c1 c2 c3 r, cs = c0 :: c1 :: c2 :: c3 :: r ∧ r.length = 16 := by
  match cs, h with
  | c0 :: c1 :: c2 :: c3 :: r, h => exact ⟨c0, c1, c2, c3, r, rfl, by simpa using h⟩
set_option maxRecDepth 100000 in
theorem open_thing (h : DataW.trod enc Try.prog w base spare held fuel 66 cs = some x) : ∃ x : Th, cs = x.cells ∧ x.Ok w := by
  obtain ⟨xs, m, _, _, hlen, hyl, hf⟩ := DataW.trod_struct Try.underlying66 h
  have hc : Try.prog.cellsOf 66 = 20 := by kernel_rfl
  rw [hc] at hlen
  have hy8 : xs.length = 5 := hyl
  have g : ∀ j, j < 5 → ∃ y, xs[j]? = some y := fun j hj => ⟨_, List.getElem?_eq_getElem (by omega)⟩
  have c8 : Try.prog.cellsOf 5 = 1 := by kernel_rfl
  have cu : Try.prog.cellsOf 24 = 1 := by kernel_rfl
  have ci : Try.prog.cellsOf 3 = 1 := by kernel_rfl
  have cl : Try.prog.cellsOf 40 = 1 := by kernel_rfl
  have ca : Try.prog.cellsOf 22 = 16 := by kernel_rfl
  obtain ⟨k0, k1, k2, k3, r, rfl, hr16⟩ := split20 hlen
  obtain ⟨y0, e0⟩ := g 0 (by decide)
  obtain ⟨y1, e1⟩ := g 1 (by decide)
  obtain ⟨y2, e2⟩ := g 2 (by decide)
  obtain ⟨y3, e3⟩ := g 3 (by decide)
  obtain ⟨y4, e4⟩ := g 4 (by decide)
  have f0 : DataW.trod enc Try.prog w base spare held m 5 (((k0 :: k1 :: k2 :: k3 :: r).drop 0).take (Try.prog.cellsOf 5)) = some y0 := (hf 0 _ rfl).trans e0
  have f1 : DataW.trod enc Try.prog w base spare held m 24 (((k0 :: k1 :: k2 :: k3 :: r).drop 1).take (Try.prog.cellsOf 24)) = some y1 := (hf 1 _ rfl).trans e1
  have f2 : DataW.trod enc Try.prog w base spare held m 3 (((k0 :: k1 :: k2 :: k3 :: r).drop 2).take (Try.prog.cellsOf 3)) = some y2 := (hf 2 _ rfl).trans e2
  have f3 : DataW.trod enc Try.prog w base spare held m 40 (((k0 :: k1 :: k2 :: k3 :: r).drop 3).take (Try.prog.cellsOf 40)) = some y3 := (hf 3 _ rfl).trans e3
  have f4 : DataW.trod enc Try.prog w base spare held m 22 (((k0 :: k1 :: k2 :: k3 :: r).drop 4).take (Try.prog.cellsOf 22)) = some y4 := (hf 4 _ rfl).trans e4
  rw [c8] at f0
  rw [cu] at f1
  rw [ci] at f2
  rw [cl] at f3
  rw [ca] at f4
  simp only [List.drop_succ_cons, List.drop_zero, List.take_succ_cons, List.take_zero] at f0 f1 f2 f3 f4
  rw [List.take_of_length_le (by omega)] at f4
  obtain ⟨z0, g0, _, u0⟩ := DataW.trod_int Try.underlying5 f0
  obtain ⟨z1, g1, _, u1⟩ := DataW.trod_int Try.underlying24 f1
  obtain ⟨z2, g2, _, u2⟩ := DataW.trod_int Try.underlying3 f2
  obtain ⟨v3, bs, g3, hB⟩ := open_bytes Try.underlying40 Try.underlying5 c8 f3
  obtain ⟨s, g4, hsl, hsb⟩ := open_array Try.underlying22 Try.underlying5 c8 ca f4
  obtain ⟨A, n, c, rfl, hr, hbb, hnc, _⟩ := hB
  simp only [List.cons.injEq, and_true] at g0 g1 g2 g3
  subst g0 g1 g2 g3 g4
  have b0 : 0 ≤ z0 ∧ z0 ≤ 255 := by simpa [Lit.wf, IntKind.min, IntKind.max, IntKind.signed, IntKind.bits] using u0
  have b1 : 0 ≤ z1 ∧ z1 ≤ 18446744073709551615 := by simpa [Lit.wf, IntKind.min, IntKind.max, IntKind.signed, IntKind.bits] using u1
  have b2 : -9223372036854775808 ≤ z2 ∧ z2 ≤ 9223372036854775807 := by simpa [Lit.wf, IntKind.min, IntKind.max, IntKind.signed, IntKind.bits] using u2
  exact ⟨⟨z0, z1, z2, A, n, c, bs, s⟩, rfl, ⟨b0.1, b0.2, b1.1, b1.2, b2.1, b2.2, hr, hnc, hbb, hsl, hsb⟩⟩

instance : Inhabited Th := ⟨⟨0, 0, 0, none, 0, 0, [], []⟩⟩
def ThsV (w : World) (v : Value) : Prop := ∃ (A : Option Addr) (n c : Nat) (xs : List Th), v = .slice A n c ∧ ThsIs w A n xs ∧ n ≤ c ∧ c ≤ maxLen
theorem open_things {v : Value} (h : DataW.trod enc Try.prog w base spare held fuel 63 v.cells.toList = some x) (hv : ∃ A n c, v = .slice A n c) : ThsV w v := by
  obtain ⟨A0, n0, c0, rfl⟩ := hv
  obtain ⟨A, n, c, xs, hcs, hl, hr, hok, hnc, hcm⟩ := open_rows (X := Th) 20 Th.cells (fun x => x.Ok w) Try.underlying63 (by kernel_rfl) (fun _ _ _ h => open_thing h) h
  simp [Value.cells] at hcs
  obtain ⟨rfl, rfl, rfl⟩ := hcs
  exact ⟨_, _, _, xs, rfl, ⟨hl, hr, fun x hx => (hok x hx).1⟩, hnc, hcm⟩
theorem open_bytes_v {v : Value} (h : DataW.trod enc Try.prog w base spare held fuel 40 v.cells.toList = some x) (hv : ∃ A n c, v = .slice A n c) : ∃ bs, BytesIs w v bs := by
  obtain ⟨A0, n0, c0, rfl⟩ := hv
  obtain ⟨v', bs, hcs, hB⟩ := open_bytes Try.underlying40 Try.underlying5 (by kernel_rfl) h
  simp [Value.cells] at hcs
  subst hcs
  exact ⟨bs, hB⟩
def BytesV (w : World) (v : Value) : Prop := ∃ bs, BytesIs w v bs
end

end Go.Proofs.Ytinomilmccopnaa
