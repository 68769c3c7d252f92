/- The acts of NetPlays as they come in. -/
import Derived.Test.YthlflbmhdabfeaaNt3
namespace Go.Proofs.Ythlflbmhdabfeaa
open Go.RowKit Go.ChangeShapes Go.WideShapes Go.Deep

section
variable {H : Type} {enc : TypeId × Value → H} {w : World} {base : Nat} {spare : Nat → Bool} {held : Bool} {fuel : Nat} {cs : List Value} {x : DataW H × List MemPlace}
theorem wf8 {z : Int} (h : (Lit.int .u8 z).wf = true) : 0 ≤ z ∧ z ≤ 255 := by simpa [Lit.wf, IntKind.min, IntKind.max, IntKind.signed, IntKind.bits] using h
set_option maxRecDepth 100000 in
theorem open_act (h : DataW.trod enc Try.prog w base spare held fuel 36 cs = some x) : ∃ x : Ac, cs = x.cells ∧ x.Ok w := by
  obtain ⟨xs, m, _, _, hlen, hyl, hf⟩ := DataW.trod_struct Try.underlying36 h
  have hc : Try.prog.cellsOf 36 = 8 := by kernel_rfl
  rw [hc] at hlen
  have hy8 : xs.length = 8 := hyl
  have g : ∀ j, j < 8 → ∃ y, xs[j]? = some y := fun j hj => ⟨_, List.getElem?_eq_getElem (by omega)⟩
  have c8 : Try.prog.cellsOf 5 = 1 := by kernel_rfl
  have ci : Try.prog.cellsOf 3 = 1 := by kernel_rfl
  have cb : Try.prog.cellsOf 4 = 1 := by kernel_rfl
  have cl : Try.prog.cellsOf 27 = 1 := by kernel_rfl
  match cs, hlen with
  | [c0, c1, c2, c3, c4, c5, c6, c7], _ =>
    obtain ⟨y0, e0⟩ := g 0 (by decide)
    obtain ⟨y1, e1⟩ := g 1 (by decide)
    obtain ⟨y2, e2⟩ := g 2 (by decide)
    obtain ⟨y3, e3⟩ := g 3 (by decide)
    obtain ⟨y4, e4⟩ := g 4 (by decide)
    obtain ⟨y5, e5⟩ := g 5 (by decide)
    obtain ⟨y6, e6⟩ := g 6 (by decide)
    obtain ⟨y7, e7⟩ := g 7 (by decide)
    have f0 : DataW.trod enc Try.prog w base spare held m 5 (([c0, c1, c2, c3, c4, c5, c6, c7].drop 0).take (Try.prog.cellsOf 5)) = some y0 := (hf 0 _ rfl).trans e0
    have f1 : DataW.trod enc Try.prog w base spare held m 5 (([c0, c1, c2, c3, c4, c5, c6, c7].drop 1).take (Try.prog.cellsOf 5)) = some y1 := (hf 1 _ rfl).trans e1
    have f2 : DataW.trod enc Try.prog w base spare held m 5 (([c0, c1, c2, c3, c4, c5, c6, c7].drop 2).take (Try.prog.cellsOf 5)) = some y2 := (hf 2 _ rfl).trans e2
    have f3 : DataW.trod enc Try.prog w base spare held m 27 (([c0, c1, c2, c3, c4, c5, c6, c7].drop 3).take (Try.prog.cellsOf 27)) = some y3 := (hf 3 _ rfl).trans e3
    have f4 : DataW.trod enc Try.prog w base spare held m 3 (([c0, c1, c2, c3, c4, c5, c6, c7].drop 4).take (Try.prog.cellsOf 3)) = some y4 := (hf 4 _ rfl).trans e4
    have f5 : DataW.trod enc Try.prog w base spare held m 3 (([c0, c1, c2, c3, c4, c5, c6, c7].drop 5).take (Try.prog.cellsOf 3)) = some y5 := (hf 5 _ rfl).trans e5
    have f6 : DataW.trod enc Try.prog w base spare held m 3 (([c0, c1, c2, c3, c4, c5, c6, c7].drop 6).take (Try.prog.cellsOf 3)) = some y6 := (hf 6 _ rfl).trans e6
    have f7 : DataW.trod enc Try.prog w base spare held m 4 (([c0, c1, c2, c3, c4, c5, c6, c7].drop 7).take (Try.prog.cellsOf 4)) = some y7 := (hf 7 _ rfl).trans e7
    rw [c8] at f0 f1 f2
    rw [cl] at f3
    rw [ci] at f4 f5 f6
    rw [cb] at f7
    simp only [List.drop_succ_cons, List.drop_zero, List.take_succ_cons, List.take_zero] at f0 f1 f2 f3 f4 f5 f6 f7
    obtain ⟨z0, g0, _, u0⟩ := DataW.trod_int Try.underlying5 f0
    obtain ⟨z1, g1, _, u1⟩ := DataW.trod_int Try.underlying5 f1
    obtain ⟨z2, g2, _, u2⟩ := DataW.trod_int Try.underlying5 f2
    obtain ⟨v3, bs, g3, hB⟩ := open_bytes Try.underlying27 Try.underlying5 c8 f3
    obtain ⟨z4, g4, _, _⟩ := DataW.trod_int Try.underlying3 f4
    obtain ⟨z5, g5, _, _⟩ := DataW.trod_int Try.underlying3 f5
    obtain ⟨z6, g6, _, _⟩ := DataW.trod_int Try.underlying3 f6
    obtain ⟨z7, g7, _⟩ := DataW.trod_bool Try.underlying4 f7
    obtain ⟨A, n, c, rfl, hr, _, _, _⟩ := hB
    simp only [List.cons.injEq, and_true] at g0 g1 g2 g3 g4 g5 g6 g7
    subst g0 g1 g2 g3 g4 g5 g6 g7
    exact ⟨⟨z0, z1, z2, A, n, c, bs, z4, z5, z6, z7⟩, rfl, (wf8 u0).1, (wf8 u0).2, (wf8 u1).1, (wf8 u1).2, (wf8 u2).1, (wf8 u2).2, hr⟩

instance : Inhabited Ac := ⟨⟨0, 0, 0, none, 0, 0, [], 0, 0, 0, false⟩⟩
/-- The acts that came in. -/
def ActsIs (w : World) (v : Value) : Prop := ∃ (A : Option Addr) (n c : Nat) (acts : List Ac), v = .slice A n c ∧ acts.length = n ∧ Reads w 8 A n (acts.flatMap Ac.cells) ∧ (∀ x ∈ acts, x.Ok w) ∧ (n : Int) ≤ 9223372036854775807
theorem open_acts {v : Value} (h : DataW.trod enc Try.prog w base spare held fuel 33 v.cells.toList = some x) (hv : ∃ A n c, v = .slice A n c) : ActsIs w v := by
  obtain ⟨A0, n0, c0, rfl⟩ := hv
  obtain ⟨A, n, c, xs, hcs, hl, hr, hok, hnc, hcm⟩ := open_rows (X := Ac) 8 Ac.cells (fun x => x.Ok w) Try.underlying33 (by kernel_rfl) (fun _ _ _ h => open_act h) h
  simp [Value.cells] at hcs
  obtain ⟨rfl, rfl, rfl⟩ := hcs
  exact ⟨_, _, _, xs, rfl, hl, hr, fun x hx => (hok x hx).1, by unfold maxLen at hcm; omega⟩
end

theorem Plays_v (v : Value) (w : World) (h : ActsIs w v) : Calls Try.prog 4 #[v] w fun e w' => e = .returned (.bool true) ∧ Fr Nil w w' := by
  obtain ⟨A, n, c, acts, rfl, hl, hr, hok, hn⟩ := h
  exact Plays_any A n c acts w hl hr hok hn

end Go.Proofs.Ythlflbmhdabfeaa
