/- Several texts of one claim, one behind the other (Ig, Iw). -/
import Derived.Test.YtocaabnbmcpjmaaGreatDoorB18
import Derived.Test.YtocaabnbmcpjmaaGreatDoorB16
import Derived.Test.YtocaabnbmcpjmaaGreatDoorTie
import Derived.Test.YtocaabnbmcpjmaaGreatDoorCards
import Derived.Deep.DeepWitnessRowRef
import Derived.Deep.DeepHandedRow
import Derived.Deep.DeepLaidRun
set_option linter.unusedVariables false
set_option linter.unusedSimpArgs false
/- Setups, and small ones, as they come in. (The openers are printed by wip/tools/gen_open.py.) -/
namespace Go.Proofs.YtocaabnbmcpjmaaGreatDoor
open Go.RowKit Go.ChangeShapes Go.WideShapes Go.Deep
section
variable {H : Type} {enc : TypeId × Value → H} {w : World} {base : Nat} {spare : Nat → Bool} {held : Bool} {fuel : Nat} {cs : List Value} {x : DataW H × List MemPlace}
theorem open_seed (h : DataW.trod enc Tryz.prog w base spare held fuel 32 cs = some x) : ∃ a : Id, cs = bytes a.l := by
  obtain ⟨bs, h1, h2, h3⟩ := open_array (n := 16) Tryz.underlying32 Tryz.underlying5 (by kernel_rfl) (by kernel_rfl) h
  exact ⟨⟨bs, h2, h3⟩, h1⟩
def TaP (cs : List Value) : Prop := ∃ t : Ta, cs = t.c
theorem open_taskc (h : DataW.trod enc Tryz.prog w base spare held fuel 27 cs = some x) : ∃ z : List Value, cs = z ∧ TaP z := by
  obtain ⟨z, p, u, h1, ⟨k, f, b, l, w, c, h2⟩, _, ⟨s, h4⟩⟩ := open_task0 h
  subst h2 h4
  exact ⟨_, rfl, ⟨k, f, b, l, w, c, p, s⟩, h1⟩
def RlP (cs : List Value) : Prop := ∃ r : Rl, cs = r.c ∧ 0 ≤ r.w ∧ r.w ≤ 18446744073709551615
theorem open_rulesc (h : DataW.trod enc Tryz.prog w base spare held fuel 30 cs = some x) : ∃ z : List Value, cs = z ∧ RlP z := by
  obtain ⟨a, b, c, h1, h2, _, _⟩ := open_rules h
  exact ⟨_, rfl, ⟨a, b, c⟩, h1, h2.1, h2.2⟩
def SkP (cs : List Value) : Prop := ∃ s : Sk, cs = s.cells
theorem open_sm13c (h : DataW.trod enc Tryz.prog w base spare held fuel 38 cs = some x) : ∃ z : List Value, cs = z ∧ SkP z := by
  obtain ⟨z, p, t, h1, ⟨k, f, b, l, w, c, h2, hk, hf, hb, hl, hw, hc⟩, hp, ht⟩ := open_sm13 h
  subst h2
  exact ⟨_, rfl, ⟨k, f, b, l, w, c, p, t, hk, hf, hb, hl, hw, hc, hp, ht⟩, h1⟩
def S19P (cs : List Value) : Prop := ∃ a b c : Int, cs = sm19C a b c ∧ (0 ≤ a ∧ a ≤ 255) ∧ (0 ≤ b ∧ b ≤ 255) ∧ (0 ≤ c ∧ c ≤ 255)
theorem open_sm19c (h : DataW.trod enc Tryz.prog w base spare held fuel 40 cs = some x) : ∃ z : List Value, cs = z ∧ S19P z := by
  obtain ⟨a, b, c, h1, h2⟩ := open_sm19 h
  exact ⟨_, rfl, a, b, c, h1, h2⟩
theorem open_setup0 (h : DataW.trod enc Tryz.prog w base spare held fuel 34 cs = some x) : ∃ (z0 : List Value) (z1 : List Value) (z2 : Id) (z3 : Int) (z4 : Int), cs = z0 ++ (z1 ++ (bytes z2.l ++ ([Value.int .i64 z3] ++ ([Value.int .u64 z4] ++ [])))) ∧ (TaP z0) ∧ (RlP z1) ∧ (-9223372036854775808 ≤ z3 ∧ z3 ≤ 9223372036854775807) ∧ (0 ≤ z4 ∧ z4 ≤ 18446744073709551615) := by
  obtain ⟨hl, m, hf⟩ := open_struct Tryz.underlying34 h
  have hl' : cs.length = 29 := hl.trans (by kernel_rfl)
  have n0 : Tryz.prog.cellsOf 27 = 8 := by kernel_rfl
  have n1 : Tryz.prog.cellsOf 30 = 3 := by kernel_rfl
  have n2 : Tryz.prog.cellsOf 32 = 16 := by kernel_rfl
  have n3 : Tryz.prog.cellsOf 3 = 1 := by kernel_rfl
  have n4 : Tryz.prog.cellsOf 28 = 1 := by kernel_rfl
  obtain ⟨y0, e0⟩ := hf 0 _ rfl
  have f0 : DataW.trod enc Tryz.prog w base spare held m 27 ((cs.drop 0).take (Tryz.prog.cellsOf 27)) = some y0 := e0
  rw [n0] at f0
  obtain ⟨y1, e1⟩ := hf 1 _ rfl
  have f1 : DataW.trod enc Tryz.prog w base spare held m 30 ((cs.drop 8).take (Tryz.prog.cellsOf 30)) = some y1 := e1
  rw [n1] at f1
  obtain ⟨y2, e2⟩ := hf 2 _ rfl
  have f2 : DataW.trod enc Tryz.prog w base spare held m 32 ((cs.drop 11).take (Tryz.prog.cellsOf 32)) = some y2 := e2
  rw [n2] at f2
  obtain ⟨y3, e3⟩ := hf 3 _ rfl
  have f3 : DataW.trod enc Tryz.prog w base spare held m 3 ((cs.drop 27).take (Tryz.prog.cellsOf 3)) = some y3 := e3
  rw [n3] at f3
  obtain ⟨y4, e4⟩ := hf 4 _ rfl
  have f4 : DataW.trod enc Tryz.prog w base spare held m 28 ((cs.drop 28).take (Tryz.prog.cellsOf 28)) = some y4 := e4
  rw [n4] at f4
  obtain ⟨z0, g0, b0⟩ := open_taskc f0
  obtain ⟨z1, g1, b1⟩ := open_rulesc f1
  obtain ⟨z2, g2⟩ := open_seed f2
  obtain ⟨z3, g3, _, u3⟩ := DataW.trod_int Tryz.underlying3 f3
  have b3 : -9223372036854775808 ≤ z3 ∧ z3 ≤ 9223372036854775807 := by simpa [Lit.wf, IntKind.min, IntKind.max, IntKind.signed, IntKind.bits] using u3
  obtain ⟨z4, g4, _, u4⟩ := DataW.trod_int Tryz.underlying28 f4
  have b4 : 0 ≤ z4 ∧ z4 ≤ 18446744073709551615 := by simpa [Lit.wf, IntKind.min, IntKind.max, IntKind.signed, IntKind.bits] using u4
  have hp : cs = (cs.drop 0).take 8 ++ ((cs.drop 8).take 3 ++ ((cs.drop 11).take 16 ++ ((cs.drop 27).take 1 ++ ((cs.drop 28).take 1 ++ [])))) := by
    rw [← piece_end hl', ← piece 28 1 29 rfl, ← piece 27 1 28 rfl, ← piece 11 16 27 rfl, ← piece 8 3 11 rfl, ← piece 0 8 8 rfl, List.drop_zero]
  rw [g0, g1, g2, g3, g4] at hp
  exact ⟨z0, z1, z2, z3, z4, hp, b0, b1, b3, b4⟩
theorem open_sm23 (h : DataW.trod enc Tryz.prog w base spare held fuel 42 cs = some x) : ∃ (z0 : List Value) (z1 : List Value) (z2 : Int) (z3 : Int) (z4 : Int), cs = z0 ++ (z1 ++ ([Value.int .u8 z2] ++ ([Value.int .u8 z3] ++ ([Value.int .u8 z4] ++ [])))) ∧ (SkP z0) ∧ (S19P z1) ∧ (0 ≤ z2 ∧ z2 ≤ 255) ∧ (0 ≤ z3 ∧ z3 ≤ 255) ∧ (0 ≤ z4 ∧ z4 ≤ 255) := by
  obtain ⟨hl, m, hf⟩ := open_struct Tryz.underlying42 h
  have hl' : cs.length = 14 := hl.trans (by kernel_rfl)
  have n0 : Tryz.prog.cellsOf 38 = 8 := by kernel_rfl
  have n1 : Tryz.prog.cellsOf 40 = 3 := by kernel_rfl
  have n2 : Tryz.prog.cellsOf 5 = 1 := by kernel_rfl
  have n3 : Tryz.prog.cellsOf 5 = 1 := by kernel_rfl
  have n4 : Tryz.prog.cellsOf 5 = 1 := by kernel_rfl
  obtain ⟨y0, e0⟩ := hf 0 _ rfl
  have f0 : DataW.trod enc Tryz.prog w base spare held m 38 ((cs.drop 0).take (Tryz.prog.cellsOf 38)) = some y0 := e0
  rw [n0] at f0
  obtain ⟨y1, e1⟩ := hf 1 _ rfl
  have f1 : DataW.trod enc Tryz.prog w base spare held m 40 ((cs.drop 8).take (Tryz.prog.cellsOf 40)) = some y1 := e1
  rw [n1] at f1
  obtain ⟨y2, e2⟩ := hf 2 _ rfl
  have f2 : DataW.trod enc Tryz.prog w base spare held m 5 ((cs.drop 11).take (Tryz.prog.cellsOf 5)) = some y2 := e2
  rw [n2] at f2
  obtain ⟨y3, e3⟩ := hf 3 _ rfl
  have f3 : DataW.trod enc Tryz.prog w base spare held m 5 ((cs.drop 12).take (Tryz.prog.cellsOf 5)) = some y3 := e3
  rw [n3] at f3
  obtain ⟨y4, e4⟩ := hf 4 _ rfl
  have f4 : DataW.trod enc Tryz.prog w base spare held m 5 ((cs.drop 13).take (Tryz.prog.cellsOf 5)) = some y4 := e4
  rw [n4] at f4
  obtain ⟨z0, g0, b0⟩ := open_sm13c f0
  obtain ⟨z1, g1, b1⟩ := open_sm19c f1
  obtain ⟨z2, g2, _, u2⟩ := DataW.trod_int Tryz.underlying5 f2
  have b2 : 0 ≤ z2 ∧ z2 ≤ 255 := by simpa [Lit.wf, IntKind.min, IntKind.max, IntKind.signed, IntKind.bits] using u2
  obtain ⟨z3, g3, _, u3⟩ := DataW.trod_int Tryz.underlying5 f3
  have b3 : 0 ≤ z3 ∧ z3 ≤ 255 := by simpa [Lit.wf, IntKind.min, IntKind.max, IntKind.signed, IntKind.bits] using u3
  obtain ⟨z4, g4, _, u4⟩ := DataW.trod_int Tryz.underlying5 f4
  have b4 : 0 ≤ z4 ∧ z4 ≤ 255 := by simpa [Lit.wf, IntKind.min, IntKind.max, IntKind.signed, IntKind.bits] using u4
  have hp : cs = (cs.drop 0).take 8 ++ ((cs.drop 8).take 3 ++ ((cs.drop 11).take 1 ++ ((cs.drop 12).take 1 ++ ((cs.drop 13).take 1 ++ [])))) := by
    rw [← piece_end hl', ← piece 13 1 14 rfl, ← piece 12 1 13 rfl, ← piece 11 1 12 rfl, ← piece 8 3 11 rfl, ← piece 0 8 8 rfl, List.drop_zero]
  rw [g0, g1, g2, g3, g4] at hp
  exact ⟨z0, z1, z2, z3, z4, hp, b0, b1, b2, b3, b4⟩
def SetupV (_ : World) (v : Value) : Prop := ∃ x : Su, v = .agg x.c.toArray
theorem open_setup_v {v : Value} (h : DataW.trod enc Tryz.prog w base spare held fuel 34 v.cells.toList = some x) (hv : ∃ cs, v = .agg cs) : SetupV w v := by
  obtain ⟨cs, rfl⟩ := hv
  obtain ⟨z0, z1, z2, z3, z4, h1, ⟨t, rfl⟩, ⟨r, rfl, _⟩, _⟩ := open_setup0 h
  have h3 : cs.toList = Su.c ⟨t, r, z2, z3, z4⟩ := h1
  exact ⟨_, by rw [← h3]⟩
def S23V (_ : World) (v : Value) : Prop := ∃ z : S23, v = .agg z.cells.toArray
theorem open_sm23_v {v : Value} (h : DataW.trod enc Tryz.prog w base spare held fuel 42 v.cells.toList = some x) (hv : ∃ cs, v = .agg cs) : S23V w v := by
  obtain ⟨cs, rfl⟩ := hv
  obtain ⟨z0, z1, z2, z3, z4, h1, ⟨s, rfl⟩, ⟨a, b, c, rfl, ha, hb, hc⟩, hk, hl, hh⟩ := open_sm23 h
  have h3 : cs.toList = S23.cells ⟨s, a, b, c, z2, z3, z4, ha, hb, hc, hk, hl, hh⟩ := h1
  exact ⟨_, by rw [← h3]⟩
end
theorem setups_v (v0 v1 : Value) (W : World) (o0 : SetupV W v0) (o1 : S23V W v1) : Calls Tryz.prog 3 #[v0, v1] W fun e W' => e = .returned (.bool true) ∧ Fr Nil W W' := by
  obtain ⟨x, rfl⟩ := o0
  obtain ⟨z, rfl⟩ := o1
  exact hsetups_walk.top
end Go.Proofs.YtocaabnbmcpjmaaGreatDoor
/- The library's variables, as the rows of this seat list them: a world that holds them. -/
namespace Go.Proofs.YtocaabnbmcpjmaaGreatDoor
def tab32 : Array Value := #[.int .u8 0, .int .u8 1, .int .u8 28, .int .u8 2, .int .u8 29, .int .u8 14, .int .u8 24, .int .u8 3, .int .u8 30, .int .u8 22, .int .u8 20, .int .u8 15, .int .u8 25, .int .u8 17, .int .u8 4, .int .u8 8, .int .u8 31, .int .u8 27, .int .u8 13, .int .u8 23, .int .u8 21, .int .u8 19, .int .u8 16, .int .u8 7, .int .u8 26, .int .u8 12, .int .u8 18, .int .u8 6, .int .u8 11, .int .u8 5, .int .u8 10, .int .u8 9]
def tab64 : Array Value := #[.int .u8 0, .int .u8 1, .int .u8 56, .int .u8 2, .int .u8 57, .int .u8 49, .int .u8 28, .int .u8 3, .int .u8 61, .int .u8 58, .int .u8 42, .int .u8 50, .int .u8 38, .int .u8 29, .int .u8 17, .int .u8 4, .int .u8 62, .int .u8 47, .int .u8 59, .int .u8 36, .int .u8 45, .int .u8 43, .int .u8 51, .int .u8 22, .int .u8 53, .int .u8 39, .int .u8 33, .int .u8 30, .int .u8 24, .int .u8 18, .int .u8 12, .int .u8 5, .int .u8 63, .int .u8 55, .int .u8 48, .int .u8 27, .int .u8 60, .int .u8 41, .int .u8 37, .int .u8 16, .int .u8 46, .int .u8 35, .int .u8 44, .int .u8 21, .int .u8 52, .int .u8 32, .int .u8 23, .int .u8 11, .int .u8 54, .int .u8 26, .int .u8 40, .int .u8 15, .int .u8 34, .int .u8 20, .int .u8 31, .int .u8 10, .int .u8 25, .int .u8 14, .int .u8 19, .int .u8 9, .int .u8 13, .int .u8 8, .int .u8 7, .int .u8 6]
/-- A world for the witness: the variables holding what their initialisers lay. -/
noncomputable def laidWorld (os : Os) : World :=
  let w0 := World.holding Tryz.prog os ⟨#[], #[], []⟩
  let put (h : Array Obj) (g : Nat) (cs : Array Value) : Array Obj := h.modify g fun
    | .cells _ t frozen => .cells cs t frozen
    | o => o
  { w0 with heap := put (put w0.heap 1 tab32) 2 tab64 }
theorem laid_met (os : Os) (args : Array Value) : laidMet Tryz.prog Rows.helperSetupsRow.laid ((laidWorld os).forCall (fun _ _ => 0) ⟨#[], args, []⟩).memory :=
  laidMet_of_run3 10 (by kernel_rfl) (by kernel_rfl) (by kernel_rfl)
end Go.Proofs.YtocaabnbmcpjmaaGreatDoor
