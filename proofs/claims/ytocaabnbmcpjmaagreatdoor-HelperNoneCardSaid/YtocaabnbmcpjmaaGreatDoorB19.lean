/- Several texts of one claim, one behind the other (Ik, Iw). -/
import Derived.Test.YtocaabnbmcpjmaaGreatDoorB18
import Derived.Test.YtocaabnbmcpjmaaGreatDoorTie
import Derived.Test.YtocaabnbmcpjmaaGreatDoorCards
import Derived.Deep.DeepWitnessRowRef
import Derived.Deep.DeepHandedRow
import Derived.Deep.DeepLaidRun
set_option linter.unusedVariables false
set_option linter.unusedSimpArgs false
/- HelperNone: what comes in. -/
namespace Go.Proofs.YtocaabnbmcpjmaaGreatDoor
open Go.RowKit Go.ChangeShapes Go.WideShapes Go.Deep
section
variable {H : Type} {enc : TypeId × Value → H} {w : World} {base : Nat} {spare : Nat → Bool} {held : Bool} {fuel : Nat} {cs : List Value} {x : DataW H × List MemPlace}
def MeqV (_ : World) (v : Value) : Prop := ∃ m : Me, v = m.v
theorem open_sumq (h : DataW.trod enc Tryz.prog w base spare held fuel 31 cs = some x) : ∃ a : Id, cs = bytes a.l := by
  obtain ⟨bs, h1, h2, h3⟩ := open_array (n := 16) Tryz.underlying31 Tryz.underlying5 (by kernel_rfl) (by kernel_rfl) h
  exact ⟨⟨bs, h2, h3⟩, h1⟩
theorem open_meq0 (h : DataW.trod enc Tryz.prog w base spare held fuel 65 cs = some x) : ∃ (z0 : Int) (z1 : Int) (z2 : Int) (z3 : Int) (z4 : Id) (z5 : Int) (z6 : Value), cs = [Value.int .u8 z0] ++ ([Value.int .u64 z1] ++ ([Value.int .u64 z2] ++ ([Value.int .i64 z3] ++ (bytes z4.l ++ ([Value.int .i64 z5] ++ ([z6] ++ [])))))) ∧ (0 ≤ z0 ∧ z0 ≤ 255) ∧ (0 ≤ z1 ∧ z1 ≤ 18446744073709551615) ∧ (0 ≤ z2 ∧ z2 ≤ 18446744073709551615) ∧ (-9223372036854775808 ≤ z3 ∧ z3 ≤ 9223372036854775807) ∧ (-9223372036854775808 ≤ z5 ∧ z5 ≤ 9223372036854775807) ∧ (∃ A n c, z6 = Value.slice A n c) := by
  obtain ⟨hl, m, hf⟩ := open_struct Tryz.underlying65 h
  have hl' : cs.length = 22 := hl.trans (by kernel_rfl)
  have n0 : Tryz.prog.cellsOf 5 = 1 := by kernel_rfl
  have n1 : Tryz.prog.cellsOf 28 = 1 := by kernel_rfl
  have n2 : Tryz.prog.cellsOf 28 = 1 := by kernel_rfl
  have n3 : Tryz.prog.cellsOf 3 = 1 := by kernel_rfl
  have n4 : Tryz.prog.cellsOf 31 = 16 := by kernel_rfl
  have n5 : Tryz.prog.cellsOf 44 = 1 := by kernel_rfl
  have n6 : Tryz.prog.cellsOf 63 = 1 := by kernel_rfl
  obtain ⟨y0, e0⟩ := hf 0 _ rfl
  have f0 : DataW.trod enc Tryz.prog w base spare held m 5 ((cs.drop 0).take (Tryz.prog.cellsOf 5)) = some y0 := e0
  rw [n0] at f0
  obtain ⟨y1, e1⟩ := hf 1 _ rfl
  have f1 : DataW.trod enc Tryz.prog w base spare held m 28 ((cs.drop 1).take (Tryz.prog.cellsOf 28)) = some y1 := e1
  rw [n1] at f1
  obtain ⟨y2, e2⟩ := hf 2 _ rfl
  have f2 : DataW.trod enc Tryz.prog w base spare held m 28 ((cs.drop 2).take (Tryz.prog.cellsOf 28)) = some y2 := e2
  rw [n2] at f2
  obtain ⟨y3, e3⟩ := hf 3 _ rfl
  have f3 : DataW.trod enc Tryz.prog w base spare held m 3 ((cs.drop 3).take (Tryz.prog.cellsOf 3)) = some y3 := e3
  rw [n3] at f3
  obtain ⟨y4, e4⟩ := hf 4 _ rfl
  have f4 : DataW.trod enc Tryz.prog w base spare held m 31 ((cs.drop 4).take (Tryz.prog.cellsOf 31)) = some y4 := e4
  rw [n4] at f4
  obtain ⟨y5, e5⟩ := hf 5 _ rfl
  have f5 : DataW.trod enc Tryz.prog w base spare held m 44 ((cs.drop 20).take (Tryz.prog.cellsOf 44)) = some y5 := e5
  rw [n5] at f5
  obtain ⟨y6, e6⟩ := hf 6 _ rfl
  have f6 : DataW.trod enc Tryz.prog w base spare held m 63 ((cs.drop 21).take (Tryz.prog.cellsOf 63)) = some y6 := e6
  rw [n6] at f6
  obtain ⟨z0, g0, _, u0⟩ := DataW.trod_int Tryz.underlying5 f0
  have b0 : 0 ≤ z0 ∧ z0 ≤ 255 := by simpa [Lit.wf, IntKind.min, IntKind.max, IntKind.signed, IntKind.bits] using u0
  obtain ⟨z1, g1, _, u1⟩ := DataW.trod_int Tryz.underlying28 f1
  have b1 : 0 ≤ z1 ∧ z1 ≤ 18446744073709551615 := by simpa [Lit.wf, IntKind.min, IntKind.max, IntKind.signed, IntKind.bits] using u1
  obtain ⟨z2, g2, _, u2⟩ := DataW.trod_int Tryz.underlying28 f2
  have b2 : 0 ≤ z2 ∧ z2 ≤ 18446744073709551615 := by simpa [Lit.wf, IntKind.min, IntKind.max, IntKind.signed, IntKind.bits] using u2
  obtain ⟨z3, g3, _, u3⟩ := DataW.trod_int Tryz.underlying3 f3
  have b3 : -9223372036854775808 ≤ z3 ∧ z3 ≤ 9223372036854775807 := by simpa [Lit.wf, IntKind.min, IntKind.max, IntKind.signed, IntKind.bits] using u3
  obtain ⟨z4, g4⟩ := open_sumq f4
  obtain ⟨z5, g5, _, u5⟩ := DataW.trod_int Tryz.underlying44 f5
  have b5 : -9223372036854775808 ≤ z5 ∧ z5 ≤ 9223372036854775807 := by simpa [Lit.wf, IntKind.min, IntKind.max, IntKind.signed, IntKind.bits] using u5
  obtain ⟨z6, g6, b6⟩ := open_slice_any Tryz.underlying63 f6
  have hp : cs = (cs.drop 0).take 1 ++ ((cs.drop 1).take 1 ++ ((cs.drop 2).take 1 ++ ((cs.drop 3).take 1 ++ ((cs.drop 4).take 16 ++ ((cs.drop 20).take 1 ++ ((cs.drop 21).take 1 ++ [])))))) := by
    rw [← piece_end hl', ← piece 21 1 22 rfl, ← piece 20 1 21 rfl, ← piece 4 16 20 rfl, ← piece 3 1 4 rfl, ← piece 2 1 3 rfl, ← piece 1 1 2 rfl, ← piece 0 1 1 rfl, List.drop_zero]
  rw [g0, g1, g2, g3, g4, g5, g6] at hp
  exact ⟨z0, z1, z2, z3, z4, z5, z6, hp, b0, b1, b2, b3, b5, b6⟩
def enZ : En := ⟨zId, 0, none, 0, 0, [], none, 0, 0, [], 0, by decide, by decide, Nat.le_refl _, Nat.le_refl _, (fun _ h => by cases h), (fun _ h => by cases h)⟩
theorem open_meq {v : Value} (h : DataW.trod enc Tryz.prog w base spare held fuel 65 v.cells.toList = some x) (hv : ∃ cs, v = .agg cs) : MeqV w v := by
  obtain ⟨cs, rfl⟩ := hv
  obtain ⟨k, j, s, mn, sum, c, e, hcs, hk, hj, hs, hm, hc, A, n, ca, rfl⟩ := open_meq0 h
  refine ⟨⟨k, j, s, mn, sum, c, A, ca, List.replicate n enZ, hk, hj, hs, hm, hc⟩, ?_⟩
  have h1 : cs.toList = mcs k j s mn sum.l c A (List.replicate n enZ).length ca := by
    have h2 : cs.toList = _ := hcs
    rw [h2]
    simp [mcs]
  show Value.agg cs = Value.agg (mcs k j s mn sum.l c A (List.replicate n enZ).length ca).toArray
  rw [← h1]
def RlV (_ : World) (v : Value) : Prop := ∃ r : Rl, v = .agg r.c.toArray
theorem open_rl_v {v : Value} (h : DataW.trod enc Tryz.prog w base spare held fuel 30 v.cells.toList = some x) (hv : ∃ cs, v = .agg cs) : RlV w v := by
  obtain ⟨cs, rfl⟩ := hv
  obtain ⟨z, h1, r, rfl, _⟩ := open_rulesc h
  have h3 : cs.toList = r.c := h1
  exact ⟨r, by rw [← h3]⟩
def TaV (_ : World) (v : Value) : Prop := ∃ t : Ta, v = .agg t.c.toArray
theorem open_ta_v {v : Value} (h : DataW.trod enc Tryz.prog w base spare held fuel 27 v.cells.toList = some x) (hv : ∃ cs, v = .agg cs) : TaV w v := by
  obtain ⟨cs, rfl⟩ := hv
  obtain ⟨z, h1, t, rfl⟩ := open_taskc h
  have h3 : cs.toList = t.c := h1
  exact ⟨t, by rw [← h3]⟩
end
theorem none_v (v0 v2 v3 : Value) (a1 : Int) (W : World) (o0 : MeqV W v0) (o2 : RlV W v2) (o3 : TaV W v3) :
    Calls Tryz.prog 5 #[v0, .int .u64 a1, v2, v3] W fun e W' => e = .returned (.bool true) ∧ Fr Nil W W' := by
  obtain ⟨m, rfl⟩ := o0
  obtain ⟨r, rfl⟩ := o2
  obtain ⟨t, rfl⟩ := o3
  exact hnone_walk.top
end Go.Proofs.YtocaabnbmcpjmaaGreatDoor
/- The library's variables, as the rows of this seat list them: a world that holds them. -/
namespace Go.Proofs.YtocaabnbmcpjmaaGreatDoor
def tab32 : Array Value := #[.int .u8 0, .int .u8 1, .int .u8 28, .int .u8 2, .int .u8 29, .int .u8 14, .int .u8 24, .int .u8 3, .int .u8 30, .int .u8 22, .int .u8 20, .int .u8 15, .int .u8 25, .int .u8 17, .int .u8 4, .int .u8 8, .int .u8 31, .int .u8 27, .int .u8 13, .int .u8 23, .int .u8 21, .int .u8 19, .int .u8 16, .int .u8 7, .int .u8 26, .int .u8 12, .int .u8 18, .int .u8 6, .int .u8 11, .int .u8 5, .int .u8 10, .int .u8 9]
def tab64 : Array Value := #[.int .u8 0, .int .u8 1, .int .u8 56, .int .u8 2, .int .u8 57, .int .u8 49, .int .u8 28, .int .u8 3, .int .u8 61, .int .u8 58, .int .u8 42, .int .u8 50, .int .u8 38, .int .u8 29, .int .u8 17, .int .u8 4, .int .u8 62, .int .u8 47, .int .u8 59, .int .u8 36, .int .u8 45, .int .u8 43, .int .u8 51, .int .u8 22, .int .u8 53, .int .u8 39, .int .u8 33, .int .u8 30, .int .u8 24, .int .u8 18, .int .u8 12, .int .u8 5, .int .u8 63, .int .u8 55, .int .u8 48, .int .u8 27, .int .u8 60, .int .u8 41, .int .u8 37, .int .u8 16, .int .u8 46, .int .u8 35, .int .u8 44, .int .u8 21, .int .u8 52, .int .u8 32, .int .u8 23, .int .u8 11, .int .u8 54, .int .u8 26, .int .u8 40, .int .u8 15, .int .u8 34, .int .u8 20, .int .u8 31, .int .u8 10, .int .u8 25, .int .u8 14, .int .u8 19, .int .u8 9, .int .u8 13, .int .u8 8, .int .u8 7, .int .u8 6]
/-- A world for the witness: the variables holding what their initialisers lay. -/
noncomputable def laidWorld (os : Os) : World :=
  let w0 := World.holding Tryz.prog os ⟨#[], #[], []⟩
  let put (h : Array Obj) (g : Nat) (cs : Array Value) : Array Obj := h.modify g fun
    | .cells _ t frozen => .cells cs t frozen
    | o => o
  { w0 with heap := put (put w0.heap 1 tab32) 2 tab64 }
theorem laid_met (os : Os) (args : Array Value) : laidMet Tryz.prog Rows.helperSetupsRow.laid ((laidWorld os).forCall (fun _ _ => 0) ⟨#[], args, []⟩).memory :=
  laidMet_of_run3 10 (by kernel_rfl) (by kernel_rfl) (by kernel_rfl)
end Go.Proofs.YtocaabnbmcpjmaaGreatDoor
