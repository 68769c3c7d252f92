/- ViewParts at what came in. -/
import Derived.Test.YtinomilmccopnaaVw4
import Derived.Test.YtinomilmccopnaaOs
namespace Go.Proofs.Ytinomilmccopnaa
open Go.RowKit Go.ChangeShapes Go.WideShapes Go.Deep
section
variable {H : Type} {enc : TypeId × Value → H} {w : World} {base : Nat} {spare : Nat → Bool} {held : Bool} {fuel : Nat} {cs : List Value} {x : DataW H × List MemPlace}
theorem open_check (h : DataW.trod enc Try.prog w base spare held fuel 29 cs = some x) : ∃ a : Id, cs = bytes a.l := by
  obtain ⟨bs, h1, h2, h3⟩ := open_array (n := 16) Try.underlying29 Try.underlying5 (by kernel_rfl) (by kernel_rfl) h
  exact ⟨⟨bs, h2, h3⟩, h1⟩
theorem open_total0 (h : DataW.trod enc Try.prog w base spare held fuel 31 cs = some x) : ∃ (z0 : Value) (z1 : Int) (z2 : Id), cs = [z0] ++ ([Value.int .i64 z1] ++ (bytes z2.l ++ [])) ∧ (∃ A n c, z0 = .slice A n c) ∧ (-9223372036854775808 ≤ z1 ∧ z1 ≤ 9223372036854775807) := by
  obtain ⟨hl, m, hf⟩ := open_struct Try.underlying31 h
  have hl' : cs.length = 18 := hl.trans (by kernel_rfl)
  have n0 : Try.prog.cellsOf 28 = 1 := by kernel_rfl
  have n1 : Try.prog.cellsOf 3 = 1 := by kernel_rfl
  have n2 : Try.prog.cellsOf 29 = 16 := by kernel_rfl
  obtain ⟨y0, e0⟩ := hf 0 _ rfl
  have f0 : DataW.trod enc Try.prog w base spare held m 28 ((cs.drop 0).take (Try.prog.cellsOf 28)) = some y0 := e0
  rw [n0] at f0
  obtain ⟨y1, e1⟩ := hf 1 _ rfl
  have f1 : DataW.trod enc Try.prog w base spare held m 3 ((cs.drop 1).take (Try.prog.cellsOf 3)) = some y1 := e1
  rw [n1] at f1
  obtain ⟨y2, e2⟩ := hf 2 _ rfl
  have f2 : DataW.trod enc Try.prog w base spare held m 29 ((cs.drop 2).take (Try.prog.cellsOf 29)) = some y2 := e2
  rw [n2] at f2
  obtain ⟨z0, g0, b0⟩ := open_slice_any Try.underlying28 f0
  obtain ⟨z1, g1, _, u1⟩ := DataW.trod_int Try.underlying3 f1
  have b1 : -9223372036854775808 ≤ z1 ∧ z1 ≤ 9223372036854775807 := by simpa [Lit.wf, IntKind.min, IntKind.max, IntKind.signed, IntKind.bits] using u1
  obtain ⟨z2, g2⟩ := open_check f2
  have hp : cs = (cs.drop 0).take 1 ++ ((cs.drop 1).take 1 ++ ((cs.drop 2).take 16 ++ [])) := by
    rw [← piece_end hl', ← piece 2 16 18 rfl, ← piece 1 1 2 rfl, ← piece 0 1 1 rfl, List.drop_zero]
  rw [g0, g1, g2] at hp
  exact ⟨z0, z1, z2, hp, b0, b1⟩
theorem open_total (h : DataW.trod enc Try.prog w base spare held fuel 31 cs = some x) : ∃ cl, cs = cl ∧ ∃ (A : Option Addr) (n c : Nat) (z : Int) (a : Id), cl = [.slice A n c, .int .i64 z] ++ bytes a.l ∧ z ≤ 9223372036854775807 := by
  obtain ⟨v, z, a, h1, ⟨A, n, c, rfl⟩, h2⟩ := open_total0 h
  exact ⟨cs, rfl, A, n, c, z, a, by rw [h1]; simp, h2.2⟩
theorem open_buck0 (h : DataW.trod enc Try.prog w base spare held fuel 33 cs = some x) : ∃ (z0 : Int) (z1 : List Value) (z2 : Bool), cs = [Value.int .u64 z0] ++ (z1 ++ ([Value.bool z2] ++ [])) ∧ (0 ≤ z0 ∧ z0 ≤ 18446744073709551615) ∧ (∃ (A : Option Addr) (n c : Nat) (z : Int) (a : Id), z1 = [.slice A n c, .int .i64 z] ++ bytes a.l ∧ z ≤ 9223372036854775807) := by
  obtain ⟨hl, m, hf⟩ := open_struct Try.underlying33 h
  have hl' : cs.length = 20 := hl.trans (by kernel_rfl)
  have n0 : Try.prog.cellsOf 24 = 1 := by kernel_rfl
  have n1 : Try.prog.cellsOf 31 = 18 := by kernel_rfl
  have n2 : Try.prog.cellsOf 4 = 1 := by kernel_rfl
  obtain ⟨y0, e0⟩ := hf 0 _ rfl
  have f0 : DataW.trod enc Try.prog w base spare held m 24 ((cs.drop 0).take (Try.prog.cellsOf 24)) = some y0 := e0
  rw [n0] at f0
  obtain ⟨y1, e1⟩ := hf 1 _ rfl
  have f1 : DataW.trod enc Try.prog w base spare held m 31 ((cs.drop 1).take (Try.prog.cellsOf 31)) = some y1 := e1
  rw [n1] at f1
  obtain ⟨y2, e2⟩ := hf 2 _ rfl
  have f2 : DataW.trod enc Try.prog w base spare held m 4 ((cs.drop 19).take (Try.prog.cellsOf 4)) = some y2 := e2
  rw [n2] at f2
  obtain ⟨z0, g0, _, u0⟩ := DataW.trod_int Try.underlying24 f0
  have b0 : 0 ≤ z0 ∧ z0 ≤ 18446744073709551615 := by simpa [Lit.wf, IntKind.min, IntKind.max, IntKind.signed, IntKind.bits] using u0
  obtain ⟨z1, g1, b1⟩ := open_total f1
  obtain ⟨z2, g2, _⟩ := DataW.trod_bool Try.underlying4 f2
  have hp : cs = (cs.drop 0).take 1 ++ ((cs.drop 1).take 18 ++ ((cs.drop 19).take 1 ++ [])) := by
    rw [← piece_end hl', ← piece 19 1 20 rfl, ← piece 1 18 19 rfl, ← piece 0 1 1 rfl, List.drop_zero]
  rw [g0, g1, g2] at hp
  exact ⟨z0, z1, z2, hp, b0, b1⟩
def BuckV (_ : World) (v : Value) : Prop := ∃ b : Buck, v = .agg b.cells.toArray
theorem open_buck_v {v : Value} (h : DataW.trod enc Try.prog w base spare held fuel 33 v.cells.toList = some x) (hv : ∃ cs, v = .agg cs) : BuckV w v := by
  obtain ⟨cs, rfl⟩ := hv
  obtain ⟨z, cl, b, h1, h2, A, n, c, m, a, rfl, h3⟩ := open_buck0 h
  obtain ⟨k, rfl⟩ : ∃ k : Nat, z = k := ⟨z.toNat, by omega⟩
  refine ⟨⟨k, A, n, c, m, a, b, by omega, h3⟩, ?_⟩
  have e : cs.toList = Buck.cells ⟨k, A, n, c, m, a, b, by omega, h3⟩ := by
    have h4 : cs.toList = _ := h1
    rw [h4]
    simp [Buck.cells]
  show Value.agg cs = Value.agg (Buck.cells ⟨k, A, n, c, m, a, b, by omega, h3⟩).toArray
  rw [← e]
theorem u64s_flat : ∀ (xs : List Nat), u64s xs = xs.flatMap fun (x : Nat) => [Value.int .u64 (x : Int)]
  | [] => rfl
  | a :: r => by
    have ih := u64s_flat r
    simp only [u64s, List.map_cons, List.flatMap_cons] at ih ⊢
    rw [← ih]
    rfl
/-- A slice of numbers. -/
def SumsIs (w : World) (v : Value) : Prop := ∃ (A : Option Addr) (c : Nat) (l : List Nat), v = .slice A l.length c ∧ Reads w 1 A l.length (u64s l) ∧ ∀ x ∈ l, x ≤ 18446744073709551615
theorem open_sums (h : DataW.trod enc Try.prog w base spare held fuel 34 cs = some x) : ∃ v, cs = [v] ∧ SumsIs w v := by
  obtain ⟨A, n, c, xs, h1, h2, h3, h4, _, _⟩ := open_rows (X := Nat) 1 (fun x => [Value.int .u64 (x : Int)]) (fun x => x ≤ 18446744073709551615) Try.underlying34 (by kernel_rfl) (fun n cs y h => by
    obtain ⟨z, g, _, u⟩ := DataW.trod_int Try.underlying24 h
    have b : 0 ≤ z ∧ z ≤ 18446744073709551615 := by simpa [Lit.wf, IntKind.min, IntKind.max, IntKind.signed, IntKind.bits] using u
    exact ⟨z.toNat, by rw [g, Int.toNat_of_nonneg b.1], by omega⟩) h
  subst h2
  refine ⟨_, h1, A, c, xs, rfl, ?_, fun x hx => (h4 x hx).1⟩
  have e := u64s_flat xs
  rw [e]
  exact h3
theorem open_resu0 (h : DataW.trod enc Try.prog w base spare held fuel 36 cs = some x) : ∃ (z0 : Int) (z1 : Int) (z2 : Value) (z3 : Int), cs = [Value.int .u64 z0] ++ ([Value.int .i64 z1] ++ ([z2] ++ ([Value.int .i64 z3] ++ []))) ∧ (0 ≤ z0 ∧ z0 ≤ 18446744073709551615) ∧ (-9223372036854775808 ≤ z1 ∧ z1 ≤ 9223372036854775807) ∧ (SumsIs w z2) ∧ (-9223372036854775808 ≤ z3 ∧ z3 ≤ 9223372036854775807) := by
  obtain ⟨hl, m, hf⟩ := open_struct Try.underlying36 h
  have hl' : cs.length = 4 := hl.trans (by kernel_rfl)
  have n0 : Try.prog.cellsOf 24 = 1 := by kernel_rfl
  have n1 : Try.prog.cellsOf 3 = 1 := by kernel_rfl
  have n2 : Try.prog.cellsOf 34 = 1 := by kernel_rfl
  have n3 : Try.prog.cellsOf 25 = 1 := by kernel_rfl
  obtain ⟨y0, e0⟩ := hf 0 _ rfl
  have f0 : DataW.trod enc Try.prog w base spare held m 24 ((cs.drop 0).take (Try.prog.cellsOf 24)) = some y0 := e0
  rw [n0] at f0
  obtain ⟨y1, e1⟩ := hf 1 _ rfl
  have f1 : DataW.trod enc Try.prog w base spare held m 3 ((cs.drop 1).take (Try.prog.cellsOf 3)) = some y1 := e1
  rw [n1] at f1
  obtain ⟨y2, e2⟩ := hf 2 _ rfl
  have f2 : DataW.trod enc Try.prog w base spare held m 34 ((cs.drop 2).take (Try.prog.cellsOf 34)) = some y2 := e2
  rw [n2] at f2
  obtain ⟨y3, e3⟩ := hf 3 _ rfl
  have f3 : DataW.trod enc Try.prog w base spare held m 25 ((cs.drop 3).take (Try.prog.cellsOf 25)) = some y3 := e3
  rw [n3] at f3
  obtain ⟨z0, g0, _, u0⟩ := DataW.trod_int Try.underlying24 f0
  have b0 : 0 ≤ z0 ∧ z0 ≤ 18446744073709551615 := by simpa [Lit.wf, IntKind.min, IntKind.max, IntKind.signed, IntKind.bits] using u0
  obtain ⟨z1, g1, _, u1⟩ := DataW.trod_int Try.underlying3 f1
  have b1 : -9223372036854775808 ≤ z1 ∧ z1 ≤ 9223372036854775807 := by simpa [Lit.wf, IntKind.min, IntKind.max, IntKind.signed, IntKind.bits] using u1
  obtain ⟨z2, g2, b2⟩ := open_sums f2
  obtain ⟨z3, g3, _, u3⟩ := DataW.trod_int Try.underlying25 f3
  have b3 : -9223372036854775808 ≤ z3 ∧ z3 ≤ 9223372036854775807 := by simpa [Lit.wf, IntKind.min, IntKind.max, IntKind.signed, IntKind.bits] using u3
  have hp : cs = (cs.drop 0).take 1 ++ ((cs.drop 1).take 1 ++ ((cs.drop 2).take 1 ++ ((cs.drop 3).take 1 ++ []))) := by
    rw [← piece_end hl', ← piece 3 1 4 rfl, ← piece 2 1 3 rfl, ← piece 1 1 2 rfl, ← piece 0 1 1 rfl, List.drop_zero]
  rw [g0, g1, g2, g3] at hp
  exact ⟨z0, z1, z2, z3, hp, b0, b1, b2, b3⟩
def ResuV (w : World) (v : Value) : Prop := ∃ r : Resu, v = .agg r.cells.toArray ∧ Reads w 1 r.A r.sums.length (u64s r.sums)
theorem open_resu_v {v : Value} (h : DataW.trod enc Try.prog w base spare held fuel 36 v.cells.toList = some x) (hv : ∃ cs, v = .agg cs) : ResuV w v := by
  obtain ⟨cs, rfl⟩ := hv
  obtain ⟨z, m, u, k, h1, h2, h3, ⟨A, c, l, rfl, h4, h5⟩, h6⟩ := open_resu0 h
  obtain ⟨s, rfl⟩ : ∃ s : Nat, z = s := ⟨z.toNat, by omega⟩
  refine ⟨⟨s, m, A, c, l, k, by omega, h3.2, h6, h5⟩, ?_, h4⟩
  have e : cs.toList = Resu.cells ⟨s, m, A, c, l, k, by omega, h3.2, h6, h5⟩ := h1
  show Value.agg cs = Value.agg (Resu.cells ⟨s, m, A, c, l, k, by omega, h3.2, h6, h5⟩).toArray
  rw [← e]
end
theorem Parts_v (v u r : Value) (w : World) (h : SeenV w v) (h1 : BuckV w u) (h2 : ResuV w r) : Calls Try.prog 3 #[v, u, r] w fun e w' => e = .returned (.bool true) ∧ Fr Nil w w' := by
  obtain ⟨s, rfl⟩ := h
  obtain ⟨b, rfl⟩ := h1
  obtain ⟨r, rfl, hr⟩ := h2
  exact Fn.top (parts_ok s b r (Vw.of_old .here hr))
end Go.Proofs.Ytinomilmccopnaa
