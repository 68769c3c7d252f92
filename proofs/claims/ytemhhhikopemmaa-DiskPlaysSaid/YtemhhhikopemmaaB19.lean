/- Several texts of one claim, one behind the other (Dqi). -/
import Derived.Test.YtemhhhikopemmaaB18
import Derived.WalkKit
import Derived.ProofKit
import Derived.SizedLaws
/- Calls as they come in. -/
namespace Go.Proofs.Ytemhhhikopemmaa
open Go.RowKit Go.ChangeShapes Go.WideShapes Go.Deep
section
variable {H : Type} {enc : TypeId × Value → H} {w : World} {base : Nat} {spare : Nat → Bool} {held : Bool} {fuel : Nat} {cs : List Value} {x : DataW H × List MemPlace}
theorem open_raw1 (h : DataW.trod enc Try.prog w base spare held fuel 23 cs = some x) : ∃ v, cs = [v] ∧ RawV w v := by
  obtain ⟨v, bs, rfl, A, n, c, rfl, hr, hb, hc, hm⟩ := open_bytes Try.underlying23 Try.underlying5 (by kernel_rfl) h
  have hl : bs.length = n := by have := hr.1; simpa [bytes] using this
  subst hl
  exact ⟨_, rfl, A, c, bs, rfl, hr, hb, hc, hm⟩
theorem open_str1 (h : DataW.trod enc Try.prog w base spare held fuel 9 cs = some x) : ∃ v, cs = [v] ∧ ∃ s, v = .string s := by
  obtain ⟨s, rfl, _⟩ := DataW.trod_string Try.underlying9 h
  exact ⟨_, rfl, s, rfl⟩
theorem open_actc (h : DataW.trod enc Try.prog w base spare held fuel 63 cs = some x) : ∃ (z0 : Int) (z1 : Int) (z2 : Value) (z3 : Int) (z4 : Value) (z5 : Bool), cs = [Value.int .u8 z0] ++ ([Value.int .u8 z1] ++ ([z2] ++ ([Value.int .i64 z3] ++ ([z4] ++ ([Value.bool z5] ++ []))))) ∧ (0 ≤ z0 ∧ z0 ≤ 255) ∧ (0 ≤ z1 ∧ z1 ≤ 255) ∧ (RawV w z2) ∧ (-9223372036854775808 ≤ z3 ∧ z3 ≤ 9223372036854775807) ∧ (∃ s, z4 = .string s) := by
  obtain ⟨hl, m, hf⟩ := open_struct Try.underlying63 h
  have hl' : cs.length = 6 := hl.trans (by kernel_rfl)
  have n0 : Try.prog.cellsOf 5 = 1 := by kernel_rfl
  have n1 : Try.prog.cellsOf 5 = 1 := by kernel_rfl
  have n2 : Try.prog.cellsOf 23 = 1 := by kernel_rfl
  have n3 : Try.prog.cellsOf 3 = 1 := by kernel_rfl
  have n4 : Try.prog.cellsOf 9 = 1 := by kernel_rfl
  have n5 : Try.prog.cellsOf 4 = 1 := by kernel_rfl
  obtain ⟨y0, e0⟩ := hf 0 _ rfl
  have f0 : DataW.trod enc Try.prog w base spare held m 5 ((cs.drop 0).take (Try.prog.cellsOf 5)) = some y0 := e0
  rw [n0] at f0
  obtain ⟨y1, e1⟩ := hf 1 _ rfl
  have f1 : DataW.trod enc Try.prog w base spare held m 5 ((cs.drop 1).take (Try.prog.cellsOf 5)) = some y1 := e1
  rw [n1] at f1
  obtain ⟨y2, e2⟩ := hf 2 _ rfl
  have f2 : DataW.trod enc Try.prog w base spare held m 23 ((cs.drop 2).take (Try.prog.cellsOf 23)) = some y2 := e2
  rw [n2] at f2
  obtain ⟨y3, e3⟩ := hf 3 _ rfl
  have f3 : DataW.trod enc Try.prog w base spare held m 3 ((cs.drop 3).take (Try.prog.cellsOf 3)) = some y3 := e3
  rw [n3] at f3
  obtain ⟨y4, e4⟩ := hf 4 _ rfl
  have f4 : DataW.trod enc Try.prog w base spare held m 9 ((cs.drop 4).take (Try.prog.cellsOf 9)) = some y4 := e4
  rw [n4] at f4
  obtain ⟨y5, e5⟩ := hf 5 _ rfl
  have f5 : DataW.trod enc Try.prog w base spare held m 4 ((cs.drop 5).take (Try.prog.cellsOf 4)) = some y5 := e5
  rw [n5] at f5
  obtain ⟨z0, g0, _, u0⟩ := DataW.trod_int Try.underlying5 f0
  have b0 : 0 ≤ z0 ∧ z0 ≤ 255 := by simpa [Lit.wf, IntKind.min, IntKind.max, IntKind.signed, IntKind.bits] using u0
  obtain ⟨z1, g1, _, u1⟩ := DataW.trod_int Try.underlying5 f1
  have b1 : 0 ≤ z1 ∧ z1 ≤ 255 := by simpa [Lit.wf, IntKind.min, IntKind.max, IntKind.signed, IntKind.bits] using u1
  obtain ⟨z2, g2, b2⟩ := open_raw1 f2
  obtain ⟨z3, g3, _, u3⟩ := DataW.trod_int Try.underlying3 f3
  have b3 : -9223372036854775808 ≤ z3 ∧ z3 ≤ 9223372036854775807 := by simpa [Lit.wf, IntKind.min, IntKind.max, IntKind.signed, IntKind.bits] using u3
  obtain ⟨z4, g4, b4⟩ := open_str1 f4
  obtain ⟨z5, g5, _⟩ := DataW.trod_bool Try.underlying4 f5
  have hp : cs = (cs.drop 0).take 1 ++ ((cs.drop 1).take 1 ++ ((cs.drop 2).take 1 ++ ((cs.drop 3).take 1 ++ ((cs.drop 4).take 1 ++ ((cs.drop 5).take 1 ++ []))))) := by
    rw [← piece_end hl', ← piece 5 1 6 rfl, ← piece 4 1 5 rfl, ← piece 3 1 4 rfl, ← piece 2 1 3 rfl, ← piece 1 1 2 rfl, ← piece 0 1 1 rfl, List.drop_zero]
  rw [g0, g1, g2, g3, g4, g5] at hp
  exact ⟨z0, z1, z2, z3, z4, z5, hp, b0, b1, b2, b3, b4⟩
instance : Inhabited Ac := ⟨⟨0, 0, none, 0, [], 0, ⟨#[]⟩, false⟩⟩
theorem open_ac (h : DataW.trod enc Try.prog w base spare held fuel 63 cs = some x) : ∃ a : Ac, cs = a.C ∧ a.ok w := by
  obtain ⟨z0, z1, z2, z3, z4, z5, hcs, b0, b1, ⟨A, c, l, rfl, r1, r2, r3, r4⟩, b3, s, rfl⟩ := open_actc h
  exact ⟨⟨z0, z1, A, c, l, z3, s, z5⟩, hcs, b0, b1, b3, r1, r2, r3, r4⟩
def AcsV (w : World) (v : Value) : Prop := ∃ (R : Option Addr) (c : Nat) (xs : List Ac), v = .slice R xs.length c ∧ Reads w 6 R xs.length (rows Ac.C xs) ∧ (∀ a ∈ xs, a.ok w) ∧ xs.length ≤ maxLen
theorem open_acs {v : Value} (h : DataW.trod enc Try.prog w base spare held fuel 60 v.cells.toList = some x) (hv : ∃ A n c, v = .slice A n c) : AcsV w v := by
  obtain ⟨A0, n0, c0, rfl⟩ := hv
  obtain ⟨A, n, c, xs, hcs, hl, hr, hk, hc, hm⟩ := open_rows (X := Ac) 6 Ac.C (fun b => b.ok w) Try.underlying60 (by kernel_rfl) (fun _ _ _ h => open_ac h) h
  subst hl
  have hcs' : Value.slice A0 n0 c0 = .slice A xs.length c := by simpa [Value.cells] using hcs
  exact ⟨A, c, xs, hcs', hr, fun x hx => (hk x hx).1, by omega⟩
end
theorem Plays_v {a : Int} {v : Value} {w : World} (h : AcsV w v) : Calls Try.prog 8 #[.int .i64 a, v] w fun e w' => e = .returned (.bool true) ∧ Fr Nil w w' := by
  obtain ⟨R, c, xs, rfl, h1, h2, h3⟩ := h
  exact Fn.top (lawPlays_ok h1 h2 (by unfold maxLen at h3; omega))
end Go.Proofs.Ytemhhhikopemmaa
