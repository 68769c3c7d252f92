/- Rules, small rules, tasks, small tasks, ids as they come in. (The openers are printed by wip/tools/gen_open.py.) -/
import Derived.Test.YtdmeofobljjpfaaGj
import Derived.Test.YtdmeofobljjpfaaOs
namespace Go.Proofs.Ytdmeofobljjpfaa
open Go.RowKit Go.ChangeShapes Go.WideShapes Go.Deep
section
variable {H : Type} {enc : TypeId × Value → H} {w : World} {base : Nat} {spare : Nat → Bool} {held : Bool} {fuel : Nat} {cs : List Value} {x : DataW H × List MemPlace}
theorem open_strv (h : DataW.trod enc Try.prog w base spare held fuel 9 cs = some x) : ∃ v : Value, cs = [v] ∧ ∃ s : ByteArray, v = .string s := by
  obtain ⟨s, rfl, _⟩ := DataW.trod_string Try.underlying9 h
  exact ⟨_, rfl, s, rfl⟩
theorem open_rules (h : DataW.trod enc Try.prog w base spare held fuel 24 cs = some x) : ∃ (z0 : Int) (z1 : Int) (z2 : Int), cs = [Value.int .u64 z0] ++ ([Value.int .i64 z1] ++ ([Value.int .i64 z2] ++ [])) ∧ (0 ≤ z0 ∧ z0 ≤ 18446744073709551615) ∧ (-9223372036854775808 ≤ z1 ∧ z1 ≤ 9223372036854775807) ∧ (-9223372036854775808 ≤ z2 ∧ z2 ≤ 9223372036854775807) := by
  obtain ⟨hl, m, hf⟩ := open_struct Try.underlying24 h
  have hl' : cs.length = 3 := hl.trans (by kernel_rfl)
  have n0 : Try.prog.cellsOf 22 = 1 := by kernel_rfl
  have n1 : Try.prog.cellsOf 3 = 1 := by kernel_rfl
  have n2 : Try.prog.cellsOf 3 = 1 := by kernel_rfl
  obtain ⟨y0, e0⟩ := hf 0 _ rfl
  have f0 : DataW.trod enc Try.prog w base spare held m 22 ((cs.drop 0).take (Try.prog.cellsOf 22)) = some y0 := e0
  rw [n0] at f0
  obtain ⟨y1, e1⟩ := hf 1 _ rfl
  have f1 : DataW.trod enc Try.prog w base spare held m 3 ((cs.drop 1).take (Try.prog.cellsOf 3)) = some y1 := e1
  rw [n1] at f1
  obtain ⟨y2, e2⟩ := hf 2 _ rfl
  have f2 : DataW.trod enc Try.prog w base spare held m 3 ((cs.drop 2).take (Try.prog.cellsOf 3)) = some y2 := e2
  rw [n2] at f2
  obtain ⟨z0, g0, _, u0⟩ := DataW.trod_int Try.underlying22 f0
  have b0 : 0 ≤ z0 ∧ z0 ≤ 18446744073709551615 := by simpa [Lit.wf, IntKind.min, IntKind.max, IntKind.signed, IntKind.bits] using u0
  obtain ⟨z1, g1, _, u1⟩ := DataW.trod_int Try.underlying3 f1
  have b1 : -9223372036854775808 ≤ z1 ∧ z1 ≤ 9223372036854775807 := by simpa [Lit.wf, IntKind.min, IntKind.max, IntKind.signed, IntKind.bits] using u1
  obtain ⟨z2, g2, _, u2⟩ := DataW.trod_int Try.underlying3 f2
  have b2 : -9223372036854775808 ≤ z2 ∧ z2 ≤ 9223372036854775807 := by simpa [Lit.wf, IntKind.min, IntKind.max, IntKind.signed, IntKind.bits] using u2
  have hp : cs = (cs.drop 0).take 1 ++ ((cs.drop 1).take 1 ++ ((cs.drop 2).take 1 ++ [])) := by
    rw [← piece_end hl', ← piece 2 1 3 rfl, ← piece 1 1 2 rfl, ← piece 0 1 1 rfl, List.drop_zero]
  rw [g0, g1, g2] at hp
  exact ⟨z0, z1, z2, hp, b0, b1, b2⟩
theorem open_sm19 (h : DataW.trod enc Try.prog w base spare held fuel 26 cs = some x) : ∃ (z0 : Int) (z1 : Int) (z2 : Int), cs = [Value.int .u8 z0] ++ ([Value.int .u8 z1] ++ ([Value.int .u8 z2] ++ [])) ∧ (0 ≤ z0 ∧ z0 ≤ 255) ∧ (0 ≤ z1 ∧ z1 ≤ 255) ∧ (0 ≤ z2 ∧ z2 ≤ 255) := by
  obtain ⟨hl, m, hf⟩ := open_struct Try.underlying26 h
  have hl' : cs.length = 3 := hl.trans (by kernel_rfl)
  have n0 : Try.prog.cellsOf 5 = 1 := by kernel_rfl
  have n1 : Try.prog.cellsOf 5 = 1 := by kernel_rfl
  have n2 : Try.prog.cellsOf 5 = 1 := by kernel_rfl
  obtain ⟨y0, e0⟩ := hf 0 _ rfl
  have f0 : DataW.trod enc Try.prog w base spare held m 5 ((cs.drop 0).take (Try.prog.cellsOf 5)) = some y0 := e0
  rw [n0] at f0
  obtain ⟨y1, e1⟩ := hf 1 _ rfl
  have f1 : DataW.trod enc Try.prog w base spare held m 5 ((cs.drop 1).take (Try.prog.cellsOf 5)) = some y1 := e1
  rw [n1] at f1
  obtain ⟨y2, e2⟩ := hf 2 _ rfl
  have f2 : DataW.trod enc Try.prog w base spare held m 5 ((cs.drop 2).take (Try.prog.cellsOf 5)) = some y2 := e2
  rw [n2] at f2
  obtain ⟨z0, g0, _, u0⟩ := DataW.trod_int Try.underlying5 f0
  have b0 : 0 ≤ z0 ∧ z0 ≤ 255 := by simpa [Lit.wf, IntKind.min, IntKind.max, IntKind.signed, IntKind.bits] using u0
  obtain ⟨z1, g1, _, u1⟩ := DataW.trod_int Try.underlying5 f1
  have b1 : 0 ≤ z1 ∧ z1 ≤ 255 := by simpa [Lit.wf, IntKind.min, IntKind.max, IntKind.signed, IntKind.bits] using u1
  obtain ⟨z2, g2, _, u2⟩ := DataW.trod_int Try.underlying5 f2
  have b2 : 0 ≤ z2 ∧ z2 ≤ 255 := by simpa [Lit.wf, IntKind.min, IntKind.max, IntKind.signed, IntKind.bits] using u2
  have hp : cs = (cs.drop 0).take 1 ++ ((cs.drop 1).take 1 ++ ((cs.drop 2).take 1 ++ [])) := by
    rw [← piece_end hl', ← piece 2 1 3 rfl, ← piece 1 1 2 rfl, ← piece 0 1 1 rfl, List.drop_zero]
  rw [g0, g1, g2] at hp
  exact ⟨z0, z1, z2, hp, b0, b1, b2⟩
theorem open_sm10 (h : DataW.trod enc Try.prog w base spare held fuel 39 cs = some x) : ∃ (z0 : Int) (z1 : Int) (z2 : Int) (z3 : Int) (z4 : Int) (z5 : Int), cs = [Value.int .u8 z0] ++ ([Value.int .u8 z1] ++ ([Value.int .u8 z2] ++ ([Value.int .u8 z3] ++ ([Value.int .u8 z4] ++ ([Value.int .u8 z5] ++ []))))) ∧ (0 ≤ z0 ∧ z0 ≤ 255) ∧ (0 ≤ z1 ∧ z1 ≤ 255) ∧ (0 ≤ z2 ∧ z2 ≤ 255) ∧ (0 ≤ z3 ∧ z3 ≤ 255) ∧ (0 ≤ z4 ∧ z4 ≤ 255) ∧ (0 ≤ z5 ∧ z5 ≤ 255) := by
  obtain ⟨hl, m, hf⟩ := open_struct Try.underlying39 h
  have hl' : cs.length = 6 := hl.trans (by kernel_rfl)
  have n0 : Try.prog.cellsOf 5 = 1 := by kernel_rfl
  have n1 : Try.prog.cellsOf 5 = 1 := by kernel_rfl
  have n2 : Try.prog.cellsOf 5 = 1 := by kernel_rfl
  have n3 : Try.prog.cellsOf 5 = 1 := by kernel_rfl
  have n4 : Try.prog.cellsOf 5 = 1 := by kernel_rfl
  have n5 : Try.prog.cellsOf 5 = 1 := by kernel_rfl
  obtain ⟨y0, e0⟩ := hf 0 _ rfl
  have f0 : DataW.trod enc Try.prog w base spare held m 5 ((cs.drop 0).take (Try.prog.cellsOf 5)) = some y0 := e0
  rw [n0] at f0
  obtain ⟨y1, e1⟩ := hf 1 _ rfl
  have f1 : DataW.trod enc Try.prog w base spare held m 5 ((cs.drop 1).take (Try.prog.cellsOf 5)) = some y1 := e1
  rw [n1] at f1
  obtain ⟨y2, e2⟩ := hf 2 _ rfl
  have f2 : DataW.trod enc Try.prog w base spare held m 5 ((cs.drop 2).take (Try.prog.cellsOf 5)) = some y2 := e2
  rw [n2] at f2
  obtain ⟨y3, e3⟩ := hf 3 _ rfl
  have f3 : DataW.trod enc Try.prog w base spare held m 5 ((cs.drop 3).take (Try.prog.cellsOf 5)) = some y3 := e3
  rw [n3] at f3
  obtain ⟨y4, e4⟩ := hf 4 _ rfl
  have f4 : DataW.trod enc Try.prog w base spare held m 5 ((cs.drop 4).take (Try.prog.cellsOf 5)) = some y4 := e4
  rw [n4] at f4
  obtain ⟨y5, e5⟩ := hf 5 _ rfl
  have f5 : DataW.trod enc Try.prog w base spare held m 5 ((cs.drop 5).take (Try.prog.cellsOf 5)) = some y5 := e5
  rw [n5] at f5
  obtain ⟨z0, g0, _, u0⟩ := DataW.trod_int Try.underlying5 f0
  have b0 : 0 ≤ z0 ∧ z0 ≤ 255 := by simpa [Lit.wf, IntKind.min, IntKind.max, IntKind.signed, IntKind.bits] using u0
  obtain ⟨z1, g1, _, u1⟩ := DataW.trod_int Try.underlying5 f1
  have b1 : 0 ≤ z1 ∧ z1 ≤ 255 := by simpa [Lit.wf, IntKind.min, IntKind.max, IntKind.signed, IntKind.bits] using u1
  obtain ⟨z2, g2, _, u2⟩ := DataW.trod_int Try.underlying5 f2
  have b2 : 0 ≤ z2 ∧ z2 ≤ 255 := by simpa [Lit.wf, IntKind.min, IntKind.max, IntKind.signed, IntKind.bits] using u2
  obtain ⟨z3, g3, _, u3⟩ := DataW.trod_int Try.underlying5 f3
  have b3 : 0 ≤ z3 ∧ z3 ≤ 255 := by simpa [Lit.wf, IntKind.min, IntKind.max, IntKind.signed, IntKind.bits] using u3
  obtain ⟨z4, g4, _, u4⟩ := DataW.trod_int Try.underlying5 f4
  have b4 : 0 ≤ z4 ∧ z4 ≤ 255 := by simpa [Lit.wf, IntKind.min, IntKind.max, IntKind.signed, IntKind.bits] using u4
  obtain ⟨z5, g5, _, u5⟩ := DataW.trod_int Try.underlying5 f5
  have b5 : 0 ≤ z5 ∧ z5 ≤ 255 := by simpa [Lit.wf, IntKind.min, IntKind.max, IntKind.signed, IntKind.bits] using u5
  have hp : cs = (cs.drop 0).take 1 ++ ((cs.drop 1).take 1 ++ ((cs.drop 2).take 1 ++ ((cs.drop 3).take 1 ++ ((cs.drop 4).take 1 ++ ((cs.drop 5).take 1 ++ []))))) := by
    rw [← piece_end hl', ← piece 5 1 6 rfl, ← piece 4 1 5 rfl, ← piece 3 1 4 rfl, ← piece 2 1 3 rfl, ← piece 1 1 2 rfl, ← piece 0 1 1 rfl, List.drop_zero]
  rw [g0, g1, g2, g3, g4, g5] at hp
  exact ⟨z0, z1, z2, z3, z4, z5, hp, b0, b1, b2, b3, b4, b5⟩
def Sm10P (cs : List Value) : Prop := ∃ k f b l w c : Int, cs = sCells k f b l w c ∧ (0 ≤ k ∧ k ≤ 255) ∧ (0 ≤ f ∧ f ≤ 255) ∧ (0 ≤ b ∧ b ≤ 255) ∧ (0 ≤ l ∧ l ≤ 255) ∧ (0 ≤ w ∧ w ≤ 255) ∧ (0 ≤ c ∧ c ≤ 255)
theorem open_sm10c (h : DataW.trod enc Try.prog w base spare held fuel 39 cs = some x) : ∃ z : List Value, cs = z ∧ Sm10P z := by
  obtain ⟨k, f, b, l, w, c, h1, h2⟩ := open_sm10 h
  exact ⟨_, rfl, k, f, b, l, w, c, by rw [h1]; rfl, h2⟩
theorem open_sm13 (h : DataW.trod enc Try.prog w base spare held fuel 41 cs = some x) : ∃ (z0 : List Value) (z1 : Int) (z2 : Int), cs = z0 ++ ([Value.int .u8 z1] ++ ([Value.int .u8 z2] ++ [])) ∧ (Sm10P z0) ∧ (0 ≤ z1 ∧ z1 ≤ 255) ∧ (0 ≤ z2 ∧ z2 ≤ 255) := by
  obtain ⟨hl, m, hf⟩ := open_struct Try.underlying41 h
  have hl' : cs.length = 8 := hl.trans (by kernel_rfl)
  have n0 : Try.prog.cellsOf 39 = 6 := by kernel_rfl
  have n1 : Try.prog.cellsOf 5 = 1 := by kernel_rfl
  have n2 : Try.prog.cellsOf 5 = 1 := by kernel_rfl
  obtain ⟨y0, e0⟩ := hf 0 _ rfl
  have f0 : DataW.trod enc Try.prog w base spare held m 39 ((cs.drop 0).take (Try.prog.cellsOf 39)) = some y0 := e0
  rw [n0] at f0
  obtain ⟨y1, e1⟩ := hf 1 _ rfl
  have f1 : DataW.trod enc Try.prog w base spare held m 5 ((cs.drop 6).take (Try.prog.cellsOf 5)) = some y1 := e1
  rw [n1] at f1
  obtain ⟨y2, e2⟩ := hf 2 _ rfl
  have f2 : DataW.trod enc Try.prog w base spare held m 5 ((cs.drop 7).take (Try.prog.cellsOf 5)) = some y2 := e2
  rw [n2] at f2
  obtain ⟨z0, g0, b0⟩ := open_sm10c f0
  obtain ⟨z1, g1, _, u1⟩ := DataW.trod_int Try.underlying5 f1
  have b1 : 0 ≤ z1 ∧ z1 ≤ 255 := by simpa [Lit.wf, IntKind.min, IntKind.max, IntKind.signed, IntKind.bits] using u1
  obtain ⟨z2, g2, _, u2⟩ := DataW.trod_int Try.underlying5 f2
  have b2 : 0 ≤ z2 ∧ z2 ≤ 255 := by simpa [Lit.wf, IntKind.min, IntKind.max, IntKind.signed, IntKind.bits] using u2
  have hp : cs = (cs.drop 0).take 6 ++ ((cs.drop 6).take 1 ++ ((cs.drop 7).take 1 ++ [])) := by
    rw [← piece_end hl', ← piece 7 1 8 rfl, ← piece 6 1 7 rfl, ← piece 0 6 6 rfl, List.drop_zero]
  rw [g0, g1, g2] at hp
  exact ⟨z0, z1, z2, hp, b0, b1, b2⟩
theorem open_circ (h : DataW.trod enc Try.prog w base spare held fuel 35 cs = some x) : ∃ (z0 : Int) (z1 : Int) (z2 : Int) (z3 : Int) (z4 : Int) (z5 : Int), cs = [Value.int .u8 z0] ++ ([Value.int .u8 z1] ++ ([Value.int .i64 z2] ++ ([Value.int .i64 z3] ++ ([Value.int .i64 z4] ++ ([Value.int .i64 z5] ++ []))))) ∧ (0 ≤ z0 ∧ z0 ≤ 255) ∧ (0 ≤ z1 ∧ z1 ≤ 255) ∧ (-9223372036854775808 ≤ z2 ∧ z2 ≤ 9223372036854775807) ∧ (-9223372036854775808 ≤ z3 ∧ z3 ≤ 9223372036854775807) ∧ (-9223372036854775808 ≤ z4 ∧ z4 ≤ 9223372036854775807) ∧ (-9223372036854775808 ≤ z5 ∧ z5 ≤ 9223372036854775807) := by
  obtain ⟨hl, m, hf⟩ := open_struct Try.underlying35 h
  have hl' : cs.length = 6 := hl.trans (by kernel_rfl)
  have n0 : Try.prog.cellsOf 32 = 1 := by kernel_rfl
  have n1 : Try.prog.cellsOf 33 = 1 := by kernel_rfl
  have n2 : Try.prog.cellsOf 3 = 1 := by kernel_rfl
  have n3 : Try.prog.cellsOf 3 = 1 := by kernel_rfl
  have n4 : Try.prog.cellsOf 3 = 1 := by kernel_rfl
  have n5 : Try.prog.cellsOf 3 = 1 := by kernel_rfl
  obtain ⟨y0, e0⟩ := hf 0 _ rfl
  have f0 : DataW.trod enc Try.prog w base spare held m 32 ((cs.drop 0).take (Try.prog.cellsOf 32)) = some y0 := e0
  rw [n0] at f0
  obtain ⟨y1, e1⟩ := hf 1 _ rfl
  have f1 : DataW.trod enc Try.prog w base spare held m 33 ((cs.drop 1).take (Try.prog.cellsOf 33)) = some y1 := e1
  rw [n1] at f1
  obtain ⟨y2, e2⟩ := hf 2 _ rfl
  have f2 : DataW.trod enc Try.prog w base spare held m 3 ((cs.drop 2).take (Try.prog.cellsOf 3)) = some y2 := e2
  rw [n2] at f2
  obtain ⟨y3, e3⟩ := hf 3 _ rfl
  have f3 : DataW.trod enc Try.prog w base spare held m 3 ((cs.drop 3).take (Try.prog.cellsOf 3)) = some y3 := e3
  rw [n3] at f3
  obtain ⟨y4, e4⟩ := hf 4 _ rfl
  have f4 : DataW.trod enc Try.prog w base spare held m 3 ((cs.drop 4).take (Try.prog.cellsOf 3)) = some y4 := e4
  rw [n4] at f4
  obtain ⟨y5, e5⟩ := hf 5 _ rfl
  have f5 : DataW.trod enc Try.prog w base spare held m 3 ((cs.drop 5).take (Try.prog.cellsOf 3)) = some y5 := e5
  rw [n5] at f5
  obtain ⟨z0, g0, _, u0⟩ := DataW.trod_int Try.underlying32 f0
  have b0 : 0 ≤ z0 ∧ z0 ≤ 255 := by simpa [Lit.wf, IntKind.min, IntKind.max, IntKind.signed, IntKind.bits] using u0
  obtain ⟨z1, g1, _, u1⟩ := DataW.trod_int Try.underlying33 f1
  have b1 : 0 ≤ z1 ∧ z1 ≤ 255 := by simpa [Lit.wf, IntKind.min, IntKind.max, IntKind.signed, IntKind.bits] using u1
  obtain ⟨z2, g2, _, u2⟩ := DataW.trod_int Try.underlying3 f2
  have b2 : -9223372036854775808 ≤ z2 ∧ z2 ≤ 9223372036854775807 := by simpa [Lit.wf, IntKind.min, IntKind.max, IntKind.signed, IntKind.bits] using u2
  obtain ⟨z3, g3, _, u3⟩ := DataW.trod_int Try.underlying3 f3
  have b3 : -9223372036854775808 ≤ z3 ∧ z3 ≤ 9223372036854775807 := by simpa [Lit.wf, IntKind.min, IntKind.max, IntKind.signed, IntKind.bits] using u3
  obtain ⟨z4, g4, _, u4⟩ := DataW.trod_int Try.underlying3 f4
  have b4 : -9223372036854775808 ≤ z4 ∧ z4 ≤ 9223372036854775807 := by simpa [Lit.wf, IntKind.min, IntKind.max, IntKind.signed, IntKind.bits] using u4
  obtain ⟨z5, g5, _, u5⟩ := DataW.trod_int Try.underlying3 f5
  have b5 : -9223372036854775808 ≤ z5 ∧ z5 ≤ 9223372036854775807 := by simpa [Lit.wf, IntKind.min, IntKind.max, IntKind.signed, IntKind.bits] using u5
  have hp : cs = (cs.drop 0).take 1 ++ ((cs.drop 1).take 1 ++ ((cs.drop 2).take 1 ++ ((cs.drop 3).take 1 ++ ((cs.drop 4).take 1 ++ ((cs.drop 5).take 1 ++ []))))) := by
    rw [← piece_end hl', ← piece 5 1 6 rfl, ← piece 4 1 5 rfl, ← piece 3 1 4 rfl, ← piece 2 1 3 rfl, ← piece 1 1 2 rfl, ← piece 0 1 1 rfl, List.drop_zero]
  rw [g0, g1, g2, g3, g4, g5] at hp
  exact ⟨z0, z1, z2, z3, z4, z5, hp, b0, b1, b2, b3, b4, b5⟩
def CiP (cs : List Value) : Prop := ∃ k f b l w c : Int, cs = cCells k f b l w c
theorem open_circc (h : DataW.trod enc Try.prog w base spare held fuel 35 cs = some x) : ∃ z : List Value, cs = z ∧ CiP z := by
  obtain ⟨k, f, b, l, w, c, h1, _⟩ := open_circ h
  exact ⟨_, rfl, k, f, b, l, w, c, by rw [h1]; rfl⟩
theorem open_task0 (h : DataW.trod enc Try.prog w base spare held fuel 37 cs = some x) : ∃ (z0 : List Value) (z1 : Int) (z2 : Value), cs = z0 ++ ([Value.int .i64 z1] ++ ([z2] ++ [])) ∧ (CiP z0) ∧ (-9223372036854775808 ≤ z1 ∧ z1 ≤ 9223372036854775807) ∧ (∃ s : ByteArray, z2 = .string s) := by
  obtain ⟨hl, m, hf⟩ := open_struct Try.underlying37 h
  have hl' : cs.length = 8 := hl.trans (by kernel_rfl)
  have n0 : Try.prog.cellsOf 35 = 6 := by kernel_rfl
  have n1 : Try.prog.cellsOf 3 = 1 := by kernel_rfl
  have n2 : Try.prog.cellsOf 9 = 1 := by kernel_rfl
  obtain ⟨y0, e0⟩ := hf 0 _ rfl
  have f0 : DataW.trod enc Try.prog w base spare held m 35 ((cs.drop 0).take (Try.prog.cellsOf 35)) = some y0 := e0
  rw [n0] at f0
  obtain ⟨y1, e1⟩ := hf 1 _ rfl
  have f1 : DataW.trod enc Try.prog w base spare held m 3 ((cs.drop 6).take (Try.prog.cellsOf 3)) = some y1 := e1
  rw [n1] at f1
  obtain ⟨y2, e2⟩ := hf 2 _ rfl
  have f2 : DataW.trod enc Try.prog w base spare held m 9 ((cs.drop 7).take (Try.prog.cellsOf 9)) = some y2 := e2
  rw [n2] at f2
  obtain ⟨z0, g0, b0⟩ := open_circc f0
  obtain ⟨z1, g1, _, u1⟩ := DataW.trod_int Try.underlying3 f1
  have b1 : -9223372036854775808 ≤ z1 ∧ z1 ≤ 9223372036854775807 := by simpa [Lit.wf, IntKind.min, IntKind.max, IntKind.signed, IntKind.bits] using u1
  obtain ⟨z2, g2, b2⟩ := open_strv f2
  have hp : cs = (cs.drop 0).take 6 ++ ((cs.drop 6).take 1 ++ ((cs.drop 7).take 1 ++ [])) := by
    rw [← piece_end hl', ← piece 7 1 8 rfl, ← piece 6 1 7 rfl, ← piece 0 6 6 rfl, List.drop_zero]
  rw [g0, g1, g2] at hp
  exact ⟨z0, z1, z2, hp, b0, b1, b2⟩
/-- Rules that came in. -/
def RulesV (_ : World) (v : Value) : Prop := ∃ r : Rl, v = .agg r.c.toArray ∧ 0 ≤ r.w ∧ r.w ≤ 18446744073709551615
theorem open_rules_v {v : Value} (h : DataW.trod enc Try.prog w base spare held fuel 24 v.cells.toList = some x) (hv : ∃ cs, v = .agg cs) : RulesV w v := by
  obtain ⟨cs, rfl⟩ := hv
  obtain ⟨a, b, c, h1, h2, _, _⟩ := open_rules h
  have h3 : cs.toList = (Rl.c ⟨a, b, c⟩) := h1
  exact ⟨⟨a, b, c⟩, by rw [← h3], h2.1, h2.2⟩
/-- Small rules: three small numbers. -/
def sm19C (a b c : Int) : List Value := [.int .u8 a, .int .u8 b, .int .u8 c]
def Sm19V (_ : World) (v : Value) : Prop := ∃ a b c : Int, v = .agg (sm19C a b c).toArray ∧ (0 ≤ a ∧ a ≤ 255) ∧ (0 ≤ b ∧ b ≤ 255) ∧ (0 ≤ c ∧ c ≤ 255)
theorem open_sm19_v {v : Value} (h : DataW.trod enc Try.prog w base spare held fuel 26 v.cells.toList = some x) (hv : ∃ cs, v = .agg cs) : Sm19V w v := by
  obtain ⟨cs, rfl⟩ := hv
  obtain ⟨a, b, c, h1, h2⟩ := open_sm19 h
  have h3 : cs.toList = sm19C a b c := h1
  exact ⟨a, b, c, by rw [← h3], h2⟩
def SkV (_ : World) (v : Value) : Prop := ∃ s : Sk, v = .agg s.cells.toArray
theorem open_sk_v {v : Value} (h : DataW.trod enc Try.prog w base spare held fuel 41 v.cells.toList = some x) (hv : ∃ cs, v = .agg cs) : SkV w v := by
  obtain ⟨cs, rfl⟩ := hv
  obtain ⟨z, p, t, h1, ⟨k, f, b, l, w, c, h2, hk, hf, hb, hl, hw, hc⟩, hp, ht⟩ := open_sm13 h
  subst h2
  have h3 : cs.toList = (Sk.cells ⟨k, f, b, l, w, c, p, t, hk, hf, hb, hl, hw, hc, hp, ht⟩) := h1
  exact ⟨_, by rw [← h3]⟩
def TaskV (_ : World) (v : Value) : Prop := ∃ t : Ta, v = .agg t.c.toArray
theorem open_task_v {v : Value} (h : DataW.trod enc Try.prog w base spare held fuel 37 v.cells.toList = some x) (hv : ∃ cs, v = .agg cs) : TaskV w v := by
  obtain ⟨cs, rfl⟩ := hv
  obtain ⟨z, p, u, h1, ⟨k, f, b, l, w, c, h2⟩, _, ⟨s, h4⟩⟩ := open_task0 h
  subst h2 h4
  have h3 : cs.toList = (Ta.c ⟨k, f, b, l, w, c, p, s⟩) := h1
  exact ⟨_, by rw [← h3]⟩
def IdW (_ : World) (v : Value) : Prop := ∃ a : Id, v = a.v
theorem open_id_w {v : Value} (h : DataW.trod enc Try.prog w base spare held fuel 52 v.cells.toList = some x) (hv : ∃ cs, v = .agg cs) : IdW w v := by
  obtain ⟨cs, rfl⟩ := hv
  obtain ⟨a, ha⟩ := open_id h
  have h1 : cs.toList = bytes a.l := ha
  refine ⟨a, ?_⟩
  show Value.agg cs = Value.agg (bytes a.l).toArray
  rw [← h1]
end
end Go.Proofs.Ytdmeofobljjpfaa
