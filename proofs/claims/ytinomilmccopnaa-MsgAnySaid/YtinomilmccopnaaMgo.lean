/- Messages as they come in. -/
import Derived.Test.YtinomilmccopnaaMg1
import Derived.Test.YtinomilmccopnaaOw
namespace Go.Proofs.Ytinomilmccopnaa
open Go.RowKit Go.ChangeShapes Go.WideShapes Go.Deep
section
variable {H : Type} {enc : TypeId × Value → H} {w : World} {base : Nat} {spare : Nat → Bool} {held : Bool} {fuel : Nat} {cs : List Value} {x : DataW H × List MemPlace}
def BytesV (w : World) (v : Value) : Prop := ∃ (A : Option Addr) (c : Nat) (l : List Int), v = .slice A l.length c ∧ Reads w 1 A l.length (bytes l) ∧ IsBytes l ∧ l.length ≤ c ∧ l.length ≤ 140737488351232
theorem open_byte (h : DataW.trod enc Try.prog w base spare held fuel 5 cs = some x) : ∃ n : Int, cs = [Value.int .u8 n] ∧ 0 ≤ n ∧ n < 256 := by
  obtain ⟨z, g, _, u⟩ := DataW.trod_int Try.underlying5 h
  have b : 0 ≤ z ∧ z ≤ 255 := by simpa [Lit.wf, IntKind.min, IntKind.max, IntKind.signed, IntKind.bits] using u
  exact ⟨z, g, b.1, by omega⟩
theorem flat_bytes (l : List Int) : (l.flatMap fun n => [Value.int .u8 n]) = bytes l := by
  induction l with
  | nil => rfl
  | cons a r ih =>
    rw [List.flatMap_cons, ih]
    rfl
theorem open_bytesW (h : DataW.trod enc Try.prog w base spare held fuel 40 cs = some x) (hw : Wt Try.prog 40 x.1) : ∃ v, cs = [v] ∧ BytesV w v := by
  obtain ⟨A, n, c, xs, hcs, hl, hr, hk, hc, _, hb⟩ := open_rowsW (X := Int) 1 (fun n => [Value.int .u8 n]) (fun n => 0 ≤ n ∧ n < 256) Try.underlying40 (by kernel_rfl) (fun _ _ _ h _ => by
    obtain ⟨a, ha, h1, h2⟩ := open_byte h
    exact ⟨a, ha, h1, h2⟩) h hw
  rw [flat_bytes] at hr
  subst hl
  refine ⟨_, hcs, A, c, xs, rfl, hr, fun x hx => (hk x hx).1, hc, ?_⟩
  have hb1 : Try.prog.bytesOf 5 = 1 := by kernel_rfl
  rw [hb1, Nat.mul_one] at hb
  exact hb
theorem open_entry0 (h : DataW.trod enc Try.prog w base spare held fuel 50 cs = some x) (hw : Wt Try.prog 50 x.1) : ∃ (z0 : Id) (z1 : Int) (z2 : Value) (z3 : Value) (z4 : Int), cs = bytes z0.l ++ ([Value.int .u64 z1] ++ ([z2] ++ ([z3] ++ ([Value.int .i64 z4] ++ [])))) ∧ (0 ≤ z1 ∧ z1 ≤ 18446744073709551615) ∧ (BytesV w z2) ∧ (BytesV w z3) ∧ (-9223372036854775808 ≤ z4 ∧ z4 ≤ 9223372036854775807) := by
  obtain ⟨hl, m, hf⟩ := open_structW Try.underlying50 h hw
  have hl' : cs.length = 20 := hl.trans (by kernel_rfl)
  have n0 : Try.prog.cellsOf 23 = 16 := by kernel_rfl
  have n1 : Try.prog.cellsOf 24 = 1 := by kernel_rfl
  have n2 : Try.prog.cellsOf 40 = 1 := by kernel_rfl
  have n3 : Try.prog.cellsOf 40 = 1 := by kernel_rfl
  have n4 : Try.prog.cellsOf 25 = 1 := by kernel_rfl
  obtain ⟨y0, e0, k0⟩ := hf 0 _ rfl
  have f0 : DataW.trod enc Try.prog w base spare held m 23 ((cs.drop 0).take (Try.prog.cellsOf 23)) = some y0 := e0
  rw [n0] at f0
  obtain ⟨y1, e1, k1⟩ := hf 1 _ rfl
  have f1 : DataW.trod enc Try.prog w base spare held m 24 ((cs.drop 16).take (Try.prog.cellsOf 24)) = some y1 := e1
  rw [n1] at f1
  obtain ⟨y2, e2, k2⟩ := hf 2 _ rfl
  have f2 : DataW.trod enc Try.prog w base spare held m 40 ((cs.drop 17).take (Try.prog.cellsOf 40)) = some y2 := e2
  rw [n2] at f2
  obtain ⟨y3, e3, k3⟩ := hf 3 _ rfl
  have f3 : DataW.trod enc Try.prog w base spare held m 40 ((cs.drop 18).take (Try.prog.cellsOf 40)) = some y3 := e3
  rw [n3] at f3
  obtain ⟨y4, e4, k4⟩ := hf 4 _ rfl
  have f4 : DataW.trod enc Try.prog w base spare held m 25 ((cs.drop 19).take (Try.prog.cellsOf 25)) = some y4 := e4
  rw [n4] at f4
  obtain ⟨z0, g0⟩ := open_id f0
  obtain ⟨z1, g1, _, u1⟩ := DataW.trod_int Try.underlying24 f1
  have b1 : 0 ≤ z1 ∧ z1 ≤ 18446744073709551615 := by simpa [Lit.wf, IntKind.min, IntKind.max, IntKind.signed, IntKind.bits] using u1
  obtain ⟨z2, g2, b2⟩ := open_bytesW f2 k2
  obtain ⟨z3, g3, b3⟩ := open_bytesW f3 k3
  obtain ⟨z4, g4, _, u4⟩ := DataW.trod_int Try.underlying25 f4
  have b4 : -9223372036854775808 ≤ z4 ∧ z4 ≤ 9223372036854775807 := by simpa [Lit.wf, IntKind.min, IntKind.max, IntKind.signed, IntKind.bits] using u4
  have hp : cs = (cs.drop 0).take 16 ++ ((cs.drop 16).take 1 ++ ((cs.drop 17).take 1 ++ ((cs.drop 18).take 1 ++ ((cs.drop 19).take 1 ++ [])))) := by
    rw [← piece_end hl', ← piece 19 1 20 rfl, ← piece 18 1 19 rfl, ← piece 17 1 18 rfl, ← piece 16 1 17 rfl, ← piece 0 16 16 rfl, List.drop_zero]
  rw [g0, g1, g2, g3, g4] at hp
  exact ⟨z0, z1, z2, z3, z4, hp, b1, b2, b3, b4⟩
instance : Inhabited En := ⟨⟨⟨List.replicate 16 0, rfl, fun x hx => by obtain ⟨_, rfl⟩ := List.mem_replicate.1 hx; decide⟩, 0, none, 0, 0, [], none, 0, 0, [], 0, by decide, by decide, Nat.le_refl _, Nat.le_refl _, (fun _ h => by cases h), (fun _ h => by cases h)⟩⟩
theorem open_entry (h : DataW.trod enc Try.prog w base spare held fuel 50 cs = some x) (hw : Wt Try.prog 50 x.1) : ∃ e : En, cs = e.cells ∧ EnR w e ∧ e.n ≤ 140737488351232 ∧ e.m ≤ 140737488351232 := by
  obtain ⟨id, t, p, s, c, hcs, ht, ⟨A, ca, fp, rfl, hra, hba, _, hla⟩, ⟨B, cb, fs, rfl, hrb, hbb, _, hlb⟩, hc⟩ := open_entry0 h hw
  refine ⟨⟨id, t, A, fp.length, ca, fp, B, fs.length, cb, fs, c, ht, hc, Nat.le_refl _, Nat.le_refl _, hba, hbb⟩, by rw [hcs]; simp [En.cells], ⟨?_, ?_⟩, hla, hlb⟩
  · show Reads w 1 A fp.length (bytes (fp.take fp.length))
    rw [List.take_length]
    exact hra
  · show Reads w 1 B fs.length (bytes (fs.take fs.length))
    rw [List.take_length]
    exact hrb
def EntsV (w : World) (v : Value) : Prop := ∃ (A : Option Addr) (c : Nat) (es : List En), v = .slice A es.length c ∧ EnsR w A es ∧ (∀ e ∈ es, e.n ≤ 140737488351232 ∧ e.m ≤ 140737488351232) ∧ es.length * 80 ≤ 140737488351232
theorem open_ents (h : DataW.trod enc Try.prog w base spare held fuel 46 cs = some x) (hw : Wt Try.prog 46 x.1) : ∃ v, cs = [v] ∧ EntsV w v := by
  obtain ⟨A, n, c, xs, hcs, hl, hr, hk, hc, _, hb⟩ := open_rowsW (X := En) 20 En.cells (fun e => EnR w e ∧ e.n ≤ 140737488351232 ∧ e.m ≤ 140737488351232) Try.underlying46 (by kernel_rfl) (fun _ _ _ h hw => open_entry h hw) h hw
  subst hl
  refine ⟨_, hcs, A, c, xs, rfl, ⟨hr, fun e he => (hk e he).1.1⟩, fun e he => (hk e he).1.2, ?_⟩
  have hb1 : Try.prog.bytesOf 50 = 80 := by kernel_rfl
  rw [hb1] at hb
  exact hb
theorem open_sum (h : DataW.trod enc Try.prog w base spare held fuel 22 cs = some x) : ∃ a : Id, cs = bytes a.l := by
  obtain ⟨bs, h1, h2, h3⟩ := open_array (n := 16) Try.underlying22 Try.underlying5 (by kernel_rfl) (by kernel_rfl) h
  exact ⟨⟨bs, h2, h3⟩, h1⟩
theorem open_msg0 (h : DataW.trod enc Try.prog w base spare held fuel 48 cs = some x) (hw : Wt Try.prog 48 x.1) : ∃ (z0 : Int) (z1 : Int) (z2 : Int) (z3 : Int) (z4 : Id) (z5 : Int) (z6 : Value), cs = [Value.int .u8 z0] ++ ([Value.int .u64 z1] ++ ([Value.int .u64 z2] ++ ([Value.int .i64 z3] ++ (bytes z4.l ++ ([Value.int .i64 z5] ++ ([z6] ++ [])))))) ∧ (0 ≤ z0 ∧ z0 ≤ 255) ∧ (0 ≤ z1 ∧ z1 ≤ 18446744073709551615) ∧ (0 ≤ z2 ∧ z2 ≤ 18446744073709551615) ∧ (-9223372036854775808 ≤ z3 ∧ z3 ≤ 9223372036854775807) ∧ (-9223372036854775808 ≤ z5 ∧ z5 ≤ 9223372036854775807) ∧ (EntsV w z6) := by
  obtain ⟨hl, m, hf⟩ := open_structW Try.underlying48 h hw
  have hl' : cs.length = 22 := hl.trans (by kernel_rfl)
  have n0 : Try.prog.cellsOf 5 = 1 := by kernel_rfl
  have n1 : Try.prog.cellsOf 24 = 1 := by kernel_rfl
  have n2 : Try.prog.cellsOf 24 = 1 := by kernel_rfl
  have n3 : Try.prog.cellsOf 3 = 1 := by kernel_rfl
  have n4 : Try.prog.cellsOf 22 = 16 := by kernel_rfl
  have n5 : Try.prog.cellsOf 25 = 1 := by kernel_rfl
  have n6 : Try.prog.cellsOf 46 = 1 := by kernel_rfl
  obtain ⟨y0, e0, k0⟩ := hf 0 _ rfl
  have f0 : DataW.trod enc Try.prog w base spare held m 5 ((cs.drop 0).take (Try.prog.cellsOf 5)) = some y0 := e0
  rw [n0] at f0
  obtain ⟨y1, e1, k1⟩ := hf 1 _ rfl
  have f1 : DataW.trod enc Try.prog w base spare held m 24 ((cs.drop 1).take (Try.prog.cellsOf 24)) = some y1 := e1
  rw [n1] at f1
  obtain ⟨y2, e2, k2⟩ := hf 2 _ rfl
  have f2 : DataW.trod enc Try.prog w base spare held m 24 ((cs.drop 2).take (Try.prog.cellsOf 24)) = some y2 := e2
  rw [n2] at f2
  obtain ⟨y3, e3, k3⟩ := hf 3 _ rfl
  have f3 : DataW.trod enc Try.prog w base spare held m 3 ((cs.drop 3).take (Try.prog.cellsOf 3)) = some y3 := e3
  rw [n3] at f3
  obtain ⟨y4, e4, k4⟩ := hf 4 _ rfl
  have f4 : DataW.trod enc Try.prog w base spare held m 22 ((cs.drop 4).take (Try.prog.cellsOf 22)) = some y4 := e4
  rw [n4] at f4
  obtain ⟨y5, e5, k5⟩ := hf 5 _ rfl
  have f5 : DataW.trod enc Try.prog w base spare held m 25 ((cs.drop 20).take (Try.prog.cellsOf 25)) = some y5 := e5
  rw [n5] at f5
  obtain ⟨y6, e6, k6⟩ := hf 6 _ rfl
  have f6 : DataW.trod enc Try.prog w base spare held m 46 ((cs.drop 21).take (Try.prog.cellsOf 46)) = some y6 := e6
  rw [n6] at f6
  obtain ⟨z0, g0, _, u0⟩ := DataW.trod_int Try.underlying5 f0
  have b0 : 0 ≤ z0 ∧ z0 ≤ 255 := by simpa [Lit.wf, IntKind.min, IntKind.max, IntKind.signed, IntKind.bits] using u0
  obtain ⟨z1, g1, _, u1⟩ := DataW.trod_int Try.underlying24 f1
  have b1 : 0 ≤ z1 ∧ z1 ≤ 18446744073709551615 := by simpa [Lit.wf, IntKind.min, IntKind.max, IntKind.signed, IntKind.bits] using u1
  obtain ⟨z2, g2, _, u2⟩ := DataW.trod_int Try.underlying24 f2
  have b2 : 0 ≤ z2 ∧ z2 ≤ 18446744073709551615 := by simpa [Lit.wf, IntKind.min, IntKind.max, IntKind.signed, IntKind.bits] using u2
  obtain ⟨z3, g3, _, u3⟩ := DataW.trod_int Try.underlying3 f3
  have b3 : -9223372036854775808 ≤ z3 ∧ z3 ≤ 9223372036854775807 := by simpa [Lit.wf, IntKind.min, IntKind.max, IntKind.signed, IntKind.bits] using u3
  obtain ⟨z4, g4⟩ := open_sum f4
  obtain ⟨z5, g5, _, u5⟩ := DataW.trod_int Try.underlying25 f5
  have b5 : -9223372036854775808 ≤ z5 ∧ z5 ≤ 9223372036854775807 := by simpa [Lit.wf, IntKind.min, IntKind.max, IntKind.signed, IntKind.bits] using u5
  obtain ⟨z6, g6, b6⟩ := open_ents f6 k6
  have hp : cs = (cs.drop 0).take 1 ++ ((cs.drop 1).take 1 ++ ((cs.drop 2).take 1 ++ ((cs.drop 3).take 1 ++ ((cs.drop 4).take 16 ++ ((cs.drop 20).take 1 ++ ((cs.drop 21).take 1 ++ [])))))) := by
    rw [← piece_end hl', ← piece 21 1 22 rfl, ← piece 20 1 21 rfl, ← piece 4 16 20 rfl, ← piece 3 1 4 rfl, ← piece 2 1 3 rfl, ← piece 1 1 2 rfl, ← piece 0 1 1 rfl, List.drop_zero]
  rw [g0, g1, g2, g3, g4, g5, g6] at hp
  exact ⟨z0, z1, z2, z3, z4, z5, z6, hp, b0, b1, b2, b3, b5, b6⟩
structure MsgV (w : World) (v : Value) (m : Me) : Prop where
  v : v = m.v
  rd : EnsR w m.A m.es
  b1 : ∀ e ∈ m.es, e.n ≤ 140737488351232 ∧ e.m ≤ 140737488351232
  b2 : m.es.length * 80 ≤ 140737488351232
theorem open_msg {v : Value} (h : DataW.trod enc Try.prog w base spare held fuel 48 v.cells.toList = some x) (hw : Wt Try.prog 48 x.1) (hv : ∃ cs, v = .agg cs) : ∃ m, MsgV w v m := by
  obtain ⟨cs, rfl⟩ := hv
  obtain ⟨k, j, s, mn, sum, c, e, hcs, hk, hj, hs, hm, hc, A, ca, es, rfl, hr, hb1, hb2⟩ := open_msg0 h hw
  refine ⟨⟨k, j, s, mn, sum, c, A, ca, es, hk, hj, hs, hm, hc⟩, ?_, hr, hb1, hb2⟩
  have h1 : cs.toList = mcs k j s mn sum.l c A es.length ca := by
    have h2 : cs.toList = _ := hcs
    rw [h2]
    simp [mcs]
  show Value.agg cs = Value.agg (mcs k j s mn sum.l c A es.length ca).toArray
  rw [← h1]
end
end Go.Proofs.Ytinomilmccopnaa
