/- Rows of floats that came in; StatsNone at what came in. -/
import Derived.Test.YtidphdlhghgglaaSo
import Derived.Test.YtidphdlhghgglaaOp
import Derived.ChangeArms
namespace Go.Proofs.Ytidphdlhghgglaa
open Go.RowKit Go.ChangeShapes Go.WideShapes Go.Deep
section
variable {H : Type} {enc : TypeId × Value → H} {w : World} {base : Nat} {spare : Nat → Bool} {held : Bool} {fuel : Nat} {cs : List Value} {x : DataW H × List MemPlace}
theorem open_f64w (h : DataW.trod enc Try.prog w base spare held fuel 24 cs = some x) : ∃ b, cs = [Value.float .f64 b] ∧ b < 18446744073709551616 := by
  have ht := Try.underlying24
  cases fuel with
  | zero => simp [DataW.trod] at h
  | succ n =>
    unfold DataW.trod at h
    rw [ht] at h
    split at h <;> simp_all
    rename_i k b hk
    obtain ⟨h1, _⟩ := h
    have hw : (Lit.float .f64 b).wf = true := by simp_all
    simpa [Lit.wf] using hw
def FlsW (w : World) (v : Value) : Prop := ∃ (A : Option Addr) (c : Nat) (l : List Nat), v = .slice A l.length c ∧ Reads w 1 A l.length (l.map fl) ∧ (∀ x ∈ l, x < 18446744073709551616) ∧ l.length ≤ c ∧ c ≤ maxLen
theorem flat_flw (l : List Nat) : (l.flatMap fun n => [fl n]) = l.map fl := by
  induction l with
  | nil => rfl
  | cons a r ih =>
    rw [List.flatMap_cons, ih]
    rfl
theorem open_flw (h : DataW.trod enc Try.prog w base spare held fuel 22 cs = some x) : ∃ v, cs = [v] ∧ FlsW w v := by
  obtain ⟨A, n, c, xs, hcs, hl, hr, hk, hc, hm⟩ := open_rows (X := Nat) 1 (fun n => [fl n]) (fun n => n < 18446744073709551616) Try.underlying22 (by kernel_rfl) (fun _ _ _ h => open_f64w h) h
  rw [flat_flw] at hr
  subst hl
  exact ⟨_, hcs, A, c, xs, rfl, hr, fun x hx => (hk x hx).1, hc, hm⟩
theorem open_row0 (h : DataW.trod enc Try.prog w base spare held fuel 52 cs = some x) : ∃ (z0 : Int) (z1 : Int) (z2 : Value), cs = [Value.int .u64 z0] ++ ([Value.int .i64 z1] ++ ([z2] ++ [])) ∧ (0 ≤ z0 ∧ z0 ≤ 18446744073709551615) ∧ (-9223372036854775808 ≤ z1 ∧ z1 ≤ 9223372036854775807) ∧ (FlsW w z2) := by
  obtain ⟨hl, m, hf⟩ := open_struct Try.underlying52 h
  have hl' : cs.length = 3 := hl.trans (by kernel_rfl)
  have n0 : Try.prog.cellsOf 50 = 1 := by kernel_rfl
  have n1 : Try.prog.cellsOf 3 = 1 := by kernel_rfl
  have n2 : Try.prog.cellsOf 22 = 1 := by kernel_rfl
  obtain ⟨y0, e0⟩ := hf 0 _ rfl
  have f0 : DataW.trod enc Try.prog w base spare held m 50 ((cs.drop 0).take (Try.prog.cellsOf 50)) = some y0 := e0
  rw [n0] at f0
  obtain ⟨y1, e1⟩ := hf 1 _ rfl
  have f1 : DataW.trod enc Try.prog w base spare held m 3 ((cs.drop 1).take (Try.prog.cellsOf 3)) = some y1 := e1
  rw [n1] at f1
  obtain ⟨y2, e2⟩ := hf 2 _ rfl
  have f2 : DataW.trod enc Try.prog w base spare held m 22 ((cs.drop 2).take (Try.prog.cellsOf 22)) = some y2 := e2
  rw [n2] at f2
  obtain ⟨z0, g0, _, u0⟩ := DataW.trod_int Try.underlying50 f0
  have b0 : 0 ≤ z0 ∧ z0 ≤ 18446744073709551615 := by simpa [Lit.wf, IntKind.min, IntKind.max, IntKind.signed, IntKind.bits] using u0
  obtain ⟨z1, g1, _, u1⟩ := DataW.trod_int Try.underlying3 f1
  have b1 : -9223372036854775808 ≤ z1 ∧ z1 ≤ 9223372036854775807 := by simpa [Lit.wf, IntKind.min, IntKind.max, IntKind.signed, IntKind.bits] using u1
  obtain ⟨z2, g2, b2⟩ := open_flw f2
  have hp : cs = (cs.drop 0).take 1 ++ ((cs.drop 1).take 1 ++ ((cs.drop 2).take 1 ++ [])) := by
    rw [← piece_end hl', ← piece 2 1 3 rfl, ← piece 1 1 2 rfl, ← piece 0 1 1 rfl, List.drop_zero]
  rw [g0, g1, g2] at hp
  exact ⟨z0, z1, z2, hp, b0, b1, b2⟩
def RowW (w : World) (v : Value) : Prop := ∃ (s m : Int) (z : Value), v = .agg #[.int .u64 s, .int .i64 m, z] ∧ FlsW w z
theorem open_row_v {v : Value} (h : DataW.trod enc Try.prog w base spare held fuel 52 v.cells.toList = some x) (hv : ∃ cs, v = .agg cs) : RowW w v := by
  obtain ⟨cs, rfl⟩ := hv
  obtain ⟨s, m, z, h1, _, _, h2⟩ := open_row0 h
  refine ⟨s, m, z, ?_, h2⟩
  have h3 : cs.toList = [Value.int .u64 s, .int .i64 m, z] := by simpa [Value.cells] using h1
  rw [← h3]
end
theorem NoneT_v {v : Value} {w : World} (h : RowW w v) {k : Int} : Calls Try.prog 8 #[v, .int .i64 k] w fun e w' => e = .returned (.bool true) ∧ Fr Nil w w' := by
  obtain ⟨s, m, z, rfl, A, c, l, rfl, _, _, hc, hm⟩ := h
  unfold maxLen at hm
  exact Fn.top (lawNoneT_ok (by omega))
end Go.Proofs.Ytidphdlhghgglaa
