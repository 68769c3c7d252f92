/- Floats that came in; StatsSummaries at what came in. -/
import Derived.Test.YtidphdlhghgglaaSu
import Derived.Test.YtidphdlhghgglaaOp
import Derived.ChangeArms
namespace Go.Proofs.Ytidphdlhghgglaa
open Go.RowKit Go.ChangeShapes Go.WideShapes Go.Deep
section
variable {H : Type} {enc : TypeId × Value → H} {w : World} {base : Nat} {spare : Nat → Bool} {held : Bool} {fuel : Nat} {cs : List Value} {x : DataW H × List MemPlace}
theorem open_f64 (h : DataW.trod enc Try.prog w base spare held fuel 24 cs = some x) : ∃ b, cs = [Value.float .f64 b] ∧ b < 18446744073709551616 := by
  have ht := Try.underlying24
  cases fuel with
  | zero => simp [DataW.trod] at h
  | succ n =>
    unfold DataW.trod at h
    rw [ht] at h
    split at h <;> simp_all
    rename_i k b hk
    obtain ⟨h1, _⟩ := h
    have hw : (Lit.float .f64 b).wf = true := by simp_all
    simpa [Lit.wf] using hw
def FlsV (w : World) (v : Value) : Prop := ∃ (A : Option Addr) (c : Nat) (l : List Nat), v = .slice A l.length c ∧ Reads w 1 A l.length (l.map fl) ∧ (∀ x ∈ l, x < 18446744073709551616) ∧ l.length ≤ c ∧ c ≤ maxLen
theorem flat_fl (l : List Nat) : (l.flatMap fun n => [fl n]) = l.map fl := by
  induction l with
  | nil => rfl
  | cons a r ih =>
    rw [List.flatMap_cons, ih]
    rfl
theorem open_fls {v : Value} (h : DataW.trod enc Try.prog w base spare held fuel 22 v.cells.toList = some x) (hv : ∃ A n c, v = .slice A n c) : FlsV w v := by
  obtain ⟨A0, n0, c0, rfl⟩ := hv
  obtain ⟨A, n, c, xs, hcs, hl, hr, hk, hc, hm⟩ := open_rows (X := Nat) 1 (fun n => [fl n]) (fun n => n < 18446744073709551616) Try.underlying22 (by kernel_rfl) (fun _ _ _ h => open_f64 h) h
  rw [flat_fl] at hr
  subst hl
  exact ⟨A, c, xs, by simpa [Value.cells] using hcs, hr, fun x hx => (hk x hx).1, hc, hm⟩
end
theorem Summ_v {v : Value} {w : World} (h : FlsV w v) : Calls Try.prog 3 #[v] w fun e w' => e = .returned (.bool true) ∧ Fr Nil w w' := by
  obtain ⟨A, c, l, rfl, hr, hb, hc, hm⟩ := h
  unfold maxLen at hm
  exact Fn.top (lawSumm_ok (Vw.of_old .here hr) hb (by omega))
end Go.Proofs.Ytidphdlhghgglaa
