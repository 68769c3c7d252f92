/- less and Just, as the statements have them. -/
import Derived.Test.YtidphdlhghgglaaFl
namespace Go.Proofs.Ytidphdlhghgglaa
open Go.RowKit
def lessF (a b : Nat) : Bool := fLt a b || (fEq a b && (fneg a && !fneg b))
def justF (a b : Nat) : Bool := (fnan a && fnan b) || (fEq a b && (fneg a == fneg b))
theorem none_c (x : Nat) (W : World) : Calls Try.prog 28 #[.float .f64 x] W fun e w' => e = .returned (.bool (fnan x)) ∧ w' = W := by
  go_enter Try.func28, Try.ntmps28
  go_wp2
  go_ret
  exact ⟨rfl, rfl⟩
theorem less_c (x y : Nat) (hx : x < 18446744073709551616) (hy : y < 18446744073709551616) (W : World) : Calls Try.prog 11 #[.float .f64 x, .float .f64 y] W fun e w' => e = .returned (.bool (lessF x y)) ∧ w' = W := by
  go_enter Try.func11, Try.ntmps11
  go_wp2_with (go_at_call 24; refine (signbit_c _ (by assumption) _).mono ?_; rintro e w' ⟨rfl, rfl⟩)
  all_goals go_ret
  all_goals refine ⟨?_, rfl⟩
  all_goals simp_all [lessF, fLt, fEq]
theorem just_c (x y : Nat) (hx : x < 18446744073709551616) (hy : y < 18446744073709551616) (W : World) : Calls Try.prog 12 #[.float .f64 x, .float .f64 y] W fun e w' => e = .returned (.bool (justF x y)) ∧ w' = W := by
  go_enter Try.func12, Try.ntmps12
  go_wp2_with (first | (go_at_call 24; refine (signbit_c _ (by assumption) _).mono ?_; rintro e w' ⟨rfl, rfl⟩) | (go_at_call 28; refine (none_c _ _).mono ?_; rintro e w' ⟨rfl, rfl⟩))
  all_goals go_ret
  all_goals refine ⟨?_, rfl⟩
  all_goals simp_all [justF, fEq]
theorem less_of {x y : Nat} (hx : fnan x = false) (hy : fnan y = false) : lessF x y = decide (key x < key y) := by
  unfold lessF key
  rw [fEq_of hx hy, fLt_of hx hy]
  rw [Bool.eq_iff_iff]
  cases fneg x <;> cases fneg y <;> simp <;> omega
theorem just_key {x y : Nat} (hx : fnan x = false) (hy : fnan y = false) (h : key x = key y) : justF x y = true := by
  unfold justF
  unfold key at h
  rw [fEq_of hx hy]
  have : fv x = fv y ∧ fneg x = fneg y := by
    cases hp : fneg x <;> cases hq : fneg y <;> rw [hp, hq] at h <;> simp at h ⊢ <;> omega
  rw [this.1, this.2]
  simp
end Go.Proofs.Ytidphdlhghgglaa
