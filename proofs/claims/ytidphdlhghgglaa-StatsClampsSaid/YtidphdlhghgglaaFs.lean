/- Small functions on floats: IsNaN, Signbit, Same, Compare, order: what they answer; no memory turns. -/
import Derived.Test.YtidphdlhghgglaaMem
import Derived.WalkKit
import Derived.WalkLawsBesides
import Derived.Laws.Cover2
namespace Go.Proofs.Ytidphdlhghgglaa
open Go.RowKit
def fEq (x y : Nat) : Bool := FloatKind.f64.format.order x y == some .eq
def fLt (x y : Nat) : Bool := FloatKind.f64.format.order x y == some .lt
def fnan (x : Nat) : Bool := !fEq x x
def fneg (x : Nat) : Bool := decide (9223372036854775808 ≤ x)
def sameF (x y : Nat) : Bool := fEq x y || (fnan x && fnan y)
def compF (x y : Nat) : Int := if sameF x y then 0 else if fnan x || fLt x y then -1 else 1
def ordF (x y : Nat) : Int := if compF x y ≠ 0 then compF x y else if fneg x = fneg y then 0 else if fneg x then -1 else 1
theorem isNaN_c (x : Nat) (W : World) : Calls Try.prog 25 #[.float .f64 x] W fun e w' => e = .returned (.bool (fnan x)) ∧ w' = W := by
  go_enter Try.func25, Try.ntmps25
  go_wp2
  go_ret
  exact ⟨rfl, rfl⟩
theorem bits_row (args : Array Value) (w : World) : (callFunc 39 args).run Try.prog w = (Extern.MathFloatBits.float64bits args >>= fun v => pure (Next.value v)).run Try.prog w := by kernel_rfl
theorem run_bits (x : Nat) (w : World) : (callFunc 39 #[.float .f64 x]).run Try.prog w = .ok (.value (.int .u64 x)) w := by
  rw [bits_row]
  rfl
theorem frombits_row (args : Array Value) (w : World) : (callFunc 29 args).run Try.prog w = (Extern.MathFloatBits.float64frombits args >>= fun v => pure (Next.value v)).run Try.prog w := by kernel_rfl
theorem run_frombits (x : Int) (w : World) : (callFunc 29 #[.int .u64 x]).run Try.prog w = .ok (.value (.float .f64 x.toNat)) w := by
  rw [frombits_row]
  rfl
theorem signbit_c (x : Nat) (hx : x < 18446744073709551616) (W : World) : Calls Try.prog 24 #[.float .f64 x] W fun e w' => e = .returned (.bool (fneg x)) ∧ w' = W := by
  have h39 := fun w => run_bits x w
  go_enter Try.func24, Try.ntmps24
  go_wp2
  go_ret
  refine ⟨?_, rfl⟩
  show Ending.returned (.bool (decide (wrap64 (x : Int) < 0))) = _
  congr 2
  unfold fneg
  rw [decide_eq_decide]
  unfold wrap64
  omega
theorem same_c (x y : Nat) (W : World) : Calls Try.prog 30 #[.float .f64 x, .float .f64 y] W fun e w' => e = .returned (.bool (sameF x y)) ∧ w' = W := by
  go_enter Try.func30, Try.ntmps30
  go_wp2_with (go_at_call 25; refine (isNaN_c _ _).mono ?_; rintro e w' ⟨rfl, rfl⟩)
  all_goals go_ret
  all_goals refine ⟨?_, rfl⟩
  all_goals simp_all [sameF, fEq]
theorem comp_c (x y : Nat) (W : World) : Calls Try.prog 42 #[.float .f64 x, .float .f64 y] W fun e w' => e = .returned (.int .i64 (compF x y)) ∧ w' = W := by
  go_enter Try.func42, Try.ntmps42
  go_wp2_with (first | (go_at_call 25; refine (isNaN_c _ _).mono ?_; rintro e w' ⟨rfl, rfl⟩) | (go_at_call 30; refine (same_c _ _ _).mono ?_; rintro e w' ⟨rfl, rfl⟩))
  all_goals go_ret
  all_goals refine ⟨?_, rfl⟩
  all_goals simp_all [compF, fLt]
theorem ord_c (x y : Nat) (hx : x < 18446744073709551616) (hy : y < 18446744073709551616) (W : World) : Calls Try.prog 27 #[.float .f64 x, .float .f64 y] W fun e w' => e = .returned (.int .i64 (ordF x y)) ∧ w' = W := by
  go_enter Try.func27, Try.ntmps27
  go_wp2_with (first | (go_at_call 24; refine (signbit_c _ (by assumption) _).mono ?_; rintro e w' ⟨rfl, rfl⟩) | (go_at_call 42; refine (comp_c _ _ _).mono ?_; rintro e w' ⟨rfl, rfl⟩))
  all_goals go_ret
  all_goals refine ⟨?_, rfl⟩
  all_goals simp_all [ordF]
end Go.Proofs.Ytidphdlhghgglaa
