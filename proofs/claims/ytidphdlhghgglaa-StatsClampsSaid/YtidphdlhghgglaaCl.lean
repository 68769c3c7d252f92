/- Differences of floats. Plain. -/
import Derived.Test.YtidphdlhghgglaaFj
import Derived.Laws.FloatArith
namespace Go.Proofs.Ytidphdlhghgglaa
open Go.RowKit
def absF (x : Nat) : Nat := x % 9223372036854775808
def fLe (a b : Nat) : Bool := fLt a b || fEq a b
def subF (x y : Nat) : Option Nat := FloatKind.f64.format.sub x y
theorem sw_eq : Ieee.double.signWeight = 9223372036854775808 := by decide
theorem ir_eq : Ieee.double.infRung = 9218868437227405312 := by decide
theorem bi_eq : Ieee.double.binade = 4503599627370496 := by decide
theorem abs_word (n n' : Bool) {r : Nat} (h : r ≤ Ieee.double.infRung) : absF (Ieee.double.word n r) = absF (Ieee.double.word n' r) := by
  rw [ir_eq] at h
  unfold Ieee.Format.word absF
  rw [sw_eq]
  cases n <;> cases n' <;> simp only [Bool.false_eq_true, if_false, if_true] <;> omega
theorem cut_even (n n' : Bool) (a b : Nat) : Ieee.Toward.even.cut n a b = Ieee.Toward.even.cut n' a b := rfl
theorem abs_nearest (n n' : Bool) (mag : Nat) (place : Int) : absF (Ieee.double.nearest n mag place) = absF (Ieee.double.nearest n' mag place) := by
  unfold Ieee.Format.nearest
  by_cases h : mag = 0
  · rw [if_pos h, if_pos h]
    exact abs_word n n' (Nat.zero_le _)
  · rw [if_neg h, if_neg h]
    dsimp only
    rw [cut_even n n']
    exact abs_word n n' (Nat.min_le_right _ _)
theorem signed_not (s : Bool) (m k : Nat) : Ieee.signed (!s) m k = -Ieee.signed s m k := by
  unfold Ieee.signed
  cases s <;> simp
theorem sub_abs (x y : Nat) : (subF x y).map absF = (subF y x).map absF := by
  show (((Ieee.double.read x).sum (Ieee.double.read y).opposite).map Ieee.double.write).map absF = (((Ieee.double.read y).sum (Ieee.double.read x).opposite).map Ieee.double.write).map absF
  generalize Ieee.double.read x = a
  generalize Ieee.double.read y = b
  have hi : ∀ n n', absF (Ieee.double.word n Ieee.double.infRung) = absF (Ieee.double.word n' Ieee.double.infRung) := fun n n' => abs_word n n' (Nat.le_refl _)
  cases a with
  | nan s f => cases b <;> rfl
  | infinity s =>
    cases b with
    | nan t g => rfl
    | infinity t =>
      simp only [Ieee.Datum.opposite, Ieee.Datum.sum]
      cases s <;> cases t <;> simp [Ieee.Format.write, hi true false]
    | number t n j => exact congrArg some (hi s (!s))
  | number s m i =>
    cases b with
    | nan t g => rfl
    | infinity t => exact congrArg some (hi (!t) t)
    | number t n j =>
      simp only [Ieee.Datum.opposite, Ieee.Datum.sum, Option.map_some, Ieee.Format.write]
      rw [Int.min_comm j i, signed_not, signed_not]
      have : (Ieee.signed t n (j - min i j).toNat + -Ieee.signed s m (i - min i j).toNat).natAbs = (Ieee.signed s m (i - min i j).toNat + -Ieee.signed t n (j - min i j).toNat).natAbs := by omega
      rw [this]
      exact congrArg some (abs_nearest _ _ _ _)
theorem sub_nan {x y : Nat} (h : fnan x = true ∨ fnan y = true) : subF x y = none := by
  rw [fnan_eq, fnan_eq] at h
  show (((Ieee.double.read x).sum (Ieee.double.read y).opposite).map Ieee.double.write) = none
  revert h
  generalize Ieee.double.read x = a
  generalize Ieee.double.read y = b
  intro h
  cases a <;> cases b <;> first | rfl | simp [Ieee.Datum.isNaN] at h
theorem sub_lt {x y r : Nat} (h : subF x y = some r) : r < 18446744073709551616 := by
  have := Ieee.Format.sub_lt (f := Ieee.double) h
  exact Nat.lt_of_lt_of_le this (by decide)
/-- Its size. -/
def absD : Ieee.Datum → Ieee.Datum
  | .number _ m i => .number false m i
  | .infinity _ => .infinity false
  | .nan _ f => .nan false f
theorem read_abs (x : Nat) : Ieee.double.read (absF x) = absD (Ieee.double.read x) := by
  unfold Ieee.Format.read absF
  simp only [sw_eq]
  rw [Nat.mod_mod, show x % 9223372036854775808 / 9223372036854775808 = 0 by omega]
  split
  · rfl
  · split
    · rfl
    · split <;> rfl
theorem nan_abs (x : Nat) : fnan (absF x) = fnan x := by
  rw [fnan_eq, fnan_eq, read_abs]
  cases Ieee.double.read x <;> rfl
theorem fneg_read {x : Nat} (hx : x < 18446744073709551616) : (Ieee.double.read x).neg = fneg x := by
  have h : (x / 9223372036854775808 % 2 == 1) = fneg x := by
    unfold fneg
    rw [Bool.eq_iff_iff]
    simp
    omega
  unfold Ieee.Format.read
  simp only [sw_eq]
  rw [h]
  split
  · rfl
  · split
    · rfl
    · split <;> rfl
theorem fv_abs {x : Nat} (hx : x < 18446744073709551616) (hn : fnan x = false) : fv (absF x) = if fneg x then -fv x else fv x := by
  unfold fv
  rw [read_abs, ← fneg_read hx]
  rw [fnan_eq] at hn
  cases h : Ieee.double.read x with
  | nan s f => rw [h] at hn; cases hn
  | infinity s => cases s <;> simp [absD, fvD, Ieee.Datum.neg]
  | number s m i => cases s <;> simp [absD, fvD, Ieee.Datum.neg, Ieee.signed]
theorem fv_sign {x : Nat} (hx : x < 18446744073709551616) (hn : fnan x = false) : if fneg x then fv x ≤ 0 else 0 ≤ fv x := by
  unfold fv
  rw [← fneg_read hx]
  rw [fnan_eq] at hn
  cases h : Ieee.double.read x with
  | nan s f => rw [h] at hn; cases hn
  | infinity s => cases s <;> simp [fvD, Ieee.Datum.neg]
  | number s m i =>
    have hm : ∀ k, (0 : Int) ≤ ((m <<< k : Nat) : Int) := fun k => Int.natCast_nonneg _
    cases s
    · show (0 : Int) ≤ ((m <<< (i + 1074).toNat : Nat) : Int)
      exact hm _
    · show -((m <<< (i + 1074).toNat : Nat) : Int) ≤ 0
      have := hm (i + 1074).toNat
      omega
theorem xor_top {r : Nat} (h : r < 9223372036854775808) : (9223372036854775808 + r) ^^^ 9223372036854775808 = r := by
  rw [show (9223372036854775808 : Nat) = 2 ^ 63 by decide] at h ⊢
  apply Nat.eq_of_testBit_eq
  intro i
  rw [Nat.testBit_xor, Nat.testBit_two_pow]
  rcases Nat.lt_trichotomy i 63 with hi | hi | hi
  · rw [Nat.testBit_two_pow_add_gt hi, decide_eq_false (by omega)]
    simp
  · subst hi
    rw [Nat.testBit_two_pow_add_eq, Nat.testBit_lt_two_pow h]
    rfl
  · rw [Nat.testBit_lt_two_pow (Nat.lt_of_lt_of_le (by omega : 2 ^ 63 + r < 2 ^ 64) (Nat.pow_le_pow_right (by decide) hi)), Nat.testBit_lt_two_pow (Nat.lt_of_lt_of_le h (Nat.pow_le_pow_right (by decide) (by omega))), decide_eq_false (by omega)]
    rfl
theorem neg_top {x : Nat} (hx : x < 18446744073709551616) (hn : fneg x = true) : x ^^^ 9223372036854775808 = absF x := by
  unfold fneg at hn
  have h := of_decide_eq_true hn
  have h2 := xor_top (r := x - 9223372036854775808) (by omega)
  rw [show 9223372036854775808 + (x - 9223372036854775808) = x by omega] at h2
  rw [h2]
  unfold absF
  omega
theorem lt0_neg {x : Nat} (hx : x < 18446744073709551616) (h : fLt x 0 = true) : fneg x = true := by
  have hn : fnan x = false := by
    cases h2 : fnan x with
    | true => rw [fLt_nan (.inl h2)] at h; cases h
    | false => rfl
  have h0 : fnan 0 = false := by rw [fnan_eq]; rfl
  have hz : fv 0 = 0 := by
    show Ieee.signed false 0 _ = 0
    simp [Ieee.signed]
  rw [fLt_of hn h0, hz, decide_eq_true_eq] at h
  have h3 := fv_sign hx hn
  cases h4 : fneg x with
  | true => rfl
  | false => rw [h4] at h3; simp at h3; omega
/-- The statement's way to a size is as good as the sign's. -/
theorem le_abs {x k : Nat} (hx : x < 18446744073709551616) (h : fLt x 0 = false) : fLe x k = fLe (absF x) k := by
  cases hn : fnan x with
  | true =>
    unfold fLe
    rw [fLt_nan (.inl hn), fEq_nan (.inl hn), fLt_nan (.inl (by rw [nan_abs]; exact hn)), fEq_nan (.inl (by rw [nan_abs]; exact hn))]
  | false =>
    have h0 : fnan 0 = false := by rw [fnan_eq]; rfl
    have hz : fv 0 = 0 := by
      show Ieee.signed false 0 _ = 0
      simp [Ieee.signed]
    rw [fLt_of hn h0, hz, decide_eq_false_iff_not] at h
    have hv : fv (absF x) = fv x := by
      rw [fv_abs hx hn]
      have h3 := fv_sign hx hn
      cases h4 : fneg x <;> rw [h4] at h3 <;> simp at h3 ⊢ <;> omega
    unfold fLe
    cases hk : fnan k with
    | true => rw [fLt_nan (.inr hk), fEq_nan (.inr hk), fLt_nan (.inr hk), fEq_nan (.inr hk)]
    | false => rw [fLt_of hn hk, fEq_of hn hk, fLt_of (by rw [nan_abs]; exact hn) hk, fEq_of (by rw [nan_abs]; exact hn) hk, hv]
theorem le_nan {x k : Nat} (h : fnan x = true) : fLe x k = false := by
  unfold fLe
  rw [fLt_nan (.inl h), fEq_nan (.inl h)]
  rfl
/-- Near. -/
def nearF (a b k : Nat) : Bool := sameF a b || (match subF a b with
  | some r => fLe (absF r) k
  | none => false)
theorem fEq_comm (a b : Nat) : fEq a b = fEq b a := by
  by_cases h : fnan a = true ∨ fnan b = true
  · rw [fEq_nan h, fEq_nan h.symm]
  · have ha : fnan a = false := by cases hh : fnan a <;> simp_all
    have hb : fnan b = false := by cases hh : fnan b <;> simp_all
    rw [fEq_of ha hb, fEq_of hb ha, Bool.eq_iff_iff]
    simp
    omega
theorem near_comm (a b k : Nat) : nearF a b k = nearF b a k := by
  unfold nearF sameF
  rw [fEq_comm b a, Bool.and_comm (fnan b)]
  have h := sub_abs a b
  cases h1 : subF a b <;> cases h2 : subF b a <;> rw [h1, h2] at h <;> simp_all
end Go.Proofs.Ytidphdlhghgglaa
