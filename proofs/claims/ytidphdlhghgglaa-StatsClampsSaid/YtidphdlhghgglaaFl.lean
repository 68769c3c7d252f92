/- Floats in the order of their values. No program is in sight. -/
import Derived.Test.YtidphdlhghgglaaFs
namespace Go.Proofs.Ytidphdlhghgglaa
open Go.RowKit
def bigE : Nat := 2200
theorem bigE_eq : bigE = 2200 := rfl
def big : Nat := 2 ^ bigE
theorem big_eq : big = 2 ^ bigE := rfl
attribute [irreducible] bigE big
theorem icmp (a b : Int) : compare a b = if a < b then Ordering.lt else if a = b then Ordering.eq else Ordering.gt := rfl
def fvD : Ieee.Datum → Int
  | .number s m i => Ieee.signed s m (i + 1074).toNat
  | .infinity s => if s then -(big : Int) else big
  | .nan _ _ => 0
def fv (x : Nat) : Int := fvD (Ieee.double.read x)
theorem signed_add (s : Bool) (m a k : Nat) : Ieee.signed s m (a + k) = Ieee.signed s m a * 2 ^ k := by
  have h : m <<< (a + k) = m <<< a * 2 ^ k := by rw [Nat.shiftLeft_eq, Nat.shiftLeft_eq, Nat.pow_add, Nat.mul_assoc]
  unfold Ieee.signed
  rw [h]
  split
  · rw [Int.natCast_mul, Int.neg_mul, Int.natCast_pow]
    rfl
  · rw [Int.natCast_mul, Int.natCast_pow]
    rfl
/-- What a word may stand for. -/
def OkD : Ieee.Datum → Prop
  | .number _ m i => -1074 ≤ i ∧ m <<< (i + 1074).toNat < big
  | _ => True
theorem read_ok (x : Nat) : OkD (Ieee.double.read x) := by
  have hb : Ieee.double.binade = 4503599627370496 := by decide
  have hi : Ieee.double.infRung = 2047 * 4503599627370496 := by decide
  have hp : Ieee.double.leastPlace = -1074 := by decide
  unfold Ieee.Format.read
  simp only [hb, hi, hp]
  generalize x % Ieee.double.signWeight = rung
  generalize (x / Ieee.double.signWeight % 2 == 1) = neg
  split
  · rename_i h
    refine ⟨Int.le_refl _, ?_⟩
    rw [show ((-1074 : Int) + 1074).toNat = 0 by decide, Nat.shiftLeft_zero, big_eq]
    exact Nat.lt_of_lt_of_le (Nat.lt_trans h (by decide : 4503599627370496 < 2 ^ 53)) (Nat.pow_le_pow_right (by decide) (by rw [bigE_eq]; decide))
  · split
    · rename_i h1 h2
      have h3 : rung / 4503599627370496 < 2047 := by omega
      refine ⟨by omega, ?_⟩
      rw [show ((-1074 : Int) + ((rung / 4503599627370496 - 1 : Nat) : Int) + 1074).toNat = rung / 4503599627370496 - 1 by omega, Nat.shiftLeft_eq, big_eq]
      have h4 : 4503599627370496 + rung % 4503599627370496 < 2 ^ 53 := by
        have := Nat.mod_lt rung (by decide : 0 < 4503599627370496)
        omega
      have h5 : 2 ^ (rung / 4503599627370496 - 1) ≤ 2 ^ (bigE - 154) := Nat.pow_le_pow_right (by decide) (by rw [bigE_eq]; omega)
      refine Nat.lt_of_lt_of_le (Nat.mul_lt_mul_of_lt_of_le h4 h5 (Nat.two_pow_pos _)) ?_
      rw [← Nat.pow_add]
      exact Nat.pow_le_pow_right (by decide) (by rw [bigE_eq]; decide)
    · split <;> exact True.intro
theorem fvD_lt {s : Bool} {m : Nat} {i : Int} (h : OkD (.number s m i)) : -(big : Int) < fvD (.number s m i) ∧ fvD (.number s m i) < big := by
  obtain ⟨_, h2⟩ := h
  show -(big : Int) < Ieee.signed s m (i + 1074).toNat ∧ Ieee.signed s m (i + 1074).toNat < big
  unfold Ieee.signed
  generalize m <<< (i + 1074).toNat = q at h2 ⊢
  generalize big = B at h2 ⊢
  cases s <;> simp only [Bool.false_eq_true, if_false, if_true] <;> omega
theorem order_D {a b : Ieee.Datum} (ha : OkD a) (hb : OkD b) (na : a.isNaN = false) (nb : b.isNaN = false) : a.order b = some (compare (fvD a) (fvD b)) := by
  cases a with
  | nan s t => cases na
  | infinity s =>
    cases b with
    | nan s t => cases nb
    | infinity t =>
      have hbig : 0 < big := by rw [big_eq]; exact Nat.two_pow_pos _
      have e : ∀ u : Bool, fvD (.infinity u) = if u then -(big : Int) else big := fun _ => rfl
      rw [e, e, icmp]
      generalize big = B at hbig ⊢
      cases s <;> cases t <;> simp only [Bool.false_eq_true, if_false, if_true]
      · rw [if_neg (Int.lt_irrefl _)]
        rfl
      · rw [if_neg (by omega), if_neg (by omega)]
        rfl
      · rw [if_pos (by omega)]
        rfl
      · rw [if_neg (Int.lt_irrefl _)]
        rfl
    | number t n j =>
      have h1 := fvD_lt hb
      generalize hv : fvD (.number t n j) = v at h1 ⊢
      unfold Ieee.Datum.order
      rw [icmp]
      unfold fvD
      cases s
      · rw [if_neg (by simp only [Bool.false_eq_true, if_false]; omega), if_neg (by simp only [Bool.false_eq_true, if_false]; omega)]
        rfl
      · rw [if_pos (by simp only [if_true]; omega)]
        rfl
  | number s m i =>
    cases b with
    | nan s t => cases nb
    | infinity t =>
      have h1 := fvD_lt ha
      generalize hv : fvD (.number s m i) = v at h1 ⊢
      unfold Ieee.Datum.order
      rw [icmp]
      unfold fvD
      cases t
      · rw [if_pos (by simp only [Bool.false_eq_true, if_false]; omega)]
        rfl
      · rw [if_neg (by simp only [if_true]; omega), if_neg (by simp only [if_true]; omega)]
        rfl
    | number t n j =>
      obtain ⟨h1, _⟩ := ha
      obtain ⟨h2, _⟩ := hb
      unfold Ieee.Datum.order fvD
      dsimp only
      obtain ⟨k, hk⟩ : ∃ k : Nat, min i j = (k : Int) - 1074 := ⟨(min i j + 1074).toNat, by omega⟩
      rw [hk, show (i + 1074).toNat = (i - ((k : Int) - 1074)).toNat + k by omega, show (j + 1074).toNat = (j - ((k : Int) - 1074)).toNat + k by omega, signed_add, signed_add]
      generalize Ieee.signed s m (i - ((k : Int) - 1074)).toNat = A
      generalize Ieee.signed t n (j - ((k : Int) - 1074)).toNat = B
      have hpos : (0 : Int) < 2 ^ k := Int.pow_pos (by decide)
      congr 1
      rw [icmp, icmp]
      by_cases hlt : A < B
      · rw [if_pos hlt, if_pos (Int.mul_lt_mul_of_pos_right hlt hpos)]
      · by_cases he : A = B
        · subst he
          rw [if_neg hlt, if_pos rfl, if_neg (Int.lt_irrefl _), if_pos rfl]
        · have hgt : B < A := by omega
          have := Int.mul_lt_mul_of_pos_right hgt hpos
          rw [if_neg hlt, if_neg he, if_neg (by omega), if_neg (by omega)]
theorem order_nan {a b : Ieee.Datum} (h : a.isNaN = true ∨ b.isNaN = true) : a.order b = none := by
  cases a <;> cases b <;> simp_all [Ieee.Datum.isNaN, Ieee.Datum.order]
theorem f64_format : FloatKind.f64.format = Ieee.double := rfl
theorem ord_none {x y : Nat} (h : (Ieee.double.read x).isNaN = true ∨ (Ieee.double.read y).isNaN = true) : FloatKind.f64.format.order x y = none := order_nan h
theorem ord_some {x y : Nat} (hx : (Ieee.double.read x).isNaN = false) (hy : (Ieee.double.read y).isNaN = false) : FloatKind.f64.format.order x y = some (compare (fv x) (fv y)) := order_D (read_ok x) (read_ok y) hx hy
theorem fnan_eq (x : Nat) : fnan x = (Ieee.double.read x).isNaN := by
  unfold fnan fEq
  cases h : (Ieee.double.read x).isNaN with
  | true =>
    rw [ord_none (.inl h)]
    rfl
  | false =>
    rw [ord_some h h, icmp, if_neg (Int.lt_irrefl _), if_pos rfl]
    rfl
theorem fEq_of {x y : Nat} (hx : fnan x = false) (hy : fnan y = false) : fEq x y = decide (fv x = fv y) := by
  rw [fnan_eq] at hx hy
  unfold fEq
  rw [ord_some hx hy, icmp]
  by_cases h : fv x < fv y
  · rw [if_pos h, decide_eq_false (by omega)]
    rfl
  · by_cases h2 : fv x = fv y
    · rw [if_neg h, if_pos h2, decide_eq_true h2]
      rfl
    · rw [if_neg h, if_neg h2, decide_eq_false h2]
      rfl
theorem fLt_of {x y : Nat} (hx : fnan x = false) (hy : fnan y = false) : fLt x y = decide (fv x < fv y) := by
  rw [fnan_eq] at hx hy
  unfold fLt
  rw [ord_some hx hy, icmp]
  by_cases h : fv x < fv y
  · rw [if_pos h, decide_eq_true h]
    rfl
  · by_cases h2 : fv x = fv y
    · rw [if_neg h, if_pos h2, decide_eq_false h]
      rfl
    · rw [if_neg h, if_neg h2, decide_eq_false h]
      rfl
theorem fEq_nan {x y : Nat} (h : fnan x = true ∨ fnan y = true) : fEq x y = false := by
  rw [fnan_eq, fnan_eq] at h
  unfold fEq
  rw [ord_none h]
  rfl
theorem fLt_nan {x y : Nat} (h : fnan x = true ∨ fnan y = true) : fLt x y = false := by
  rw [fnan_eq, fnan_eq] at h
  unfold fLt
  rw [ord_none h]
  rfl
theorem fGt_eq (x y : Nat) : (FloatKind.f64.format.order x y == some .gt) = fLt y x := by
  by_cases h : fnan x = true ∨ fnan y = true
  · rw [fLt_nan h.symm]
    rw [fnan_eq, fnan_eq] at h
    rw [ord_none h]
    rfl
  · have hx : fnan x = false := by cases hh : fnan x <;> simp_all
    have hy : fnan y = false := by cases hh : fnan y <;> simp_all
    rw [fLt_of hy hx]
    rw [fnan_eq] at hx hy
    rw [ord_some hx hy, icmp]
    by_cases h : fv x < fv y
    · rw [if_pos h, decide_eq_false (by omega)]
      rfl
    · by_cases h2 : fv x = fv y
      · rw [if_neg h, if_pos h2, decide_eq_false (by omega)]
        rfl
      · rw [if_neg h, if_neg h2, decide_eq_true (by omega)]
        rfl
/-- By its value, and a nought with a sign first. -/
def key (x : Nat) : Int := 2 * fv x + (if fneg x then 0 else 1)
theorem ordF_of {x y : Nat} (hx : fnan x = false) (hy : fnan y = false) : ordF x y = if key x < key y then -1 else if key x = key y then 0 else 1 := by
  unfold ordF compF sameF key
  rw [fEq_of hx hy, fLt_of hx hy, hx, hy]
  simp only [Bool.and_self, Bool.or_false, Bool.false_or, decide_eq_true_eq]
  cases fneg x <;> cases fneg y <;> simp only [Bool.false_eq_true, if_false, if_true, ne_eq] <;> (repeat' split) <;> first | rfl | omega | (exfalso; omega) | simp_all
end Go.Proofs.Ytidphdlhghgglaa
