/- Numbers as bytes, the lowest first: plain laws, no program in sight. -/
import Derived.Laws.BitsAllLaws
import Derived.Laws.Bits64b
namespace Go.Proofs.YtfnjeojaahnlfaaDoor
open Go

/-- The lowest k bytes of n, the lowest first. -/
def le (n : Int) (k : Nat) : List Int := (List.range k).map fun i => n / 2 ^ (8 * i) % 256
theorem le_succ (n : Int) (k : Nat) : le n (k + 1) = le n k ++ [n / 2 ^ (8 * k) % 256] := by simp [le, List.range_succ]
theorem le_len (n : Int) (k : Nat) : (le n k).length = k := by simp [le]
/-- How many bytes are meant. -/
def clamp8 (z : Int) : Nat := (min (max z 0) 8).toNat
/-- The number whose lowest bytes are bs. -/
def leV : List Int → Int
  | [] => 0
  | b :: r => b + 256 * leV r

def IsBytes (l : List Int) : Prop := ∀ x ∈ l, 0 ≤ x ∧ x < 256

theorem IsBytes.take {l : List Int} (h : IsBytes l) (k : Nat) : IsBytes (l.take k) := fun x hx => h x (List.mem_of_mem_take hx)
theorem IsBytes.drop {l : List Int} (h : IsBytes l) (k : Nat) : IsBytes (l.drop k) := fun x hx => h x (List.mem_of_mem_drop hx)
theorem IsBytes.app {a b : List Int} (h : IsBytes a) (h' : IsBytes b) : IsBytes (a ++ b) := fun x hx => (List.mem_append.1 hx).elim (h x) (h' x)
theorem le_bytes (n : Int) (k : Nat) : IsBytes (le n k) := by
  intro x hx
  obtain ⟨i, _, rfl⟩ := List.mem_map.1 hx
  constructor <;> omega

theorem pow8 (k : Nat) : (2 : Int) ^ (8 * (k + 1)) = 256 * 2 ^ (8 * k) := by
  rw [show 8 * (k + 1) = 8 * k + 8 from by omega, Int.pow_add]
  omega

theorem pow_small (k : Nat) (h : k < 8) : (0 : Int) < 2 ^ (8 * k) ∧ (2 : Int) ^ (8 * k) ≤ 72057594037927936 := by
  have h1 : (2 : Nat) ^ (8 * k) ≤ 2 ^ 56 := Nat.pow_le_pow_right (by decide) (by omega)
  have h56 : (2 : Nat) ^ 56 = 72057594037927936 := by decide
  have hc : ((2 ^ (8 * k) : Nat) : Int) = 2 ^ (8 * k) := by push_cast; rfl
  exact ⟨Int.pow_pos (by decide), by omega⟩

theorem leV_snoc (xs : List Int) (x : Int) : leV (xs ++ [x]) = leV xs + 2 ^ (8 * xs.length) * x := by
  induction xs with
  | nil => simp [leV]
  | cons b r ih =>
    rw [List.cons_append, leV, leV, ih, List.length_cons, pow8, Int.mul_add, Int.mul_assoc]
    omega

theorem leV_lt {xs : List Int} (h : IsBytes xs) : 0 ≤ leV xs ∧ leV xs < 2 ^ (8 * xs.length) := by
  induction xs with
  | nil => simp [leV]
  | cons b r ih =>
    obtain ⟨h1, h2⟩ := ih (fun x hx => h x (List.mem_cons_of_mem _ hx))
    obtain ⟨h3, h4⟩ := h b (List.mem_cons_self ..)
    rw [leV, List.length_cons, pow8]
    omega

theorem or_add (a x : Nat) (j : Nat) (ha : a < 2 ^ (8 * j)) (hj : j ≤ 7) (hx : x < 256) : bits .or .u64 (a : Int) (IntKind.u64.wrap ((x : Int) * 2 ^ (8 * j))) = ((a + x * 2 ^ (8 * j) : Nat) : Int) := by
  have hp : (2 : Nat) ^ (8 * j) ≤ 2 ^ 56 := Nat.pow_le_pow_right (by decide) (by omega)
  have h56 : (2 : Nat) ^ 56 = 72057594037927936 := by decide
  have hm : x * 2 ^ (8 * j) ≤ 255 * 72057594037927936 := Nat.mul_le_mul (by omega) (by omega)
  have hc : (x : Int) * 2 ^ (8 * j) = ((x * 2 ^ (8 * j) : Nat) : Int) := by push_cast; rfl
  rw [hc, IntKind.wrap_u64, show ((x * 2 ^ (8 * j) : Nat) : Int) % 18446744073709551616 = ((x * 2 ^ (8 * j) : Nat) : Int) from by omega, bits_or_u64_nat a (x * 2 ^ (8 * j)) (by omega) (by omega)]
  have h := Nat.shiftLeft_add_eq_or_of_lt ha x
  rw [Nat.shiftLeft_eq] at h
  rw [Nat.or_comm, ← h, Nat.add_comm]

theorem or_step {xs : List Int} (h : IsBytes xs) (j : Nat) (hj : j < xs.length) (hj7 : j ≤ 7) :
    bits .or .u64 (leV (xs.take j)) (IntKind.u64.wrap (xs[j] * 2 ^ (8 * j))) = leV (xs.take (j + 1)) := by
  obtain ⟨h1, h2⟩ := leV_lt (h.take j)
  rw [List.length_take, Nat.min_eq_left (by omega)] at h2
  obtain ⟨h3, h4⟩ := h _ (List.getElem_mem hj)
  rw [List.take_succ_eq_append_getElem hj, leV_snoc, List.length_take, Nat.min_eq_left (by omega)]
  obtain ⟨a, ha⟩ := Int.eq_ofNat_of_zero_le h1
  obtain ⟨x, hx⟩ := Int.eq_ofNat_of_zero_le h3
  rw [ha, hx]
  have h2' : a < 2 ^ (8 * j) := by
    rw [ha] at h2
    exact_mod_cast h2
  rw [or_add a x j h2' hj7 (by omega)]
  push_cast
  rw [Int.mul_comm]

theorem leV_le (n : Int) (hn : 0 ≤ n) (k : Nat) : leV (le n k) = n % 2 ^ (8 * k) := by
  induction k with
  | zero => simp [le, leV, Int.emod_one]
  | succ k ih =>
    rw [le_succ, leV_snoc, ih, le_len, pow8]
    have hp : (0 : Int) < 2 ^ (8 * k) := Int.pow_pos (by decide)
    generalize (2 : Int) ^ (8 * k) = p at *
    have e1 := Int.emod_add_mul_ediv n p
    have e2 := Int.emod_add_mul_ediv (n / p) 256
    have hd : n / (256 * p) = n / p / 256 := by rw [Int.mul_comm, Int.ediv_ediv_of_nonneg (Int.le_of_lt hp)]
    have e3 := Int.emod_add_mul_ediv n (256 * p)
    rw [hd] at e3
    have : p * (n / p) = p * (n / p % 256) + 256 * p * (n / p / 256) := by
      conv => lhs; rw [← e2]
      rw [Int.mul_add, ← Int.mul_assoc, Int.mul_comm p 256]
    omega

theorem le_leV {xs : List Int} (h : IsBytes xs) : le (leV xs) xs.length = xs := by
  induction xs with
  | nil => rfl
  | cons b r ih =>
    have hr : IsBytes r := fun x hx => h x (List.mem_cons_of_mem _ hx)
    obtain ⟨h3, h4⟩ := h b (List.mem_cons_self ..)
    have ih' := ih hr
    simp only [le, List.length_cons, List.range_succ_eq_map, List.map_cons, List.map_map] at ih' ⊢
    rw [leV]
    congr 1
    · simp
      omega
    · conv => rhs; rw [← ih']
      apply List.map_congr_left
      intro i _
      simp only [Function.comp]
      rw [show 8 * (i + 1) = 8 + 8 * i from by omega, Int.pow_add, ← Int.ediv_ediv_of_nonneg (by decide), show ((b + 256 * leV r) / 2 ^ 8 : Int) = leV r from by omega]

end Go.Proofs.YtfnjeojaahnlfaaDoor
