/- Several texts of one claim, one behind the other (Fq, Hg, Hh, Pt). -/
import Derived.Test.YtidphdlhghgglaaB08
import Derived.Test.YtidphdlhghgglaaB06
set_option linter.unusedVariables false
/- Differences, quotients and products of floats that are numbers. Plain. -/
namespace Go.Proofs.Ytidphdlhghgglaa
open Go.RowKit
def mulF (x y : Nat) : Option Nat := FloatKind.f64.format.mul x y
def divF (x y : Nat) : Option Nat := FloatKind.f64.format.div x y
theorem mulF_eq (x y : Nat) : mulF x y = ((Ieee.double.read x).product (Ieee.double.read y)).map Ieee.double.write := rfl
theorem divF_eq (x y : Nat) : divF x y = ((Ieee.double.read x).quotient 54 (Ieee.double.read y)).map Ieee.double.write := rfl
theorem subF_eq (x y : Nat) : subF x y = ((Ieee.double.read x).sum (Ieee.double.read y).opposite).map Ieee.double.write := rfl
/-- What is written is a number. -/
structure Wd (x : Nat) : Prop where
  lt : x < 18446744073709551616
  nn : fnan x = false
theorem wd_word (s : Bool) {r : Nat} (h : r ≤ 9218868437227405312) : Wd (Ieee.double.word s r) := by
  rw [word_eq]
  cases s
  · exact ⟨by simp only [Bool.false_eq_true, if_false]; omega, nan_pos h⟩
  · exact ⟨by simp only [if_true]; omega, nan_neg h⟩
theorem near_word (s : Bool) (m : Nat) (i : Int) : ∃ r, r ≤ 9218868437227405312 ∧ Ieee.double.nearest s m i = Ieee.double.word s r := by
  unfold Ieee.Format.nearest
  by_cases h : m = 0
  · rw [if_pos h]
    exact ⟨0, by decide, rfl⟩
  · rw [if_neg h]
    simp only [ir_eq]
    exact ⟨_, Nat.min_le_right _ _, rfl⟩
theorem wd_write {D : Ieee.Datum} (h : D.isNaN = false) : Wd (Ieee.double.write D) := by
  cases D with
  | nan s f => cases h
  | infinity s =>
    show Wd (Ieee.double.word s Ieee.double.infRung)
    rw [ir_eq]
    exact wd_word s (Nat.le_refl _)
  | number s m i =>
    show Wd (Ieee.double.nearest s m i)
    obtain ⟨r, hr, e⟩ := near_word s m i
    rw [e]
    exact wd_word s hr
theorem near_pos {m : Nat} {i : Int} (hm : 0 < m) (hi : -1074 ≤ i) (s : Bool) : ∃ r, 0 < r ∧ r ≤ 9218868437227405312 ∧ Ieee.double.nearest s m i = Ieee.double.word s r := by
  unfold Ieee.Format.nearest
  rw [if_neg (by omega)]
  simp only [lp_eq, fb_eq, bi_eq, ir_eq]
  refine ⟨_, ?_, Nat.min_le_right _ _, rfl⟩
  refine Nat.lt_min.2 ⟨?_, by decide⟩
  generalize hl : max (i + (m.log2 : Int) - ((52 : Nat) : Int)) (-1074) = last
  by_cases h : last = -1074
  · subst h
    refine Nat.lt_of_lt_of_le ?_ (Nat.le_add_left _ _)
    refine Nat.lt_of_lt_of_le ?_ (cut_even_ge _ _ _)
    rw [show ((-1074 : Int) - i).toNat = 0 by omega, Nat.pow_zero, Nat.div_one, Nat.shiftLeft_eq]
    exact Nat.mul_pos hm (Nat.two_pow_pos _)
  · refine Nat.lt_of_lt_of_le ?_ (Nat.le_add_right _ _)
    exact Nat.mul_pos (by omega) (by decide)
theorem inf_of {x : Nat} (hn : fnan x = false) : (∃ s, Ieee.double.read x = .infinity s) ∨ ∃ s m i, Ieee.double.read x = .number s m i ∧ -1074 ≤ i := by
  rw [fnan_eq] at hn
  have hok := read_ok x
  cases h : Ieee.double.read x with
  | nan s f => rw [h] at hn; cases hn
  | infinity s => exact .inl ⟨s, rfl⟩
  | number s m i => rw [h] at hok; exact .inr ⟨s, m, i, rfl, hok.1⟩
theorem fv_inf {x : Nat} {s : Bool} (h : Ieee.double.read x = .infinity s) : fv x = if s then -(big : Int) else big := by
  unfold fv
  rw [h]
  rfl
theorem fv_num {x : Nat} {s : Bool} {m : Nat} {i : Int} (h : Ieee.double.read x = .number s m i) : fv x = if s then -((m <<< (i + 1074).toNat : Nat) : Int) else ((m <<< (i + 1074).toNat : Nat) : Int) := by
  unfold fv
  rw [h]
  rfl
theorem bigI : (0 : Int) < big := by
  rw [big_eq]
  exact_mod_cast Nat.two_pow_pos _
theorem fv_fin {x : Nat} {s : Bool} {m : Nat} {i : Int} (h : Ieee.double.read x = .number s m i) : -(big : Int) < fv x ∧ fv x < big := by
  have hok := read_ok x
  unfold fv
  rw [h] at hok ⊢
  exact fvD_lt hok
/-- A greater one less a smaller one. -/
theorem sub_pos {lo hi : Nat} (hl : Wd lo) (hh : Wd hi) (h : fv lo < fv hi) : ∃ wd, subF hi lo = some wd ∧ 0 < wd ∧ wd ≤ 9218868437227405312 ∧ (fv wd < big → ∃ s m i, Ieee.double.read lo = .number s m i) := by
  rw [subF_eq]
  have hinf : ∀ s, Ieee.double.write (.infinity s) = Ieee.double.word s 9218868437227405312 := fun s => by
    show Ieee.double.word s Ieee.double.infRung = _
    rw [ir_eq]
  have hfi : fv 9218868437227405312 = big := by
    rw [fv_pos (Nat.le_refl _)]
    unfold fvR
    rw [if_neg (by decide), if_neg (by decide)]
  have hb := bigI
  rcases inf_of hl.nn with ⟨s, e⟩ | ⟨s, m, i, e, hi1⟩
  · rcases inf_of hh.nn with ⟨t, e'⟩ | ⟨t, n, j, e', hi2⟩
    · rw [fv_inf e, fv_inf e'] at h
      obtain ⟨rfl, rfl⟩ : s = true ∧ t = false := by
        cases s <;> cases t <;> simp at h ⊢ <;> omega
      rw [e, e']
      refine ⟨9218868437227405312, ?_, by decide, Nat.le_refl _, fun h => ?_⟩
      · show some (Ieee.double.write (.infinity false)) = _
        rw [hinf, word_eq]
        rfl
      · rw [hfi] at h
        omega
    · have hf := fv_fin e'
      rw [fv_inf e] at h
      obtain rfl : s = true := by
        cases s
        · simp at h; omega
        · rfl
      rw [e, e']
      refine ⟨9218868437227405312, ?_, by decide, Nat.le_refl _, fun h => ?_⟩
      · show some (Ieee.double.write (.infinity false)) = _
        rw [hinf, word_eq]
        rfl
      · rw [hfi] at h
        omega
  · rcases inf_of hh.nn with ⟨t, e'⟩ | ⟨t, n, j, e', hi2⟩
    · have hf := fv_fin e
      rw [fv_inf e'] at h
      obtain rfl : t = false := by
        cases t
        · rfl
        · simp at h; omega
      rw [e, e']
      refine ⟨9218868437227405312, ?_, by decide, Nat.le_refl _, fun _ => ⟨s, m, i, rfl⟩⟩
      show some (Ieee.double.write (.infinity false)) = _
      rw [hinf, word_eq]
      rfl
    · rw [fv_num e, fv_num e'] at h
      rw [e, e']
      show ∃ wd, some (Ieee.double.write (.number (if Ieee.signed t n (j - min j i).toNat + Ieee.signed (!s) m (i - min j i).toNat = 0 then t && !s else decide (Ieee.signed t n (j - min j i).toNat + Ieee.signed (!s) m (i - min j i).toNat < 0)) (Ieee.signed t n (j - min j i).toNat + Ieee.signed (!s) m (i - min j i).toNat).natAbs (min j i))) = some wd ∧ _
      obtain ⟨k, hk⟩ : ∃ k : Nat, min j i = (k : Int) - 1074 := ⟨(min j i + 1074).toNat, by omega⟩
      rw [hk]
      have h1 : Ieee.signed s m (i + 1074).toNat < Ieee.signed t n (j + 1074).toNat := h
      rw [show (i + 1074).toNat = (i - ((k : Int) - 1074)).toNat + k by omega, show (j + 1074).toNat = (j - ((k : Int) - 1074)).toNat + k by omega, signed_add, signed_add] at h1
      have hpos : (0 : Int) < 2 ^ k := Int.pow_pos (by decide)
      have h2 : Ieee.signed s m (i - ((k : Int) - 1074)).toNat < Ieee.signed t n (j - ((k : Int) - 1074)).toNat := Int.lt_of_mul_lt_mul_right h1 (Int.le_of_lt hpos)
      rw [signed_not]
      generalize Ieee.signed s m (i - ((k : Int) - 1074)).toNat = A at h2 ⊢
      generalize Ieee.signed t n (j - ((k : Int) - 1074)).toNat = B at h2 ⊢
      rw [if_neg (by omega), decide_eq_false (by omega)]
      obtain ⟨r, r0, r1, e3⟩ := near_pos (m := (B + -A).natAbs) (i := (k : Int) - 1074) (by omega) (by omega) false
      refine ⟨r, ?_, r0, r1, fun _ => ⟨s, m, i, rfl⟩⟩
      show some (Ieee.double.nearest false _ _) = _
      rw [e3, word_eq]
      rfl
theorem sub_num {x lo : Nat} (hx : Wd x) {s : Bool} {m : Nat} {i : Int} (h : Ieee.double.read lo = .number s m i) : ∃ d, subF x lo = some d ∧ Wd d := by
  rw [subF_eq, h]
  rcases inf_of hx.nn with ⟨t, e⟩ | ⟨t, n, j, e, hj⟩
  · rw [e]
    exact ⟨_, rfl, wd_write rfl⟩
  · rw [e]
    exact ⟨_, rfl, wd_write rfl⟩
theorem div_num {x y : Nat} (hx : Wd x) {s : Bool} {m : Nat} {i : Int} (h : Ieee.double.read y = .number s m i) (hm : m ≠ 0) : ∃ d, divF x y = some d ∧ Wd d := by
  rw [divF_eq, h]
  rcases inf_of hx.nn with ⟨t, e⟩ | ⟨t, n, j, e, hj⟩
  · rw [e]
    exact ⟨_, rfl, wd_write rfl⟩
  · rw [e]
    simp only [Ieee.Datum.quotient, if_neg hm]
    exact ⟨_, rfl, wd_write rfl⟩
theorem mul_num {x y : Nat} (hx : Wd x) {s : Bool} {m : Nat} {i : Int} (h : Ieee.double.read y = .number s m i) (hm : m ≠ 0) : ∃ d, mulF x y = some d ∧ Wd d := by
  rw [mulF_eq, h]
  rcases inf_of hx.nn with ⟨t, e⟩ | ⟨t, n, j, e, hj⟩
  · rw [e]
    simp only [Ieee.Datum.product, if_neg hm]
    exact ⟨_, rfl, wd_write rfl⟩
  · rw [e]
    exact ⟨_, rfl, wd_write rfl⟩
theorem num_pos {r : Nat} (h0 : 0 < r) (h : r ≤ 9218868437227405312) (hf : fv r < big) : ∃ s m i, Ieee.double.read r = .number s m i ∧ m ≠ 0 := by
  rcases inf_of (nan_pos h) with ⟨s, e⟩ | ⟨s, m, i, e, hi⟩
  · rw [read_pos h] at e
    split at e
    · cases e
    · split at e
      · cases e
      · injection e with e
        rw [fv_inf (s := false) (by rw [read_pos h, if_neg (by assumption), if_neg (by assumption)])] at hf
        simp at hf
  · refine ⟨s, m, i, e, fun hm => ?_⟩
    subst hm
    have h1 := fv_num e
    have h2 := fvR_lt h h0
    have h3 : fvR 0 = 0 := by decide
    rw [fv_pos h] at h1
    simp at h1
    omega
theorem fiN_wd {k : Nat} (h : k < 65) : Wd (fiN k) := ⟨Nat.lt_of_le_of_lt (fiN_all k h).2 (by decide), nan_pos (fiN_all k h).2⟩
theorem fiN_read {k : Nat} (h : k < 65) (h0 : 0 < k) : ∃ s m i, Ieee.double.read (fiN k) = .number s m i ∧ m ≠ 0 := by
  obtain ⟨e, hle⟩ := fiN_all k h
  have hu := uN_pos
  refine num_pos ?_ hle ?_
  · rcases Nat.eq_zero_or_pos (fiN k) with hz | hz
    · exfalso
      rw [hz] at e
      have h3 : fv 0 = 0 := by rw [fv_pos (by decide)]; decide
      rw [h3] at e
      have := Nat.mul_pos h0 hu
      omega
    · exact hz
  · rw [e, big_eq]
    have h1 : k * uN ≤ 2 ^ 7 * 2 ^ uE := by rw [← uN_eq]; exact Nat.mul_le_mul (by omega) (Nat.le_refl _)
    have h2 : 2 ^ 7 * 2 ^ uE < 2 ^ bigE := by rw [← Nat.pow_add]; exact Nat.pow_lt_pow_right (by decide) (by rw [bigE_eq, uE_eq]; decide)
    exact_mod_cast Nat.lt_of_le_of_lt h1 h2
/-! Which part a number falls into. -/
def slotN (v : Int) (k : Nat) : Nat := if v < 0 then 0 else if (k * uN : Nat) ≤ v then k - 1 else v.toNat / uN
/-- x's place, in parts between lo and what lies wd above. -/
def yOf (lo wd k x : Nat) : Nat := (((subF x lo).bind fun d => divF d wd).bind fun s => mulF s (fiN k)).getD 0
def slotOf (lo wd k x : Nat) : Nat := slotN (fv (yOf lo wd k x)) k
theorem y_ok {lo wd k x : Nat} (hx : Wd x) {s t : Bool} {m n : Nat} {i j : Int} (hl : Ieee.double.read lo = .number s m i) (hw : Ieee.double.read wd = .number t n j) (hn : n ≠ 0) (hk : 0 < k) (hk2 : k < 65) :
    ∃ d q, subF x lo = some d ∧ divF d wd = some q ∧ mulF q (fiN k) = some (yOf lo wd k x) ∧ Wd (yOf lo wd k x) := by
  obtain ⟨d, e1, w1⟩ := sub_num hx hl
  obtain ⟨q, e2, w2⟩ := div_num w1 hw hn
  obtain ⟨a, b, c, e4, e5⟩ := fiN_read hk2 hk
  obtain ⟨y, e3, w3⟩ := mul_num w2 e4 e5
  have : yOf lo wd k x = y := by
    unfold yOf
    rw [e1, Option.bind_some, e2, Option.bind_some, e3]
    rfl
  rw [this]
  exact ⟨d, q, e1, e2, e3, w3⟩
theorem slot_lt {v : Int} {k : Nat} (hk : 0 < k) : slotN v k < k := by
  unfold slotN
  split
  · exact hk
  · split
    · omega
    · rw [Nat.div_lt_iff_lt_mul uN_pos]
      omega
theorem fLe_of {x y : Nat} (hx : fnan x = false) (hy : fnan y = false) : fLe x y = decide (fv x ≤ fv y) := by
  unfold fLe
  rw [fLt_of hx hy, fEq_of hx hy, Bool.eq_iff_iff]
  simp
  omega
/-- The law's way to the part. -/
theorem slot_eq {v : Int} {k a : Nat} (hk : 0 < k) (ha : a < k) (h1 : a = 0 ∨ (a * uN : Nat) ≤ v) (h2 : a = k - 1 ∨ v < ((a + 1) * uN : Nat)) : slotN v k = a := by
  have hu := uN_pos
  unfold slotN
  by_cases h0 : v < 0
  · rw [if_pos h0]
    rcases h1 with h | h
    · exact h.symm
    · have := Int.natCast_nonneg (a * uN)
      omega
  · rw [if_neg h0]
    by_cases h3 : (k * uN : Nat) ≤ v
    · rw [if_pos h3]
      rcases h2 with h | h
      · exact h.symm
      · have : (a + 1) * uN ≤ k * uN := Nat.mul_le_mul_right _ (by omega)
        omega
    · rw [if_neg h3]
      have hx : a * uN ≤ v.toNat := by
        rcases h1 with h | h
        · subst h; rw [Nat.zero_mul]; exact Nat.zero_le _
        · omega
      have hy : v.toNat < (a + 1) * uN := by
        rcases h2 with h | h
        · have e : a + 1 = k := by omega
          rw [e]
          omega
        · omega
      exact Nat.div_eq_of_lt_le hx hy
/-- What is counted. -/
def hStep (lo wd k : Nat) (p : List Nat × Nat) (x : Nat) : List Nat × Nat := if fnan x then (p.1, p.2 + 1) else (p.1.set (slotOf lo wd k x) (p.1.getD (slotOf lo wd k x) 0 + 1), p.2)
def histF (lo wd k : Nat) (xs : List Nat) : List Nat × Nat := xs.foldl (hStep lo wd k) (List.replicate k 0, 0)
theorem hist_snoc (lo wd k : Nat) (xs : List Nat) (x : Nat) : histF lo wd k (xs ++ [x]) = hStep lo wd k (histF lo wd k xs) x := by
  unfold histF
  rw [List.foldl_append]
  rfl
theorem hist_inv (lo wd k : Nat) : ∀ (n : Nat) (xs : List Nat), xs.length = n → (histF lo wd k xs).1.length = k ∧ (∀ c ∈ (histF lo wd k xs).1, c ≤ n) ∧ (histF lo wd k xs).2 ≤ n
  | 0, xs, h => by
    obtain rfl := List.eq_nil_of_length_eq_zero h
    refine ⟨by simp [histF], fun c hc => ?_, Nat.le_refl _⟩
    rw [List.eq_of_mem_replicate hc]
    exact Nat.le_refl _
  | n + 1, xs, h => by
    obtain ⟨ys, x, rfl⟩ : ∃ ys x, xs = ys ++ [x] := ⟨xs.dropLast, xs.getLast (by intro e; rw [e] at h; cases h), (List.dropLast_concat_getLast _).symm⟩
    obtain ⟨h1, h2, h3⟩ := hist_inv lo wd k n ys (by simpa using h)
    rw [hist_snoc]
    unfold hStep
    split
    · exact ⟨h1, fun c hc => Nat.le_succ_of_le (h2 c hc), Nat.succ_le_succ h3⟩
    · refine ⟨by simpa using h1, fun c hc => ?_, Nat.le_succ_of_le h3⟩
      rcases List.mem_or_eq_of_mem_set hc with hc | rfl
      · exact Nat.le_succ_of_le (h2 c hc)
      · refine Nat.succ_le_succ ?_
        unfold List.getD
        cases hz : (histF lo wd k ys).1[slotOf lo wd k x]? with
        | none => exact Nat.zero_le _
        | some c => exact h2 c (List.mem_of_getElem? hz)
def maxF : Nat := 9218868437227405311
/-- Whether parts can be. -/
def hCode (lo hi : Nat) (k : Int) : Int := if fnan lo || fnan hi then 28 else if !fLt lo hi || fLt maxF ((subF hi lo).getD 0) then 6 else if k < 1 ∨ 64 < k then 9 else 0
theorem max_fin {wd : Nat} (h0 : wd ≤ 9218868437227405312) (h : fLt maxF wd = false) : fv wd < big := by
  rw [fLt_of (nan_pos (by decide)) (nan_pos h0), decide_eq_false_iff_not, fv_pos (by decide), fv_pos h0] at h
  have h2 : fvR maxF < big := by
    have := fvR_lt (r := maxF) (s := 9218868437227405312) (Nat.le_refl _) (by decide)
    have e : fvR 9218868437227405312 = big := by
      unfold fvR
      rw [if_neg (by decide), if_neg (by decide)]
    omega
  rw [fv_pos h0]
  omega
theorem hCode_0 {lo hi : Nat} {k : Int} (hl : lo < 18446744073709551616) (hh : hi < 18446744073709551616) (h : hCode lo hi k = 0) :
    fnan lo = false ∧ fnan hi = false ∧ fLt lo hi = true ∧ (1 ≤ k ∧ k ≤ 64) ∧ ∃ wd, subF hi lo = some wd ∧ wd < 9223372036854775808 ∧ fLt maxF wd = false ∧ (∃ s m i, Ieee.double.read lo = .number s m i) ∧ ∃ t n j, Ieee.double.read wd = .number t n j ∧ n ≠ 0 := by
  unfold hCode at h
  split at h
  · cases h
  · rename_i h1
    simp only [Bool.or_eq_true, not_or, Bool.not_eq_true] at h1
    split at h
    · cases h
    · rename_i h2
      simp only [Bool.or_eq_true, not_or, Bool.not_eq_true, Bool.not_eq_eq_eq_not, Bool.not_true, Bool.not_false] at h2
      split at h
      · cases h
      · rename_i h3
        have h21 : fLt lo hi = true := by cases hq : fLt lo hi <;> simp_all
        have h4 := h21
        rw [fLt_of h1.1 h1.2, decide_eq_true_eq] at h4
        obtain ⟨wd, e1, w0, w1, w2⟩ := sub_pos ⟨hl, h1.1⟩ ⟨hh, h1.2⟩ h4
        have h5 := h2.2
        rw [e1, Option.getD_some] at h5
        have h6 := max_fin w1 h5
        exact ⟨h1.1, h1.2, h21, by omega, wd, e1, by omega, h5, w2 h6, num_pos w0 w1 h6⟩
theorem sub_lt2 {lo hi : Nat} (hl : Wd lo) (hh : Wd hi) (h : fLt lo hi = true) : ∃ wd, subF hi lo = some wd ∧ wd < 9223372036854775808 := by
  rw [fLt_of hl.nn hh.nn, decide_eq_true_eq] at h
  obtain ⟨wd, e1, w0, w1, w2⟩ := sub_pos hl hh h
  exact ⟨wd, e1, by omega⟩
theorem f2i_all : ∀ n, n < 64 → floatToIntVal .f64 (fiN n) .i64 = some (n : Int) := by
  have h : (List.range 64).all (fun n => decide (floatToIntVal .f64 (fiN n) .i64 = some (n : Int))) = true := by decide +kernel
  intro n hn
  exact of_decide_eq_true (List.all_eq_true.1 h n (List.mem_range.2 hn))
theorem f2i_m0 : floatToIntVal .f64 9223372036854775808 .i64 = some 0 := by decide +kernel
theorem i2f_fiN (k : Nat) : floatOfInt .f64 (k : Int) = fiN k := by
  show Ieee.double.nearest _ _ _ = _
  unfold fiN
  congr 1
end Go.Proofs.Ytidphdlhghgglaa
/- Histogram: over facts. -/
namespace Go.Proofs.Ytidphdlhghgglaa
open Go.RowKit
theorem floor_row (args : Array Value) (w : World) : (callFunc 43 args).run Try.prog w = (Extern.MathFloor.toIntegral "math.archFloor" .down args >>= fun v => pure (Next.value v)).run Try.prog w := by kernel_rfl
theorem run_floor {x : Nat} (hn : fnan x = false) (w : World) : (callFunc 43 #[.float .f64 x]).run Try.prog w = .ok (.value (.float .f64 (floF x))) w := by
  rw [floor_row]
  have h : (Extern.MathFloor.toIntegral "math.archFloor" .down #[.float .f64 x]) = pure (.float .f64 (floF x)) := by
    have h : ∃ a : Bool → Nat → Sem Value, (Extern.MathFloor.toIntegral "math.archFloor" .down #[.float .f64 x]) = (match FloatKind.f64.decode x with | .nan s t => a s t | d => pure (.float .f64 (FloatKind.f64.encode (d.integral .down)))) := ⟨_, rfl⟩
    obtain ⟨a, h⟩ := h
    unfold floF
    rcases inf_of hn with ⟨s, e⟩ | ⟨s, m, i, e, _⟩
    · rw [h, show FloatKind.f64.decode x = Ieee.Datum.infinity s from e, e]
      rfl
    · rw [h, show FloatKind.f64.decode x = Ieee.Datum.number s m i from e, e]
      rfl
  rw [h]
  rfl
section
variable {P : Program} {C : World → Prop} {n : Nat} {l : Env} {t t' ty : TypeId} {x y : Operand} {a b r : Nat} {c : Bool}
theorem pu_fsub (hx : ev l x = some (.float .f64 a)) (hy : ev l y = some (.float .f64 b)) (h : subF a b = some r) : Pu P C n l (.binOp .sub t x y t') ty (.float .f64 r) := by
  have h' : FloatKind.f64.format.sub a b = some r := h
  unfold Pu
  intro q _ _ _ _ W hs _
  simp only [execOp, hs.ev hx, hs.ev hy]
  simp [go_sem, binOp, Op.floatArith, h']
theorem pu_fmul (hx : ev l x = some (.float .f64 a)) (hy : ev l y = some (.float .f64 b)) (h : mulF a b = some r) : Pu P C n l (.binOp .mul t x y t') ty (.float .f64 r) := by
  have h' : FloatKind.f64.format.mul a b = some r := h
  unfold Pu
  intro q _ _ _ _ W hs _
  simp only [execOp, hs.ev hx, hs.ev hy]
  simp [go_sem, binOp, Op.floatArith, h']
theorem pu_fdiv (hx : ev l x = some (.float .f64 a)) (hy : ev l y = some (.float .f64 b)) (h : divF a b = some r) : Pu P C n l (.binOp .quo t x y t') ty (.float .f64 r) := by
  have h' : FloatKind.f64.format.div a b = some r := h
  unfold Pu
  intro q _ _ _ _ W hs _
  simp only [execOp, hs.ev hx, hs.ev hy]
  simp [go_sem, binOp, Op.floatArith, h']
theorem pu_fge (hx : ev l x = some (.float .f64 a)) (hy : ev l y = some (.float .f64 b)) (h : (fLt b a || fEq a b) = c) : Pu P C n l (.binOp .geq t x y t') ty (.bool c) := by
  subst h
  unfold Pu
  intro q _ _ _ _ W hs _
  simp only [execOp, hs.ev hx, hs.ev hy]
  simp [go_sem, ← fGt_eq, fEq]
theorem pu_f2i {m : Int} {k : TypeDesc} (hx : ev l x = some (.float .f64 a)) (hs' : P.underlying t = some k) (hd' : P.underlying t' = some (.int .i64)) (h : floatToIntVal .f64 a .i64 = some m) : Pu P C n l (.convert t t' x) ty (.int .i64 m) := by
  unfold Pu
  intro q _ _ _ _ W hs _
  simp only [execOp, hs.ev hx]
  have h1 := run_convert_float_int (P := P) W t t' .f64 .i64 a m (by rw [hs']; rfl) hd' h
  simp [h1]
end
theorem fGe_of {x y : Nat} (hx : fnan x = false) (hy : fnan y = false) : (fLt y x || fEq x y) = decide (fv y ≤ fv x) := by
  rw [fLt_of hy hx, fEq_of hx hy, Bool.eq_iff_iff]
  simp
  omega
theorem nth_Hg {φ : Prop} (h : φ := by (first | rfl | assumption)) : φ := h
theorem mid_Hg {φ : Prop} (h : φ := by (first | exact Mid.all | exact Mid.all | exact Mid.head)) : φ := h
theorem sz_Hg {φ : Prop} (h : φ := by (first | rfl | (rfl; first | done | fail))) : φ := h
theorem one_Hg {φ : Prop} (h : φ := by (first | assumption | exact first | exact one_bytes _ | (simp only [List.mem_cons, List.not_mem_nil, or_false, forall_eq_or_imp, forall_eq]; decide) | exact one_bytes _)) : φ := h
theorem set_Hg {φ : Prop} (h : φ := by (first | (fail) | ((repeat (first | exact SetAt.here | apply SetAt.there)); first | done | fail))) : φ := h
theorem cl_Hg {φ : Prop} (h : φ := by first | rfl | exact .t | exact .f | exact .t (by omega) | exact .f (by omega) | exact .u | exact .i (by (first | exact .t (by omega) | exact .f (by omega) | exact .u | exact .i (by omega) | exact .v (by omega) | exact .b (by omega) | exact .w | rfl | omega)) | exact .v (by omega) | exact .b (by omega) | exact .q (by omega) | exact .w | exact .b (by exact at_) rfl (by exact nth_Hg) | exact .w (by exact at_) rfl rfl (by exact sz_Hg) | exact .s (by exact at_) (by exact mid_Hg) rfl rfl (by exact sz_Hg) | exact .z rfl rfl ⟨by kernel_rfl⟩ | exact .b rfl rfl ⟨by kernel_rfl⟩ | exact .a rfl rfl ⟨by kernel_rfl⟩ | exact .o rfl | exact .s | exact .n | exact .p rfl | exact .q rfl | exact .c rfl | exact .d rfl | exact .n rfl rfl (by omega) | exact .a rfl rfl (by omega) | exact .p rfl rfl (by omega) (by omega) | exact .y rfl rfl (by omega) (by omega) | exact .o (by exact at_) (by omega) rfl (by exact nth_Hg) | exact .m (by exact at_) (by omega) (by exact mid_Hg) rfl rfl (by exact sz_Hg) | exact .mlen (by exact at_) rfl | exact .t (by exact at_) rfl rfl (by first | exact True.intro | rfl) (by assumption) | exact .f (by exact at_) rfl rfl (by first | exact True.intro | rfl) (by assumption) rfl | exact .t1 (by exact at_) rfl rfl (by first | exact True.intro | rfl) (by assumption) | exact .f1 (by exact at_) rfl rfl (by first | exact True.intro | rfl) (by assumption) rfl | exact .r rfl rfl (by omega) (by omega) (by exact nth_Hg) rfl | exact .s rfl (by omega) (by assumption) | exact at_ | assumption | exact .r rfl rfl | exact .h rfl rfl rfl (by omega) | exact .l rfl rfl rfl (by omega) (by omega) | exact .g rfl rfl rfl rfl (by omega) (by omega) | exact .h rfl rfl (toN_ (by omega)) (by omega) | exact .l rfl rfl (toN_ (by omega)) (by omega) (by omega) | exact .g rfl rfl (toN_ (by omega)) (toN_ (by omega)) (by omega) (by omega) | exact .o (by decide) | exact .f (by decide) | exact .n (by omega) (by first | decide | (show _ ≤ ((64 : Nat) : Int); omega)) | (constructor; (repeat (first | exact .t (by omega) | exact .f (by omega) | exact .u | exact .i (by omega) | exact .v (by omega) | exact .b (by omega) | exact .w | rfl | omega)); first | done | fail) | omega | (show _ ≤ ((64 : Nat) : Int); omega)) : φ := h
theorem pv_Hg {φ : Prop} (h : φ := by constructor; (repeat exact cl_Hg); first | done | fail) : φ := h
theorem su_Hg {φ ψ : Prop} (k : ψ) (h : Hide ψ → φ := by (intro k; (first | refine sl_pu (PuI.sep (by exact pv_Hg)) rfl ?_ | refine sl_yes rfl rfl ?_ | refine sl_no rfl rfl rfl ?_ | refine sl_off rfl rfl rfl ?_ | (fail)); exact k.out)) : φ := h ⟨k⟩
theorem rq_Hg {φ ψ : Prop} (k : ψ) (h : Hide ψ → φ := by (intro k; (first | refine wq_pu (PuI.sep (by exact pv_Hg)) rfl ?_ | refine wq_yes rfl rfl ?_ | refine wq_no rfl rfl rfl ?_ | refine wq_off rfl rfl rfl ?_ | (fail)); exact k.out)) : φ := h ⟨k⟩
theorem sto_Hg {φ ψ : Prop} (k : ψ) (h : Hide ψ → φ := by (intro k; (first | refine sl_store rfl (by exact pick_) rfl rfl (by kernel_rfl) (by exact set_Hg) ?_ | refine sl_store_whole rfl (by exact pick_) rfl (by exact sz_Hg) (by exact sz_Hg) (by exact one_Hg) ?_); exact k.out)) : φ := h ⟨k⟩
theorem go_Hg {φ ψ : Prop} (k : ψ) (h : Hide ψ → φ := by (intro k; (repeat (first | refine su_Hg ?_ | refine so_ ?_ | refine sto_Hg ?_)); exact k.out)) : φ := h ⟨k⟩
set_option maxRecDepth 100000 in
theorem floor_ok {K : List Fa} {x : Nat} (hn : fnan x = false) : Fn Try.prog 33 #[.float .f64 x] K (Ret (fun _ : Unit => True) (fun _ => .float .f64 (floF x)) (fun _ => K)) := by
  refine fn_enter Try.func33 rfl _ Try.ntmps33 (by simp) [(0, .float .f64 x)] (args_of (by simp)) ?_
  refine go_Hg ?_
  refine sl_pu (pu_ext (cap := []) rfl rfl (fun W _ => run_floor hn W)) rfl ?_
  refine go_Hg ?_
  exact se_ret1 () trivial rfl rfl (by exact sub_)
set_option maxRecDepth 100000 in
theorem isInf_ok {K : List Fa} {x : Nat} (hx : x < 18446744073709551616) : Fn Try.prog 32 #[.float .f64 x, .int .i64 0] K (Ret (fun _ : Unit => True) (fun _ => .bool (fLt maxF (absF x))) (fun _ => K)) := by
  refine fn_enter Try.func32 rfl _ Try.ntmps32 (by simp) [(0, .float .f64 x), (1, .int .i64 0)] (args_of (by simp)) ?_
  refine go_Hg ?_
  refine sl_call rfl rfl (by kernel_rfl) rfl Sub.refl (abs_ok hx) ?_
  rintro _ -
  refine go_Hg ?_
  refine sl_pu (pu_fgt rfl rfl rfl) rfl ?_
  refine go_Hg ?_
  exact se_ret1 () trivial rfl rfl (by exact sub_)
end Go.Proofs.Ytidphdlhghgglaa
/- Histogram: over facts. -/
namespace Go.Proofs.Ytidphdlhghgglaa
open Go.RowKit
def iv (n : Nat) : Value := .int .i64 n
theorem made_i (n : Nat) : ((madeCells (Value.int .i64 0).cells (n * 1)).toList.take (n * 1)) = (List.replicate n 0).map iv := by
  rw [Nat.mul_one]
  have h1 : (madeCells (Value.int .i64 0).cells n).toList = List.replicate n (Value.int .i64 0) := by
    apply List.ext_getElem?
    intro i
    by_cases hi : i < n
    · simp [madeCells, Value.cells, hi, Nat.mod_one]
    · simp [madeCells, Value.cells, hi]
  rw [h1, List.take_of_length_le (by simp)]
  simp [iv]
theorem infoI : (Try.prog.info? 3).map (fun i => (i.zero, i.size, i.bytes)) = some (some (.int .i64 0), 1, 8) := by kernel_rfl
structure Hg where
  j : Nat
theorem iv_nth {l : List Nat} {j : Nat} (h : j < l.length) : nth (l.map iv) (j * 1) = some (.int .i64 (l.getD j 0 : Nat)) := by
  rw [nth_eq, Nat.mul_one]
  simp [iv, List.getD, h]
theorem iv_set (l : List Nat) (j c : Nat) : (l.map iv).set (j * 1) (.int .i64 (c : Int)) = (l.set j c).map iv := by
  rw [Nat.mul_one, List.map_set]
  rfl
theorem zero_nn : fnan 0 = false := nan_pos (by decide)
theorem fv_zero : fv 0 = 0 := by rw [fv_pos (by decide)]; decide
theorem nth_Hh {φ : Prop} (h : φ := by (first | rfl | assumption)) : φ := h
theorem mid_Hh {φ : Prop} (h : φ := by (first | exact Mid.all | exact Mid.all | exact Mid.head)) : φ := h
theorem sz_Hh {φ : Prop} (h : φ := by (first | rfl | (rfl; first | done | fail))) : φ := h
theorem one_Hh {φ : Prop} (h : φ := by (first | assumption | exact first | exact one_bytes _ | (simp only [List.mem_cons, List.not_mem_nil, or_false, forall_eq_or_imp, forall_eq]; decide) | exact one_bytes _)) : φ := h
theorem set_Hh {φ : Prop} (h : φ := by (first | (fail) | ((repeat (first | exact SetAt.here | apply SetAt.there)); first | done | fail))) : φ := h
theorem cl_Hh {φ : Prop} (h : φ := by first | rfl | exact .t | exact .f | exact .t (by omega) | exact .f (by omega) | exact .u | exact .i (by (first | exact .t (by omega) | exact .f (by omega) | exact .u | exact .i (by omega) | exact .v (by omega) | exact .b (by omega) | exact .w | rfl | omega)) | exact .v (by omega) | exact .b (by omega) | exact .q (by omega) | exact .w | exact .b (by exact at_) rfl (by exact nth_Hh) | exact .w (by exact at_) rfl rfl (by exact sz_Hh) | exact .s (by exact at_) (by exact mid_Hh) rfl rfl (by exact sz_Hh) | exact .z rfl rfl ⟨by kernel_rfl⟩ | exact .b rfl rfl ⟨by kernel_rfl⟩ | exact .a rfl rfl ⟨by kernel_rfl⟩ | exact .o rfl | exact .s | exact .n | exact .p rfl | exact .q rfl | exact .c rfl | exact .d rfl | exact .n rfl rfl (by omega) | exact .a rfl rfl (by omega) | exact .p rfl rfl (by omega) (by omega) | exact .y rfl rfl (by omega) (by omega) | exact .o (by exact at_) (by omega) rfl (by exact nth_Hh) | exact .m (by exact at_) (by omega) (by exact mid_Hh) rfl rfl (by exact sz_Hh) | exact .mlen (by exact at_) rfl | exact .t (by exact at_) rfl rfl (by first | exact True.intro | rfl) (by assumption) | exact .f (by exact at_) rfl rfl (by first | exact True.intro | rfl) (by assumption) rfl | exact .t1 (by exact at_) rfl rfl (by first | exact True.intro | rfl) (by assumption) | exact .f1 (by exact at_) rfl rfl (by first | exact True.intro | rfl) (by assumption) rfl | exact .r rfl rfl (by omega) (by omega) (by exact nth_Hh) rfl | exact .s rfl (by omega) (by assumption) | exact at_ | assumption | exact .r rfl rfl | exact .h rfl rfl rfl (by omega) | exact .l rfl rfl rfl (by omega) (by omega) | exact .g rfl rfl rfl rfl (by omega) (by omega) | exact .h rfl rfl (toN_ (by omega)) (by omega) | exact .l rfl rfl (toN_ (by omega)) (by omega) (by omega) | exact .g rfl rfl (toN_ (by omega)) (toN_ (by omega)) (by omega) (by omega) | exact .o (by decide) | exact .f (by decide) | exact .n (by omega) (by first | decide | (show _ ≤ ((64 : Nat) : Int); omega)) | (constructor; (repeat (first | exact .t (by omega) | exact .f (by omega) | exact .u | exact .i (by omega) | exact .v (by omega) | exact .b (by omega) | exact .w | rfl | omega)); first | done | fail) | omega | (show _ ≤ ((64 : Nat) : Int); omega)) : φ := h
theorem pv_Hh {φ : Prop} (h : φ := by constructor; (repeat exact cl_Hh); first | done | fail) : φ := h
theorem su_Hh {φ ψ : Prop} (k : ψ) (h : Hide ψ → φ := by (intro k; (first | refine sl_pu (PuI.sep (by exact pv_Hh)) rfl ?_ | refine sl_yes rfl rfl ?_ | refine sl_no rfl rfl rfl ?_ | refine sl_off rfl rfl rfl ?_ | (first | refine sl_pu (pu_fls rfl rfl (by with_reducible assumption)) rfl ?_ | refine sl_pu (pu_fsub rfl rfl (by with_reducible assumption)) rfl ?_ | refine sl_pu (pu_fmul rfl rfl (by with_reducible assumption)) rfl ?_ | refine sl_pu (pu_fdiv rfl rfl (by with_reducible assumption)) rfl ?_ | refine sl_pu (pu_fge rfl rfl (by with_reducible assumption)) rfl ?_ | refine sl_pu (pu_f2i rfl rfl rfl (by with_reducible assumption)) rfl ?_ | refine sl_pu (pu_i2f rfl rfl rfl) rfl ?_ | refine sl_pu (pu_ldo (by exact at_) (by omega) rfl (at1 _ _) rfl (by with_reducible assumption)) rfl ?_)); exact k.out)) : φ := h ⟨k⟩
theorem rq_Hh {φ ψ : Prop} (k : ψ) (h : Hide ψ → φ := by (intro k; (first | refine wq_pu (PuI.sep (by exact pv_Hh)) rfl ?_ | refine wq_yes rfl rfl ?_ | refine wq_no rfl rfl rfl ?_ | refine wq_off rfl rfl rfl ?_ | (fail)); exact k.out)) : φ := h ⟨k⟩
theorem sto_Hh {φ ψ : Prop} (k : ψ) (h : Hide ψ → φ := by (intro k; (first | refine sl_store rfl (by exact pick_) rfl rfl (by kernel_rfl) (by exact set_Hh) ?_ | refine sl_store_whole rfl (by exact pick_) rfl (by exact sz_Hh) (by exact sz_Hh) (by exact one_Hh) ?_); exact k.out)) : φ := h ⟨k⟩
theorem go_Hh {φ ψ : Prop} (k : ψ) (h : Hide ψ → φ := by (intro k; (repeat (first | refine su_Hh ?_ | refine so_ ?_ | refine sto_Hh ?_)); exact k.out)) : φ := h ⟨k⟩
set_option maxRecDepth 100000 in
set_option maxHeartbeats 4000000 in
theorem hist_bad {K : List Fa} {lo hi : Nat} {k : Int} {A : Option Addr} {n c : Nat} (hl : lo < 18446744073709551616) (hh : hi < 18446744073709551616) (hc : hCode lo hi k ≠ 0) : Fn Try.prog 17 #[.slice A n c, .float .f64 lo, .float .f64 hi, .int .i64 k] K (Ret (fun _ : Unit => True) (fun _ => .tuple #[.slice none 0 0, .int .i64 0, .int .i64 (hCode lo hi k)]) (fun _ => K)) := by
  refine fn_enter Try.func17 rfl _ Try.ntmps17 (by simp) [(0, .slice A n c), (1, .float .f64 lo), (2, .float .f64 hi), (3, .int .i64 k)] (args_of (by simp)) ?_
  refine go_Hh ?_
  refine sl_call rfl rfl (by kernel_rfl) rfl Sub.refl (fn_same (isNaN_c lo)) ?_
  rintro _ -
  cases h1 : fnan lo with
  | true =>
    rw [show hCode lo hi k = 28 by simp [hCode, h1]]
    refine go_Hh ?_
    exact se_ret3 () trivial rfl rfl rfl rfl rfl (by exact sub_)
  | false =>
  refine go_Hh ?_
  refine sl_call rfl rfl (by kernel_rfl) rfl Sub.refl (fn_same (isNaN_c hi)) ?_
  rintro _ -
  cases h2 : fnan hi with
  | true =>
    rw [show hCode lo hi k = 28 by simp [hCode, h2]]
    refine go_Hh ?_
    exact se_ret3 () trivial rfl rfl rfl rfl rfl (by exact sub_)
  | false =>
  cases h3 : fLt lo hi with
  | false =>
    rw [show hCode lo hi k = 6 by simp [hCode, h1, h2, h3]]
    refine go_Hh ?_
    exact se_ret3 () trivial rfl rfl rfl rfl rfl (by exact sub_)
  | true =>
  obtain ⟨wd, hwd, hwl⟩ := sub_lt2 ⟨hl, h1⟩ ⟨hh, h2⟩ h3
  have hab : absF wd = wd := Nat.mod_eq_of_lt hwl
  refine go_Hh ?_
  refine sl_call rfl rfl (by kernel_rfl) rfl Sub.refl (isInf_ok (by omega)) ?_
  rintro _ -
  rw [hab]
  cases h4 : fLt maxF wd with
  | true =>
    rw [show hCode lo hi k = 6 by simp [hCode, h1, h2, h3, h4, hwd]]
    refine go_Hh ?_
    exact se_ret3 () trivial rfl rfl rfl rfl rfl (by exact sub_)
  | false =>
  by_cases h5 : k < 1 ∨ 64 < k
  · rw [show hCode lo hi k = 9 by simp [hCode, h1, h2, h3, h4, hwd, h5]]
    by_cases h6 : k < 1
    · refine go_Hh ?_
      exact se_ret3 () trivial rfl rfl rfl rfl rfl (by exact sub_)
    · refine go_Hh ?_
      exact se_ret3 () trivial rfl rfl rfl rfl rfl (by exact sub_)
  · exact absurd (by simp [hCode, h1, h2, h3, h4, hwd, h5]) hc
set_option maxRecDepth 100000 in
set_option maxHeartbeats 4000000 in
theorem hist_ok {K : List Fa} {lo hi k wd : Nat} {A : Option Addr} {c : Nat} {xs : List Nat} (hr : Vw K (fun w => Reads w 1 A xs.length (xs.map fl))) (hb : ∀ x ∈ xs, x < 18446744073709551616) (hn : xs.length ≤ 4096)
    (hl : lo < 18446744073709551616) (hh : hi < 18446744073709551616) (hc : hCode lo hi k = 0) (hwd : subF hi lo = some wd) :
    Fn Try.prog 17 #[.slice A xs.length c, .float .f64 lo, .float .f64 hi, .int .i64 k] K (Ret (fun _ : Nat => True) (fun g => .tuple #[.slice (some ⟨g, 0, none⟩) k k, .int .i64 (histF lo wd k xs).2, .int .i64 0]) (fun g => own 3 1 (some ⟨g, 0, none⟩) k k ((histF lo wd k xs).1.map iv) :: K)) := by
  refine fn_enter Try.func17 rfl _ Try.ntmps17 (by simp) [(0, .slice A xs.length c), (1, .float .f64 lo), (2, .float .f64 hi), (3, .int .i64 k)] (args_of (by simp)) ?_
  obtain ⟨h1, h2, h3, ⟨hk1, hk2⟩, wd', hwd', hwl, hmx, ⟨sl, ml, il, hrl⟩, tw, nw, jw, hrw, hnw⟩ := hCode_0 hl hh hc
  obtain rfl : wd = wd' := by
    rw [hwd] at hwd'
    exact Option.some.inj hwd'
  clear hwd' hc
  have hab : absF wd = wd := Nat.mod_eq_of_lt hwl
  have hk3 : 0 < k ∧ k < 65 := by omega
  refine go_Hh ?_
  refine sl_call rfl rfl (by kernel_rfl) rfl Sub.refl (fn_same (isNaN_c lo)) ?_
  rintro _ -
  rw [h1]
  refine go_Hh ?_
  refine sl_call rfl rfl (by kernel_rfl) rfl Sub.refl (fn_same (isNaN_c hi)) ?_
  rintro _ -
  rw [h2]
  refine go_Hh ?_
  refine sl_call rfl rfl (by kernel_rfl) rfl Sub.refl (isInf_ok (by omega)) ?_
  rintro _ -
  rw [hab, hmx]
  refine go_Hh ?_
  refine sl_make (lo := .tmp 47) (i := default) (k := k) (c := k) (bytes := 8) (size := 1) (z := .int .i64 0) (e := 3) rfl rfl rfl infoI (Nat.le_refl _) (by omega) (by unfold maxLen; omega) rfl ?_
  intro g
  rw [made_i]
  refine go_Hh ?_
  refine sc_for (fun j : Nat => [(1, .float .f64 lo), (3, .int .i64 k), (11, .slice (some ⟨g, 0, none⟩) k k), (12, .int .i64 (histF lo wd k (xs.take j)).2), (13, .float .f64 wd), (52, .slice A xs.length c), (53, .int .i64 xs.length), (54, .int .i64 j)]) (fun j => own 3 1 (some ⟨g, 0, none⟩) k k ((histF lo wd k (xs.take j)).1.map iv) :: K) (fun j => j ≤ xs.length) (fun j => xs.length - j) 0 (by exact has_) (by exact sub_) (Nat.zero_le _) ?_
  rintro j hj
  by_cases hlt : j < xs.length
  case neg =>
    obtain rfl : j = xs.length := by omega
    rw [List.take_length]
    refine go_Hh ?_
    exact se_ret3 g trivial rfl rfl rfl rfl rfl (by exact sub_)
  have htk : xs.take (j + 1) = xs.take j ++ [xs[j]] := List.take_succ_eq_append_getElem hlt
  have hxb := hb _ (List.getElem_mem hlt)
  have hnx : nth (xs.map fl) (j * 1) = some (.float .f64 xs[j]) := by
    rw [nth_eq, Nat.mul_one, List.getElem?_map, List.getElem?_eq_getElem hlt]
    rfl
  obtain ⟨i1, i2, i3⟩ := hist_inv lo wd k _ (xs.take j) rfl
  rw [List.length_take, Nat.min_eq_left hj] at i2 i3
  have hsn := hist_snoc lo wd k (xs.take j) xs[j]
  rw [← htk] at hsn
  refine sc_know (vw_form (L := own 3 1 (some ⟨g, 0, none⟩) k k ((histF lo wd k (xs.take j)).1.map iv) :: K) (hr.mono (by exact sub_)) (by omega)) ?_
  rintro ⟨ad, rfl⟩
  generalize hH : histF lo wd k (xs.take j) = H at i1 i2 i3 hsn ⊢
  obtain ⟨cs, m⟩ := H
  dsimp only at i1 i2 i3 hsn ⊢
  refine go_Hh ?_
  refine sl_pu (pu_ldr (hr.mono (by exact sub_)) (by omega) rfl rfl hnx) rfl ?_
  refine go_Hh ?_
  refine sl_call rfl rfl (by kernel_rfl) rfl Sub.refl (fn_same (isNaN_c _)) ?_
  rintro _ -
  cases hx : fnan xs[j] with
  | true =>
    have hnew : histF lo wd k (xs.take (j + 1)) = (cs, m + 1) := by
      rw [hsn]
      unfold hStep
      rw [hx]
      rfl
    refine go_Hh ?_
    refine se_round (j + 1) (by rw [hnew]; exact has_) (by rw [hnew]; exact sub_) hlt (by omega)
  | false =>
    obtain ⟨d, q, e1, e2, e3, w3⟩ := y_ok ⟨hxb, hx⟩ hrl hrw hnw hk3.1 hk3.2
    have hfi := fiN_all k hk3.2
    have hsl := slot_lt (v := fv (yOf lo wd k xs[j])) hk3.1
    have hnew : histF lo wd k (xs.take (j + 1)) = (cs.set (slotN (fv (yOf lo wd k xs[j])) k) (cs.getD (slotN (fv (yOf lo wd k xs[j])) k) 0 + 1), m) := by
      rw [hsn]
      unfold hStep
      rw [hx]
      rfl
    have hget : ∀ s, cs.getD s 0 ≤ j := fun s => by
      unfold List.getD
      cases hz : cs[s]? with
      | none => exact Nat.zero_le _
      | some c => exact i2 c (List.mem_of_getElem? hz)
    rw [← i2f_fiN] at e3 hfi
    generalize hy : yOf lo wd k xs[j] = y at e3 w3 hsl hnew ⊢
    refine go_Hh ?_
    refine sl_call rfl rfl (by kernel_rfl) rfl Sub.refl (floor_ok w3.nn) ?_
    rintro _ -
    refine go_Hh ?_
    by_cases hv0 : fv y < 0
    · have hs0 : slotN (fv y) k = 0 := by unfold slotN; rw [if_pos hv0]
      obtain ⟨f1, f2⟩ := floF_neg w3.lt w3.nn hv0
      have f3 : fLt (floF y) 0 = true := by
        rw [fLt_of f1 zero_nn, fv_zero, decide_eq_true_eq]
        exact f2
      have hnc := iv_nth (l := cs) (j := 0) (by omega)
      have hgc := hget 0
      rw [hs0] at hnew
      refine go_Hh ?_
      refine sl_sto2 rfl (at1 _ _) (by exact pick_) rfl rfl rfl (by omega) ?_
      rw [show ((cs.getD 0 0 : Nat) : Int) + 1 = ((cs.getD 0 0 + 1 : Nat) : Int) by omega, iv_set]
      refine go_Hh ?_
      exact se_round (j + 1) (by rw [hnew]; exact has_) (by rw [hnew]; exact sub_) hlt (by omega)
    by_cases hv1 : (k * uN : Nat) ≤ fv y
    · have hs0 : slotN (fv y) k = k - 1 := by unfold slotN; rw [if_neg hv0, if_pos hv1]
      obtain ⟨f1, f2⟩ := floF_ge w3.lt w3.nn (by omega) hk3.1 hv1
      have hu := Int.natCast_nonneg (k * uN)
      have f3 : fLt (floF y) 0 = false := by
        rw [fLt_of f1 zero_nn, fv_zero, decide_eq_false_iff_not]
        omega
      have f4 : (fLt (floatOfInt .f64 (k : Int)) (floF y) || fEq (floF y) (floatOfInt .f64 (k : Int))) = true := by
        rw [fGe_of f1 (nan_pos hfi.2), hfi.1, decide_eq_true_eq]
        exact f2
      have hnc := iv_nth (l := cs) (j := k - 1) (by omega)
      rw [show k - 1 = ((k : Int) - 1).toNat by omega] at hnc
      have hgc := hget ((k : Int) - 1).toNat
      rw [hs0, show k - 1 = ((k : Int) - 1).toNat by omega] at hnew
      refine go_Hh ?_
      refine sl_sto2 rfl (at1 _ _) (by exact pick_) rfl rfl rfl (by omega) ?_
      rw [show ((cs.getD ((k : Int) - 1).toNat 0 : Nat) : Int) + 1 = ((cs.getD ((k : Int) - 1).toNat 0 + 1 : Nat) : Int) by omega, iv_set]
      refine go_Hh ?_
      exact se_round (j + 1) (by rw [hnew]; exact has_) (by rw [hnew]; exact sub_) hlt (by omega)
    have hs0 : slotN (fv y) k = (fv y).toNat / uN := by unfold slotN; rw [if_neg hv0, if_neg hv1]
    obtain ⟨s, hs⟩ : ∃ s, (fv y).toNat / uN = s := ⟨_, rfl⟩
    have hsk : s < k := by omega
    have hu := uN_pos
    have hq1 := Nat.div_mul_le_self (fv y).toNat uN
    have hq2 := Nat.lt_div_mul_add (a := (fv y).toNat) hu
    rw [hs] at hq1 hq2 hs0
    have hsu : (s + 1) * uN = s * uN + uN := Nat.succ_mul _ _
    have hfl : fLt (floF y) 0 = false ∧ (fLt (floatOfInt .f64 (k : Int)) (floF y) || fEq (floF y) (floatOfInt .f64 (k : Int))) = false ∧ floatToIntVal .f64 (floF y) .i64 = some (s : Int) := by
      rcases floF_in (j := s) w3.lt w3.nn (by omega) (by omega) (by omega) with e | ⟨e0, -, e⟩
      · obtain ⟨g1, g2⟩ := fiN_all s (by omega)
        have := Int.natCast_nonneg (s * uN)
        have h9 : s * uN < k * uN := Nat.mul_lt_mul_of_pos_right hsk hu
        rw [e]
        refine ⟨?_, ?_, f2i_all s (by omega)⟩
        · rw [fLt_of (nan_pos g2) zero_nn, fv_zero, g1, decide_eq_false_iff_not]
          omega
        · rw [fGe_of (nan_pos g2) (nan_pos hfi.2), hfi.1, g1, decide_eq_false_iff_not]
          omega
      · subst e0
        have h8 : fv 9223372036854775808 = 0 := by
          have := fv_neg (r := 0) (by decide)
          rw [show 9223372036854775808 + 0 = 9223372036854775808 from rfl, show fvR 0 = 0 by decide] at this
          exact this
        have h7 : fnan 9223372036854775808 = false := nan_neg (r := 0) (by decide)
        have h9 : 0 < k * uN := Nat.mul_pos hk3.1 hu
        rw [e]
        refine ⟨?_, ?_, f2i_m0⟩
        · rw [fLt_of h7 zero_nn, fv_zero, h8]
          rfl
        · rw [fGe_of h7 (nan_pos hfi.2), hfi.1, h8, decide_eq_false_iff_not]
          omega
    obtain ⟨f3, f4, f5⟩ := hfl
    have hnc := iv_nth (l := cs) (j := s) (by omega)
    have hgc := hget s
    rw [hs0] at hnew
    refine go_Hh ?_
    refine sl_sto2 rfl (at1 _ _) (by exact pick_) rfl rfl rfl (by omega) ?_
    rw [show ((cs.getD s 0 : Nat) : Int) + 1 = ((cs.getD s 0 + 1 : Nat) : Int) by omega, iv_set]
    refine go_Hh ?_
    exact se_round (j + 1) (by rw [hnew]; exact has_) (by rw [hnew]; exact sub_) hlt (by omega)
end Go.Proofs.Ytidphdlhghgglaa
/- A function's walk in parts: a piece of its code, what comes behind it left open. No program is in sight. -/
namespace Go.Proofs.Ytidphdlhghgglaa
open Go.RowKit
/-- A function's code. -/
def fb (f : Func) : Code := match f.body with
  | some c => c
  | none => .skip
/-- A piece of a code: true is the first of two, or the only one. -/
def cAt : List Bool → Code → Code
  | [], c => c
  | true :: r, .seq a _ => cAt r a
  | false :: r, .seq _ b => cAt r b
  | true :: r, .cond _ a _ => cAt r a
  | false :: r, .cond _ _ b => cAt r b
  | _ :: r, .block _ a => cAt r a
  | _ :: r, .loop a => cAt r a
  | _ :: r, .scope a => cAt r a
  | _, c => c
section
variable {P : Program} {Q : Exit → Act → World → Prop} {n : Nat} {l : Env} {L : List Fa} {x y : Code} {α : Type} {E : α → Env} {H : α → List Fa} {R : α → Prop} {id : Nat}
theorem se_mono {l l' : Env} {L L' : List Fa} {e : Exit} (h : SE Q e n l' L') (hl : Has l l') (hs : Sub L L') : SE Q e n l L := se_of fun w hw => WE.mk fun a ha => (h.to (hw.sub hs)).get (ha.sub hl.sub)
/-- How a piece ends: one of the states that are told. -/
abbrev Ends (n : Nat) (Q : Exit → Act → World → Prop) (e : Exit) (E : α → Env) (H : α → List Fa) (R : α → Prop) : Prop := ∀ (p : α) {l : Env} {L : List Fa}, R p → Has l (E p) → Sub L (H p) → SE Q e n l L
/-- A piece within its block, and what stands behind the block. -/
theorem sc_bpart (hp : ∀ Q', NoP Q' → Ends n Q' .normal E H R → SC P x Q' n l L) (hN : NoP (Exit.inBlock id (Exit.then (fun a w => y.wp P Q a w) Q))) (hy : ∀ p, R p → SC P y Q n (E p) (H p)) : SC P x (Exit.inBlock id (Exit.then (fun a w => y.wp P Q a w) Q)) n l L :=
  hp _ hN fun p _ _ hR hl hs => se_mono (se_block (se_seq (hy p hR))) hl hs
/-- A piece that leaves its block, and what stands behind the block. -/
theorem sc_xpart (hp : ∀ Q', NoP Q' → Ends n Q' (.exit id) E H R → SC P x Q' n l L) (hN : NoP (Exit.inBlock id (Exit.then (fun a w => y.wp P Q a w) Q))) (hy : ∀ p, R p → SC P y Q n (E p) (H p)) : SC P x (Exit.inBlock id (Exit.then (fun a w => y.wp P Q a w) Q)) n l L :=
  hp _ hN fun p _ _ hR hl hs => se_mono (se_block_hit (se_seq (hy p hR))) hl hs
/-- A piece, and what stands behind it. -/
theorem sc_spart (hp : ∀ Q', NoP Q' → Ends n Q' .normal E H R → SC P x Q' n l L) (hN : NoP (Exit.then (fun a w => y.wp P Q a w) Q)) (hy : ∀ p, R p → SC P y Q n (E p) (H p)) : SC P x (Exit.then (fun a w => y.wp P Q a w) Q) n l L :=
  hp _ hN fun p _ _ hR hl hs => se_mono (se_seq (hy p hR)) hl hs
end
theorem star2 {a b : Fa} {K : List Fa} : Ent_ (a :: b :: K) (star [a, b] :: K) := fun w hw => star_in (G := [a, b]) w hw
theorem star2_out {a b c : Fa} : Ent_ [star [a, b], c] [b, c] := fun w hw => (star_out (G := [a, b]) (K := [c]) w hw).sub (.skip .refl)
theorem star2_hd {a b c : Fa} : Ent_ [star [a, b], c] [a] := fun w hw => (star_out (G := [a, b]) (K := [c]) w hw).sub (.cons .here (.skip (.skip .refl)))
end Go.Proofs.Ytidphdlhghgglaa
