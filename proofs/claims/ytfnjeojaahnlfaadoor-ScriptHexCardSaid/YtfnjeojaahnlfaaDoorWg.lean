/- The plain side of a script's lines: cut into lines, into words; what they say. No program is in sight. -/
import Derived.Test.YtfnjeojaahnlfaaDoorWc
import Derived.Lib.SplitLaws
import Derived.Lib.FieldsLaws
import Derived.Lib.IndexLaws
namespace Go.Proofs.YtfnjeojaahnlfaaDoor
open Go.RowKit
theorem index_none {c : UInt8} : ∀ {a : List UInt8}, c ∉ a → Lib.index a [c] = -1
  | [], _ => rfl
  | b :: a, h => by
    have h1 : c ≠ b := fun e => h (by simp [e])
    have h2 := index_none (a := a) (fun e => h (List.mem_cons_of_mem _ e))
    unfold Lib.index
    simp [h1, h2]
theorem index_at {c : UInt8} {r : List UInt8} : ∀ {a : List UInt8}, c ∉ a → Lib.index (a ++ c :: r) [c] = (a.length : Nat)
  | [], _ => by
    rw [List.nil_append]
    unfold Lib.index
    simp
  | b :: a, h => by
    have h1 : c ≠ b := fun e => h (by simp [e])
    have h2 := index_at (r := r) (a := a) (fun e => h (List.mem_cons_of_mem _ e))
    rw [List.cons_append]
    unfold Lib.index
    rw [h2]
    have h3 : ¬ ((a.length : Int) = -1) := by omega
    simp [h1, h3]
def linesL (l : List UInt8) : List (List UInt8) := Lib.split l [10]
theorem linesL_one {a : List UInt8} (h : (10 : UInt8) ∉ a) : linesL a = [a] := by
  unfold linesL Lib.split
  rw [Lib.count_miss (index_none h)]
  rfl
theorem linesL_cons {a r : List UInt8} (h : (10 : UInt8) ∉ a) : linesL (a ++ 10 :: r) = a :: linesL r := by
  unfold linesL Lib.split
  have hi := index_at (r := r) h
  have hd : (a ++ 10 :: r).drop (a.length + [(10 : UInt8)].length) = r := by simp
  have hc := Lib.count_hit (s := a ++ 10 :: r) (sub := [10]) (i := a.length) (by simp) hi
  rw [hd] at hc
  rw [hc, Nat.add_comm 1, Lib.splitK, hi]
  have h3 : ¬ (((a.length : Nat) : Int) == -1) = true := by simp
  rw [if_neg h3]
  simp
theorem splitK_sub (sep : List UInt8) : ∀ (k : Nat) (l x : List UInt8), x ∈ Lib.splitK sep 0 k l → x.length ≤ l.length ∧ ∀ b ∈ x, b ∈ l
  | 0, l, x, h => by
    simp [Lib.splitK] at h
    subst h
    exact ⟨Nat.le_refl _, fun _ h => h⟩
  | k + 1, l, x, h => by
    unfold Lib.splitK at h
    split at h
    · simp at h
      subst h
      exact ⟨Nat.le_refl _, fun _ h => h⟩
    · rcases List.mem_cons.1 h with e | e
      · subst e
        exact ⟨by rw [List.length_take]; omega, fun b hb => List.mem_of_mem_take hb⟩
      · obtain ⟨h1, h2⟩ := splitK_sub sep k _ x e
        exact ⟨by rw [List.length_drop] at h1; omega, fun b hb => List.mem_of_mem_drop (h2 b hb)⟩
theorem linesL_sub {l x : List UInt8} (h : x ∈ linesL l) : x.length ≤ l.length ∧ ∀ b ∈ x, b ∈ l := splitK_sub _ _ _ _ h
theorem cut_sub (l : List UInt8) : (Lib.cut l [35]).1.length ≤ l.length ∧ ∀ b ∈ (Lib.cut l [35]).1, b ∈ l := by
  unfold Lib.cut
  split
  · exact ⟨by rw [List.length_take]; omega, fun b hb => List.mem_of_mem_take hb⟩
  · exact ⟨Nat.le_refl _, fun _ h => h⟩
theorem cut_none {l : List UInt8} (h : (35 : UInt8) ∉ l) : (Lib.cut l [35]).1 = l := by
  unfold Lib.cut
  rw [index_none h]
  rfl
theorem fieldsGo_words {rest : List UInt8} : ∀ {a : List UInt8} (cur : List UInt8), (∀ b ∈ a, Lib.isSp b = false) → Lib.fieldsGo cur (a ++ rest) = Lib.fieldsGo (cur ++ a) rest
  | [], cur, _ => by simp
  | b :: a, cur, h => by
    rw [List.cons_append, Lib.fieldsGo_more _ _ _ (h b (List.mem_cons_self ..)), fieldsGo_words (cur ++ [b]) (fun x hx => h x (List.mem_cons_of_mem _ hx)), List.append_assoc]
    rfl
theorem fields_one {a : List UInt8} (h0 : a ≠ []) (h : ∀ b ∈ a, Lib.isSp b = false) : Lib.fieldsGo [] a = [a] := by
  have := fieldsGo_words (rest := []) [] h
  rw [List.append_nil] at this
  rw [this, List.nil_append, Lib.fieldsGo]
  cases a with
  | nil => exact absurd rfl h0
  | cons _ _ => rfl
theorem fields_two {a b : List UInt8} (h0 : a ≠ []) (h : ∀ x ∈ a, Lib.isSp x = false) (g0 : b ≠ []) (g : ∀ x ∈ b, Lib.isSp x = false) : Lib.fields (a ++ 32 :: b) = [a, b] := by
  unfold Lib.fields
  rw [fieldsGo_words [] h, List.nil_append, Lib.fieldsGo_end _ _ _ (by rfl) h0, fields_one g0 g]
theorem fieldsGo_sub : ∀ (l cur x : List UInt8), x ∈ Lib.fieldsGo cur l → x.length ≤ cur.length + l.length
  | [], cur, x, h => by
    unfold Lib.fieldsGo at h
    split at h
    · cases h
    · simp at h
      subst h
      simp
  | b :: l, cur, x, h => by
    unfold Lib.fieldsGo at h
    split at h
    · split at h
      · have := fieldsGo_sub l [] x h
        simp at this ⊢
        omega
      · rcases List.mem_cons.1 h with e | e
        · subst e
          simp
        · have := fieldsGo_sub l [] x e
          simp at this ⊢
          omega
    · have := fieldsGo_sub l _ x h
      simp at this ⊢
      omega

theorem lineL_eq (l : List UInt8) : lineL l = (linesL l).map sOf := by
  have h := Lib.splitB_data ⟨#[10]⟩ 0 (Lib.countB (sOf l) ⟨#[10]⟩) (sOf l)
  have h2 : (lineL l).map (·.data.toList) = linesL l := h
  rw [← h2, List.map_map]
  conv => lhs; rw [← List.map_id (lineL l)]
  exact List.map_congr_left fun x _ => (Lib.mk_data x).symm
theorem prL_digits (n : Nat) : ∀ c ∈ prL n, 48 ≤ c.toNat ∧ c.toNat ≤ 57 := by
  induction n using Nat.strongRecOn with
  | _ n ih =>
    intro c hc
    by_cases h : 9 < n
    · rw [prL_hi h] at hc
      rcases List.mem_append.1 hc with e | e
      · exact ih _ (by omega) c e
      · exact ih _ (by omega) c e
    · rw [prL_lo h] at hc
      simp only [List.mem_singleton] at hc
      subst hc
      rw [UInt8.toNat_ofNat']
      omega
theorem isSp_digit {c : UInt8} (h : 48 ≤ c.toNat ∧ c.toNat ≤ 57) : Lib.isSp c = false := by
  have hall : ∀ n, n < 58 → 48 ≤ n → Lib.isSp (UInt8.ofNat n) = false := by decide
  have := hall c.toNat (by omega) h.1
  rwa [UInt8.ofNat_toNat] at this
/-- What a line's words say. -/
def wordSt : List (List UInt8) → Option (List St0)
  | [] => some []
  | [t] => if t = lTick then some [tSt] else none
  | [t, x] => if t = lTick ∧ (numL x 4096).2 = true then some (List.replicate (numL x 4096).1 tSt) else none
  | [c, h, x] => if c = lCrash ∧ h = lHelper ∧ (numL x 1048576).2 = true then some [⟨7, 1, (numL x 1048576).1⟩] else none
  | _ => none
def wordsOf (l : List UInt8) : List (List UInt8) := Lib.fields (Lib.cut l [35]).1
def txtSt (l : List UInt8) : Option (List St0) := wordSt (wordsOf l)
def prsL : List (List UInt8) → Nat → List St0 → List St0 × Nat × Nat
  | [], _, acc => (acc, 0, 0)
  | l :: r, i, acc => if 4096 < acc.length + ((txtSt l).getD []).length then ([], i + 1, 5) else prsL r (i + 1) (acc ++ (txtSt l).getD [])
/-! The two texts. -/
def exT : List UInt8 := [116, 105, 99, 107, 32, 51, 10, 99, 114, 97, 115, 104, 32, 104, 101, 108, 112, 101, 114, 32, 53, 32, 35, 32, 120, 10]
theorem exT_lines : linesL exT = [[116, 105, 99, 107, 32, 51], [99, 114, 97, 115, 104, 32, 104, 101, 108, 112, 101, 114, 32, 53, 32, 35, 32, 120], []] := by
  rw [show exT = [116, 105, 99, 107, 32, 51] ++ 10 :: ([99, 114, 97, 115, 104, 32, 104, 101, 108, 112, 101, 114, 32, 53, 32, 35, 32, 120] ++ 10 :: []) from rfl, linesL_cons (by decide), linesL_cons (by decide), linesL_one (by decide)]
theorem ex1 : txtSt [116, 105, 99, 107, 32, 51] = some [tSt, tSt, tSt] := by rfl
theorem ex2 : txtSt [99, 114, 97, 115, 104, 32, 104, 101, 108, 112, 101, 114, 32, 53, 32, 35, 32, 120] = some [⟨7, 1, 5⟩] := by rfl
theorem txt_nil : txtSt [] = some [] := by rfl
theorem txt_tick : txtSt lTick = some [tSt] := by rfl
theorem exT_prs : prsL (linesL exT) 0 [] = ([tSt, tSt, tSt, ⟨7, 1, 5⟩], 0, 0) := by
  rw [exT_lines]
  simp only [prsL, ex1, ex2, txt_nil, Option.getD_some]
  rfl
def manyT (k : Nat) : List UInt8 := lTick ++ 32 :: (prL k ++ 10 :: (lTick ++ 10 :: []))
theorem not_mem_of_digits {c : UInt8} (hc : c.toNat < 48) (k : Nat) : c ∉ prL k := fun h => by
  have := prL_digits k c h
  omega
theorem manyT_lines (k : Nat) : linesL (manyT k) = [lTick ++ 32 :: prL k, lTick, []] := by
  have h : manyT k = (lTick ++ 32 :: prL k) ++ 10 :: (lTick ++ 10 :: []) := by simp [manyT]
  have hn : (10 : UInt8) ∉ lTick ++ 32 :: prL k := by
    have := not_mem_of_digits (c := 10) (by decide) k
    simp [this]
  rw [h, linesL_cons hn, linesL_cons (by decide), linesL_one (by decide)]
theorem txt_many {k : Nat} (hk : k ≤ 4096) : txtSt (lTick ++ 32 :: prL k) = some (List.replicate k tSt) := by
  have hn : (35 : UInt8) ∉ lTick ++ 32 :: prL k := by
    have := not_mem_of_digits (c := 35) (by decide) k
    simp [this]
  have hp := prL_len_pos k
  have hf : Lib.fields (lTick ++ 32 :: prL k) = [lTick, prL k] := fields_two (by decide) (by decide) (fun e => by rw [e] at hp; simp at hp) (fun x hx => isSp_digit (prL_digits k x hx))
  have hnum := numL_prL (n := k) (by omega) 4096
  rw [if_pos (by omega), decide_eq_true hk] at hnum
  unfold txtSt wordsOf
  rw [cut_none hn, hf]
  simp only [wordSt, hnum]
  rfl
theorem many_prs {k : Nat} (hk : k ≤ 4096) : prsL (linesL (manyT k)) 0 [] = if k = 4096 then ([], 2, 5) else (List.replicate (k + 1) tSt, 0, 0) := by
  rw [manyT_lines]
  simp only [prsL, txt_many hk, txt_tick, txt_nil, Option.getD_some, List.length_nil, List.length_replicate, List.nil_append, List.length_append, List.length_cons, Nat.zero_add]
  rw [if_neg (by omega)]
  by_cases h : k = 4096
  · rw [if_pos (by omega), if_pos h]
  · rw [if_neg (by omega), if_neg (by omega), if_neg h, List.append_nil, List.replicate_succ']
end Go.Proofs.YtfnjeojaahnlfaaDoor
