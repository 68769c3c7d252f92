/- The plain side of chapter 28: numbers and bytes as texts, and back. No program is in sight. -/
import Derived.Test.YtfnjeojaahnlfaaDoorVw1
import Derived.Lib.Bytealg
namespace Go.Proofs.YtfnjeojaahnlfaaDoor
open Go.RowKit
/-- The digits of a number. -/
def prL (n : Nat) : List UInt8 := (prt n).data.toList
theorem prL_hi {n : Nat} (h : 9 < n) : prL n = prL (n / 10) ++ prL (n % 10) := by
  unfold prL
  rw [prt, dif_pos h]
  simp
theorem prL_lo {n : Nat} (h : ¬ 9 < n) : prL n = [UInt8.ofNat (48 + n)] := by
  unfold prL
  rw [prt, dif_neg h]
  simp only [strOfNums, List.map_cons, List.map_nil]
  rw [show ((48 : Int) + n).toNat = 48 + n from by omega]
def numGo : List UInt8 → Nat → Option Nat
  | [], a => some a
  | c :: r, a => if c.toNat < 48 ∨ 57 < c.toNat then none else numGo r (a * 10 + (c.toNat - 48))
theorem numGo_app : ∀ (x y : List UInt8) (a : Nat), numGo (x ++ y) a = (numGo x a).bind (numGo y)
  | [], y, a => rfl
  | c :: r, y, a => by
    simp only [List.cons_append, numGo]
    split
    · rfl
    · exact numGo_app r y _
theorem prL_len_pos (n : Nat) : 0 < (prL n).length := by
  induction n using Nat.strongRecOn with
  | _ n ih =>
    by_cases h : 9 < n
    · rw [prL_hi h, List.length_append]
      have := ih (n / 10) (by omega)
      omega
    · rw [prL_lo h]
      simp
theorem numGo_prL (n : Nat) : numGo (prL n) 0 = some n := by
  induction n using Nat.strongRecOn with
  | _ n ih =>
    by_cases h : 9 < n
    · rw [prL_hi h, numGo_app, ih (n / 10) (by omega), prL_lo (n := n % 10) (by omega)]
      simp [numGo]
      have : (48 + n % 10) % 256 = 48 + n % 10 := by omega
      omega
    · rw [prL_lo h]
      simp [numGo]
      omega
theorem prL_len : ∀ (k n : Nat), 10 ^ k ≤ n ∨ k = 0 → n < 10 ^ (k + 1) → (prL n).length = k + 1
  | 0, n, _, h => by
    rw [prL_lo (by omega)]
    rfl
  | k + 1, n, h, h2 => by
    have h : 10 ^ (k + 1) ≤ n := by omega
    rw [Nat.pow_succ] at h
    rw [Nat.pow_succ] at h2
    have hp : 0 < 10 ^ k := Nat.pow_pos (by decide)
    rw [prL_hi (by omega), List.length_append, prL_lo (n := n % 10) (by omega), prL_len k (n / 10) (by omega) (by omega)]
    rfl
theorem prL_19 {n : Nat} (h : n ≤ 18446744073709551615) : (prL n).length ≤ 19 ↔ n < 10000000000000000000 := by
  have key : ∀ k, k ≤ 19 → 10 ^ k ≤ n ∨ k = 0 → n < 10 ^ (k + 1) → ((prL n).length ≤ 19 ↔ n < 10000000000000000000) := by
    intro k hk h1 h2
    rw [prL_len k n h1 h2]
    by_cases hk' : k = 19
    · subst hk'
      omega
    · have : 10 ^ (k + 1) ≤ 10 ^ 19 := Nat.pow_le_pow_right (by decide) (by omega)
      omega
  have ex : ∀ m, n < 10 ^ (m + 1) → ∃ k, k ≤ m ∧ (10 ^ k ≤ n ∨ k = 0) ∧ n < 10 ^ (k + 1) := by
    intro m
    induction m with
    | zero => exact fun h => ⟨0, by omega, .inr rfl, h⟩
    | succ m ih =>
      intro hm
      by_cases hh : n < 10 ^ (m + 1)
      · obtain ⟨k, h1, h2, h3⟩ := ih hh
        exact ⟨k, by omega, h2, h3⟩
      · exact ⟨m + 1, Nat.le_refl _, .inl (by omega), hm⟩
  obtain ⟨k, h1, h2, h3⟩ := ex 19 (by omega)
  exact key k h1 h2 h3
theorem prL_head (n : Nat) (h : 0 < n) : ∃ c r, prL n = c :: r ∧ c ≠ 48 := by
  induction n using Nat.strongRecOn with
  | _ n ih =>
    by_cases h9 : 9 < n
    · obtain ⟨c, r, h1, h2⟩ := ih (n / 10) (by omega) (by omega)
      exact ⟨c, r ++ prL (n % 10), by rw [prL_hi h9, h1]; rfl, h2⟩
    · refine ⟨_, [], prL_lo h9, fun e => ?_⟩
      have := congrArg UInt8.toNat e
      simp at this
      omega
def numR (o : Option Nat) (most : Nat) : Nat × Bool := match o with
  | none => (0, false)
  | some n => (n, decide (n ≤ most))
/-- What Number answers: the number, and whether it is one up to the other. -/
def numL (l : List UInt8) (most : Nat) : Nat × Bool :=
  if l.length < 1 ∨ 19 < l.length ∨ (1 < l.length ∧ l[0]? = some 48) then (0, false)
  else numR (numGo l 0) most
theorem numL_prL {n : Nat} (h : n ≤ 18446744073709551615) (most : Nat) : numL (prL n) most = if n < 10000000000000000000 then (n, decide (n ≤ most)) else (0, false) := by
  have hp := prL_len_pos n
  have h19 := prL_19 h
  have hz : ¬ (1 < (prL n).length ∧ (prL n)[0]? = some 48) := by
    rintro ⟨h1, h2⟩
    by_cases h0 : 0 < n
    · obtain ⟨c, r, e, hc⟩ := prL_head n h0
      rw [e] at h2
      simp at h2
      exact hc h2
    · rw [prL_lo (by omega)] at h1
      simp at h1
  unfold numL
  by_cases hl : n < 10000000000000000000
  · rw [if_neg (by rintro (h | h | h); omega; omega; exact hz h), if_pos hl, numGo_prL]
    rfl
  · rw [if_pos (by omega), if_neg hl]
/-- A digit of base sixteen, or -1. -/
def hx (c : UInt8) : Int := if 48 ≤ c.toNat ∧ c.toNat ≤ 57 then c.toNat - 48 else if 97 ≤ c.toNat ∧ c.toNat ≤ 102 then c.toNat - 87 else -1
def okc (c : UInt8) : Bool := decide (48 ≤ c.toNat ∧ c.toNat ≤ 57) || decide (97 ≤ c.toNat ∧ c.toNat ≤ 102)
theorem hx_ok (c : UInt8) : okc c = decide (0 ≤ hx c) := by
  unfold okc hx
  by_cases h : 48 ≤ c.toNat ∧ c.toNat ≤ 57
  · have : (0 : Int) ≤ c.toNat - 48 := by omega
    simp [h]
    omega
  · by_cases h' : 97 ≤ c.toNat ∧ c.toNat ≤ 102
    · have : (0 : Int) ≤ c.toNat - 87 := by omega
      simp [h, h']
      omega
    · simp [h, h']
theorem hx_lt (c : UInt8) : hx c < 16 ∧ -1 ≤ hx c := by
  unfold hx
  split
  · omega
  · split <;> omega
theorem dig_hx {c : UInt8} (h : 0 ≤ hx c) : UInt8.ofNat (dig (hx c)).toNat = c := by
  apply UInt8.toNat_inj.1
  rw [UInt8.toNat_ofNat']
  have := c.toNat_lt
  unfold hx at h ⊢
  unfold dig
  split at h
  · rename_i h1
    rw [if_pos h1, if_pos (by omega)]
    omega
  · rename_i h1
    split at h
    · rename_i h2
      rw [if_neg h1, if_pos h2, if_neg (by omega)]
      omega
    · omega
theorem hx_dig {j : Int} (h0 : 0 ≤ j) (h : j < 16) : hx (UInt8.ofNat (dig j).toNat) = j := by
  unfold hx dig
  rw [UInt8.toNat_ofNat']
  split
  · rw [if_pos (by omega)]
    omega
  · rw [if_neg (by omega), if_pos (by omega)]
    omega
def unGo : List UInt8 → Option (List Int)
  | a :: b :: r => if hx a < 0 ∨ hx b < 0 then none else (unGo r).map fun l => (16 * hx a + hx b) :: l
  | _ => some []
theorem unGo_hexL : ∀ (bs : List Int), IsBytes bs → unGo (u8s (hexL bs)) = some bs
  | [], _ => rfl
  | b :: r, h => by
    have hb := h b (List.mem_cons_self ..)
    have ih := unGo_hexL r (fun x hx => h x (List.mem_cons_of_mem _ hx))
    show unGo (UInt8.ofNat (dig (b / 16)).toNat :: UInt8.ofNat (dig (b % 16)).toNat :: u8s (hexL r)) = _
    rw [unGo, hx_dig (by omega) (by omega), hx_dig (by omega) (by omega), if_neg (by omega), ih]
    simp
    omega
theorem hexL_unGo : ∀ (n : Nat) (l : List UInt8) (bs : List Int), l.length = 2 * n → unGo l = some bs → u8s (hexL bs) = l ∧ IsBytes bs ∧ bs.length = n
  | 0, l, bs, hl, h => by
    obtain rfl : l = [] := List.eq_nil_of_length_eq_zero (by omega)
    simp only [unGo, Option.some.injEq] at h
    subst h
    exact ⟨rfl, fun _ h => (by cases h), rfl⟩
  | n + 1, a :: b :: r, bs, hl, h => by
    rw [unGo] at h
    split at h
    · cases h
    · rename_i hab
      cases hr : unGo r with
      | none => rw [hr] at h; cases h
      | some l =>
        rw [hr] at h
        simp only [Option.map_some, Option.some.injEq] at h
        subst h
        have h1 := hx_lt a
        have h2 := hx_lt b
        obtain ⟨i1, i2, i3⟩ := hexL_unGo n r l (by simp at hl; omega) hr
        refine ⟨?_, fun x hx' => ?_, by simp [i3]⟩
        · show UInt8.ofNat (dig ((16 * hx a + hx b) / 16)).toNat :: UInt8.ofNat (dig ((16 * hx a + hx b) % 16)).toNat :: u8s (hexL l) = _
          rw [show (16 * hx a + hx b) / 16 = hx a from by omega, show (16 * hx a + hx b) % 16 = hx b from by omega, dig_hx (by omega), dig_hx (by omega), i1]
        · rcases List.mem_cons.1 hx' with e | e
          · omega
          · exact i2 x e
  | n + 1, [], bs, hl, h => by simp at hl
  | n + 1, [a], bs, hl, h => by simp at hl; omega
theorem unGo_none : ∀ (n : Nat) (l : List UInt8), l.length = 2 * n → (unGo l = none ↔ l.all okc = false)
  | 0, l, hl => by
    obtain rfl : l = [] := List.eq_nil_of_length_eq_zero (by omega)
    simp [unGo]
  | n + 1, a :: b :: r, hl => by
    rw [unGo]
    have ih := unGo_none n r (by simp at hl; omega)
    have ha := hx_ok a
    have hb := hx_ok b
    by_cases h : hx a < 0 ∨ hx b < 0
    · rw [if_pos h]
      have : okc a = false ∨ okc b = false := by
        rcases h with h | h
        · left; rw [ha]; simp; omega
        · right; rw [hb]; simp; omega
      simp only [List.all_cons, true_iff]
      rcases this with h | h <;> simp [h]
    · rw [if_neg h]
      have h1 : okc a = true := by rw [ha]; simp; omega
      have h2 : okc b = true := by rw [hb]; simp; omega
      simp only [List.all_cons, h1, h2, Bool.true_and, Option.map_eq_none_iff, ih]
  | n + 1, [], hl => by simp at hl
  | n + 1, [a], hl => by simp at hl; omega
/-- What Unhex answers. -/
def unE (l : List UInt8) : Int × List Int :=
  if l = [45] then (0, []) else if l.length = 0 ∨ l.length % 2 ≠ 0 then (2, []) else if 131072 < l.length then (4, []) else
  match unGo l with
  | none => (26, [])
  | some bs => (0, bs)
theorem unE_hex {bs : List Int} (hb : IsBytes bs) (hn : bs.length ≤ 200) : unE (hexS bs).data.toList = (0, bs) := by
  unfold hexS
  by_cases h0 : bs = []
  · subst h0
    rfl
  · rw [if_neg h0]
    have hl := hexL_len bs
    have hp : 0 < bs.length := List.length_pos_iff.2 h0
    have hd : (strOfNums (hexL bs)).data.toList = u8s (hexL bs) := by simp [strOfNums, u8s]
    have hlen : (u8s (hexL bs)).length = 2 * bs.length := by simp [u8s, hl]
    rw [hd]
    unfold unE
    rw [if_neg (fun e => by rw [e] at hlen; simp at hlen; omega), if_neg (by omega), if_neg (by omega), unGo_hexL bs hb]
/-- The error that a text is. -/
def wantE (l : List UInt8) : Int := if l = [45] then 0 else if l.length = 0 ∨ l.length % 2 = 1 then 2 else if l.all okc = false then 26 else 0
theorem unE_want {l : List UInt8} (hn : l.length ≤ 100) : (unE l).1 = wantE l := by
  unfold unE wantE
  split
  · rfl
  · by_cases h : l.length = 0 ∨ l.length % 2 ≠ 0
    · rw [if_pos h, if_pos (by omega)]
    · rw [if_neg h, if_neg (by omega), if_neg (by omega)]
      have := unGo_none (l.length / 2) l (by omega)
      cases hu : unGo l with
      | none => rw [if_pos (this.1 hu)]
      | some bs =>
        rw [if_neg]
        intro e
        rw [this.2 e] at hu
        cases hu
theorem unE_back {l : List UInt8} (h0 : (unE l).1 = 0) : (hexS (unE l).2).data.toList = l ∧ IsBytes (unE l).2 := by
  unfold unE at h0 ⊢
  split at h0
  · rename_i h
    rw [if_pos h, h]
    exact ⟨rfl, fun _ h => by cases h⟩
  · rename_i h
    rw [if_neg h]
    split at h0
    · cases h0
    · rename_i h2
      rw [if_neg h2]
      split at h0
      · cases h0
      · rename_i h3
        rw [if_neg h3]
        cases hu : unGo l with
        | none => rw [hu] at h0; cases h0
        | some bs =>
          obtain ⟨h4, h5, h6⟩ := hexL_unGo (l.length / 2) l bs (by omega) hu
          refine ⟨?_, h5⟩
          dsimp only
          unfold hexS
          rw [if_neg (fun e => by rw [e] at h6; simp at h6; omega)]
          simp only [strOfNums]
          exact h4
end Go.Proofs.YtfnjeojaahnlfaaDoor
