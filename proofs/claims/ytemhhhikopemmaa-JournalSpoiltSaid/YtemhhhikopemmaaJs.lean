/- A journal read whole: Scan. -/
import Derived.Test.YtemhhhikopemmaaJr
namespace Go.Proofs.Ytemhhhikopemmaa
open Go.RowKit
attribute [local irreducible] Go.Calls Go.Exit.then Go.Exit.inBlock Go.bodyPost Go.Code.wp Go.wpList takeL recordL
/-- A slice of bytes in memory of its own. -/
structure Sx where
  A : Option Addr
  c : Nat
  d : Nat
  l : List Int
def Sx.v (s : Sx) : Value := .slice s.A s.l.length s.c
abbrev Sx.fa (s : Sx) : Fa := u8o s.A s.d s.l
def Sx.ok (s : Sx) : Prop := (s.l.length ≤ s.c ∧ s.c ≤ maxLen) ∧ s.l.length ≤ 1000000 ∧ IsBytes s.l
def sxO (xs : List Sx) : List Fa := xs.map Sx.fa
def sxV (xs : List Sx) : List Value := xs.map Sx.v
theorem sxV_len {xs : List Sx} : (sxV xs).length = xs.length := by simp [sxV]
theorem sxV_one {xs : List Sx} : ∀ v ∈ sxV xs, v.oneCell' = true := by
  intro v hv
  obtain ⟨x, _, rfl⟩ := List.mem_map.1 hv
  rfl
theorem star_snoc {f : Fa} {G K : List Fa} : Ent_ (f :: star G :: K) (star (G ++ [f]) :: K) := fun w hw => by
  refine star_in w ?_
  rw [List.append_assoc, List.singleton_append]
  refine (pick_mid G).back w ?_
  have h1 : Sep w (star G :: f :: K) := hw.sub (.cons (.there .here) (.cons .here .refl))
  exact (pick_mid G).out w ((pick_mid G).back w ((Ent_.trans star_out (fun w hw => hw) w h1 : Sep w (G ++ f :: K)) |> (pick_mid G).out w))
/-- The records one behind the other: those that n steps find. -/
def chainL (bs : List Int) : Nat → Option (Nat × List (List Int))
  | 0 => some (0, [])
  | n + 1 => match chainL bs n with
    | some (k, out) => match recordL bs k with
      | some (x, m) => some (k + m, out ++ [x])
      | none => none
    | none => none
theorem chain_none {bs : List Int} {n : Nat} (h : chainL bs n = none) : ∀ j, chainL bs (n + j) = none
  | 0 => h
  | j + 1 => by rw [← Nat.add_assoc, chainL, chain_none h j]
theorem chain_end {bs : List Int} {n n' k k' : Nat} {out out' : List (List Int)} (h : chainL bs n = some (k, out)) (h2 : recordL bs k = none) (h' : chainL bs n' = some (k', out')) (h2' : recordL bs k' = none) : k = k' ∧ out = out' := by
  have e1 : chainL bs (n + 1) = none := by rw [chainL, h]; simp only [h2]
  have e2 : chainL bs (n' + 1) = none := by rw [chainL, h']; simp only [h2']
  rcases Nat.lt_trichotomy n n' with hl | hl | hl
  · have := chain_none e1 (n' - (n + 1))
    rw [show n + 1 + (n' - (n + 1)) = n' by omega, h'] at this
    cases this
  · subst hl
    rw [h] at h'
    injection h' with h'
    injection h' with a b
    exact ⟨a, b⟩
  · have := chain_none e2 (n - (n' + 1))
    rw [show n' + 1 + (n - (n' + 1)) = n by omega, h] at this
    cases this
theorem goL_some {bs : List Int} {k : Nat} (hb : IsBytes bs) : ∀ {left i : Nat} {out r : List Int}, goL bs k left i out = some r → IsBytes out → out.length ≤ 48 * (i + 1) → (k + 1 + i) * 64 ≤ bs.length → IsBytes r ∧ r.length ≤ 48 * (i + left + 1) ∧ (k + 1 + i + left) * 64 ≤ bs.length
  | 0, i, out, r, h, h1, h2, h3 => by
    rw [goL] at h
    injection h with h
    subst h
    exact ⟨h1, h2, h3⟩
  | left + 1, i, out, r, h, h1, h2, h3 => by
    rw [goL] at h
    cases ht : takeL bs (k + 1 + i) with
    | none => rw [ht] at h; cases h
    | some fp =>
      obtain ⟨f, p⟩ := fp
      rw [ht] at h
      obtain ⟨t1, t2, t3, t4⟩ := takeL_some ht hb
      clear ht
      by_cases hc : f = left ∧ out.length = (i + 1) * 48
      · replace h : goL bs k left (i + 1) (out ++ p) = some r := (if_pos hc).symm.trans h
        have e1 : (out ++ p).length ≤ 48 * (i + 1 + 1) := by rw [List.length_append]; omega
        have e2 : (k + 1 + (i + 1)) * 64 ≤ bs.length := by omega
        have r := goL_some (bs := bs) (k := k) hb (left := left) (i := i + 1) (out := out ++ p) (r := r) h (IsBytes.app h1 t3) e1 e2
        obtain ⟨r1, r2, r3⟩ := r
        refine ⟨r1, ?_, ?_⟩
        · clear r3 e1 e2 t4 h3 h2 t1 t2 hc h; omega
        · clear r2 e1 e2 t4 h3 h2 t1 t2 hc h; omega
      · have h' : none = some r := (if_neg hc).symm.trans h
        cases h'
attribute [local semireducible] recordL in
theorem recordL_some {bs : List Int} {k m : Nat} {x : List Int} (h : recordL bs k = some (x, m)) (hb : IsBytes bs) : 1 ≤ m ∧ m ≤ 1366 ∧ (k + m) * 64 ≤ bs.length ∧ x.length ≤ 48 * m ∧ IsBytes x := by
  unfold recordL at h
  split at h
  · rename_i f p ht
    obtain ⟨t1, t2, t3, t4⟩ := takeL_some ht hb
    split at h
    · cases hg : goL bs k f 0 p with
      | none => rw [hg] at h; cases h
      | some r =>
        rw [hg] at h
        injection h with h
        injection h with a b
        subst a b
        obtain ⟨g1, g2, g3⟩ := goL_some hb hg t3 (by omega) (by omega)
        exact ⟨by omega, by omega, by omega, by omega, g1⟩
    · cases h
  · cases h
def tornB (bs : List Int) (a : Nat) : Nat → Bool
  | 0 => false
  | k + 1 => tornB bs a k || (takeL bs (a + k)).isNone
def haltB (bs : List Int) (a : Nat) : Nat → Bool
  | 0 => false
  | k + 1 => haltB bs a k || ((takeL bs (a + k)).isSome && tornB bs a k)
/-- How many cells, the last one cut or not. -/
def cutN (bs : List Int) : Nat := (bs.length + 63) / 64
end Go.Proofs.Ytemhhhikopemmaa
