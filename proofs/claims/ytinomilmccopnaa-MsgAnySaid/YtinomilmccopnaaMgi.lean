/- What is taken was put: plain laws, no program in sight. -/
import Derived.Test.YtinomilmccopnaaMga
namespace Go.Proofs.Ytinomilmccopnaa
open Go
theorem bind_err {α β : Type} {X : Except Int α} {f : α → Except Int β} {x : Int} (h : (X >>= f) = .error x) : X = .error x ∨ ∃ a, X = .ok a ∧ f a = .error x := by
  cases X with
  | error e =>
    have h' : (Except.error e : Except Int β) = .error x := h
    injection h' with h'
    exact .inl (by rw [h'])
  | ok a => exact .inr ⟨a, rfl, h⟩
theorem bind_ok {α β : Type} {X : Except Int α} {f : α → Except Int β} {b : β} (h : (X >>= f) = .ok b) : ∃ a, X = .ok a ∧ f a = .ok b := by
  cases X with
  | error e => cases h
  | ok a => exact ⟨a, rfl, h⟩
def Cd (x : Int) : Prop := x = 3 ∨ x = 4 ∨ x = 6
theorem Cd.ne {x : Int} (h : Cd x) : x ≠ 0 := by rcases h with h | h | h <;> omega
theorem dUint_cd {k : Nat} {bs : List Int} {x : Int} (h : dUint k bs = .error x) : Cd x := by
  unfold dUint at h
  split at h <;> cases h
  exact .inl rfl
theorem dRaw_cd {k : Nat} {bs : List Int} {x : Int} (h : dRaw k bs = .error x) : Cd x := by
  unfold dRaw at h
  split at h <;> cases h
  exact .inl rfl
theorem dCount_cd {k : Nat} {m : Int} {bs : List Int} {x : Int} (h : dCount k m bs = .error x) : Cd x := by
  unfold dCount at h
  split at h
  · cases h
    exact .inl rfl
  split at h <;> cases h
  exact .inr (.inr rfl)
theorem dLong_cd {m : Nat} {bs : List Int} {x : Int} (h : dLong m bs = .error x) : Cd x := by
  unfold dLong at h
  split at h
  · cases h
    exact .inl rfl
  split at h
  · cases h
    exact .inr (.inl rfl)
  split at h <;> cases h
  exact .inl rfl
theorem contM_cd {a b c d : Int} {e : List Int} {f : Int} : ∀ {n : Nat} {pre : List Ent} {bs : List Int} {x : Int}, contM a b c d e f pre n bs = .error x → Cd x
  | 0, pre, bs, x, h => by
    rw [contM_zero] at h
    cases h
  | n + 1, pre, bs, x, h => by
    rw [contM_succ] at h
    rcases bind_err h with h | ⟨_, _, h⟩
    · exact dRaw_cd h
    rcases bind_err h with h | ⟨_, _, h⟩
    · exact dUint_cd h
    rcases bind_err h with h | ⟨_, _, h⟩
    · exact dUint_cd h
    rcases bind_err h with h | ⟨_, _, h⟩
    · exact dLong_cd h
    rcases bind_err h with h | ⟨_, _, h⟩
    · exact dLong_cd h
    exact contM_cd h
theorem decM_code {bs : List Int} {x : Int} (h : decM bs = .error x) : x ≠ 0 := by
  refine Cd.ne ?_
  rw [decM_flat] at h
  rcases bind_err h with h | ⟨_, _, h⟩
  · exact dUint_cd h
  rcases bind_err h with h | ⟨_, _, h⟩
  · exact dUint_cd h
  rcases bind_err h with h | ⟨_, _, h⟩
  · exact dUint_cd h
  rcases bind_err h with h | ⟨_, _, h⟩
  · exact dUint_cd h
  rcases bind_err h with h | ⟨_, _, h⟩
  · exact dRaw_cd h
  rcases bind_err h with h | ⟨_, _, h⟩
  · exact dUint_cd h
  rcases bind_err h with h | ⟨_, _, h⟩
  · exact dCount_cd h
  exact contM_cd h
theorem contM_n {a b c d : Int} {e : List Int} {f : Int} : ∀ {n : Nat} {pre : List Ent} {bs : List Int} {M : Msg} {r : List Int}, contM a b c d e f pre n bs = .ok (M, r) → M.es.length = pre.length + n
  | 0, pre, bs, M, r, h => by
    rw [contM_zero] at h
    cases h
    rfl
  | n + 1, pre, bs, M, r, h => by
    rw [contM_succ] at h
    obtain ⟨_, _, h⟩ := bind_ok h
    obtain ⟨_, _, h⟩ := bind_ok h
    obtain ⟨_, _, h⟩ := bind_ok h
    obtain ⟨_, _, h⟩ := bind_ok h
    obtain ⟨_, _, h⟩ := bind_ok h
    have := contM_n h
    rw [List.length_append, List.length_singleton] at this
    omega
theorem decM_n {bs : List Int} {M : Msg} {rest : List Int} (h : decM bs = .ok (M, rest)) : M.es.length ≤ 256 := by
  rw [decM_flat] at h
  obtain ⟨_, _, h⟩ := bind_ok h
  obtain ⟨_, _, h⟩ := bind_ok h
  obtain ⟨_, _, h⟩ := bind_ok h
  obtain ⟨_, _, h⟩ := bind_ok h
  obtain ⟨_, _, h⟩ := bind_ok h
  obtain ⟨_, _, h⟩ := bind_ok h
  obtain ⟨g, hg, h⟩ := bind_ok h
  have h1 := contM_n h
  have h2 : g.1 ≤ 256 := by
    unfold dCount at hg
    split at hg
    · cases hg
    split at hg
    · cases hg
    · cases hg
      dsimp only
      omega
  rw [List.length_nil] at h1
  omega
end Go.Proofs.Ytinomilmccopnaa
