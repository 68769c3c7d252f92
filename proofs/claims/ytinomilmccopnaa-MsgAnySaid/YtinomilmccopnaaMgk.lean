/- What is taken was put: bytes that decode are a message's bytes. Plain laws, no program in sight. -/
import Derived.Test.YtinomilmccopnaaMga
import Derived.Test.YtinomilmccopnaaMgi
namespace Go.Proofs.Ytinomilmccopnaa
open Go
theorem le_take {bs : List Int} {k : Nat} (hb : IsBytes bs) (h : ¬ bs.length < k) : bs = le (leV (bs.take k)) k ++ bs.drop k := by
  have h1 := le_leV (hb.take k)
  rw [List.length_take, Nat.min_eq_left (by omega)] at h1
  rw [h1, List.take_append_drop]
theorem dUint_inv {k : Nat} {bs : List Int} {a : Int × List Int} (hb : IsBytes bs) (h : dUint k bs = .ok a) : bs = le a.1 k ++ a.2 ∧ IsBytes a.2 ∧ 0 ≤ a.1 := by
  unfold dUint at h
  split at h
  · cases h
  · rename_i hl
    injection h with h
    subst h
    exact ⟨le_take hb hl, hb.drop k, (leV_lt (hb.take k)).1⟩
theorem dCount_inv {k : Nat} {m : Int} {bs : List Int} {a : Int × List Int} (hb : IsBytes bs) (h : dCount k m bs = .ok a) : bs = le a.1 k ++ a.2 ∧ IsBytes a.2 ∧ 0 ≤ a.1 := by
  unfold dCount at h
  split at h
  · cases h
  split at h
  · cases h
  · rename_i hl _
    injection h with h
    subst h
    exact ⟨le_take hb hl, hb.drop k, (leV_lt (hb.take k)).1⟩
theorem dRaw_inv {k : Nat} {bs : List Int} {a : List Int × List Int} (hb : IsBytes bs) (h : dRaw k bs = .ok a) : bs = a.1 ++ a.2 ∧ IsBytes a.2 ∧ IsBytes a.1 := by
  unfold dRaw at h
  split at h
  · cases h
  · injection h with h
    subst h
    exact ⟨(List.take_append_drop k bs).symm, hb.drop k, hb.take k⟩
theorem dLong_inv {m : Nat} {bs : List Int} {a : List Int × List Int} (hb : IsBytes bs) (h : dLong m bs = .ok a) : bs = (le a.1.length 4 ++ a.1) ++ a.2 ∧ IsBytes a.2 ∧ IsBytes a.1 := by
  unfold dLong at h
  split at h
  · cases h
  split at h
  · cases h
  split at h
  · cases h
  · rename_i hl _ hk
    injection h with h
    subst h
    have h0 := (leV_lt (hb.take 4)).1
    have h1 := le_take hb hl
    have h2 : (((bs.drop 4).take (leV (bs.take 4)).toNat).length : Int) = leV (bs.take 4) := by
      rw [List.length_take, List.length_drop, Nat.min_eq_left (by omega)]
      omega
    refine ⟨?_, hb.drop _, (hb.drop 4).take _⟩
    show bs = (le (((bs.drop 4).take (leV (bs.take 4)).toNat).length : Int) 4 ++ (bs.drop 4).take (leV (bs.take 4)).toNat) ++ bs.drop (4 + (leV (bs.take 4)).toNat)
    rw [h2, List.append_assoc, ← List.drop_drop, List.take_append_drop]
    exact h1
theorem decE_inv {bs : List Int} {a : Ent × List Int} (hb : IsBytes bs) (h : decE bs = .ok a) : bs = encE a.1 ++ a.2 ∧ IsBytes a.2 := by
  unfold decE at h
  obtain ⟨x1, h1, h⟩ := bind_ok h
  obtain ⟨x2, h2, h⟩ := bind_ok h
  obtain ⟨x3, h3, h⟩ := bind_ok h
  obtain ⟨x4, h4, h⟩ := bind_ok h
  obtain ⟨x5, h5, h⟩ := bind_ok h
  obtain ⟨e1, b1, _⟩ := dRaw_inv hb h1
  obtain ⟨e2, b2, _⟩ := dUint_inv b1 h2
  obtain ⟨e3, b3, _⟩ := dUint_inv b2 h3
  obtain ⟨e4, b4, _⟩ := dLong_inv b3 h4
  obtain ⟨e5, b5, _⟩ := dLong_inv b4 h5
  have h' : a = (⟨x1.1, x2.1, x4.1, x5.1, x3.1⟩, x5.2) := by
    injection h with h
    exact h.symm
  subst h'
  refine ⟨?_, b5⟩
  rw [e1, e2, e3, e4, e5]
  simp [encE]
theorem decEs_inv : ∀ {n : Nat} {bs : List Int} {a : List Ent × List Int}, IsBytes bs → decEs n bs = .ok a → bs = encEs a.1 ++ a.2 ∧ IsBytes a.2 ∧ a.1.length = n
  | 0, bs, a, hb, h => by
    rw [decEs] at h
    injection h with h
    subst h
    exact ⟨rfl, hb, rfl⟩
  | n + 1, bs, a, hb, h => by
    rw [decEs] at h
    obtain ⟨x1, h1, h⟩ := bind_ok h
    obtain ⟨x2, h2, h⟩ := bind_ok h
    obtain ⟨e1, b1⟩ := decE_inv hb h1
    obtain ⟨e2, b2, l2⟩ := decEs_inv b1 h2
    have h' : a = (x1.1 :: x2.1, x2.2) := by
      injection h with h
      exact h.symm
    subst h'
    refine ⟨?_, b2, by simp [l2]⟩
    rw [encEs_cons, List.append_assoc, ← e2]
    exact e1
theorem decM_inv {bs : List Int} {a : Msg × List Int} (hb : IsBytes bs) (h : decM bs = .ok a) : bs = encM a.1 ++ a.2 := by
  unfold decM at h
  obtain ⟨x, h0, h⟩ := bind_ok h
  obtain ⟨r, hr, h⟩ := bind_ok h
  unfold decH at h0
  obtain ⟨x1, h1, h0⟩ := bind_ok h0
  obtain ⟨x2, h2, h0⟩ := bind_ok h0
  obtain ⟨x3, h3, h0⟩ := bind_ok h0
  obtain ⟨x4, h4, h0⟩ := bind_ok h0
  obtain ⟨x5, h5, h0⟩ := bind_ok h0
  obtain ⟨x6, h6, h0⟩ := bind_ok h0
  obtain ⟨x7, h7, h0⟩ := bind_ok h0
  obtain ⟨e1, b1, _⟩ := dUint_inv hb h1
  obtain ⟨e2, b2, _⟩ := dUint_inv b1 h2
  obtain ⟨e3, b3, _⟩ := dUint_inv b2 h3
  obtain ⟨e4, b4, _⟩ := dUint_inv b3 h4
  obtain ⟨e5, b5, _⟩ := dRaw_inv b4 h5
  obtain ⟨e6, b6, _⟩ := dUint_inv b5 h6
  obtain ⟨e7, b7, n7⟩ := dCount_inv b6 h7
  have hx : x = (⟨x1.1, x2.1, x3.1, x4.1, x5.1, x6.1, x7.1⟩, x7.2) := by
    injection h0 with h0
    exact h0.symm
  subst hx
  obtain ⟨e8, b8, l8⟩ := decEs_inv b7 hr
  have h' : a = (Hd.msg ⟨x1.1, x2.1, x3.1, x4.1, x5.1, x6.1, x7.1⟩ r.1, r.2) := by
    injection h with h
    exact h.symm
  subst h'
  have hn : (r.1.length : Int) = x7.1 := by
    rw [l8]
    exact Int.toNat_of_nonneg n7
  rw [e1, e2, e3, e4, e5, e6, e7, e8]
  simp [encM, encH, Hd.msg, hn]
end Go.Proofs.Ytinomilmccopnaa
