/- Messages out of bytes, step by step: plain laws, no program in sight. -/
import Derived.Test.YtinomilmccopnaaMgp
namespace Go.Proofs.Ytinomilmccopnaa
open Go
/-- The entries that are left to take, behind those that are taken. -/
def contM (a b c d : Int) (e : List Int) (f : Int) (pre : List Ent) (n : Nat) (bs : List Int) : Except Int (Msg × List Int) := decEs n bs >>= fun r => .ok (⟨a, b, c, d, e, f, pre ++ r.1⟩, r.2)
theorem decM_flat (bs : List Int) : decM bs = dUint 1 bs >>= fun a => dUint 6 a.2 >>= fun b => dUint 6 b.2 >>= fun c => dUint 2 c.2 >>= fun d => dRaw 16 d.2 >>= fun e => dUint 1 e.2 >>= fun f => dCount 2 256 f.2 >>= fun g => contM a.1 b.1 c.1 d.1 e.1 f.1 [] g.1.toNat g.2 := by
  simp only [decM, decH, contM, bind_assoc, pure_bind, List.nil_append]
  rfl
theorem contM_zero (a b c d : Int) (e : List Int) (f : Int) (pre : List Ent) (bs : List Int) : contM a b c d e f pre 0 bs = .ok (⟨a, b, c, d, e, f, pre⟩, bs) := by
  show Except.ok _ = _
  rw [List.append_nil]
theorem contM_succ (a b c d : Int) (e : List Int) (f : Int) (pre : List Ent) (n : Nat) (bs : List Int) : contM a b c d e f pre (n + 1) bs = dRaw 16 bs >>= fun u => dUint 6 u.2 >>= fun v => dUint 1 v.2 >>= fun x => dLong 65536 x.2 >>= fun y => dLong 65536 y.2 >>= fun z => contM a b c d e f (pre ++ [⟨u.1, v.1, y.1, z.1, x.1⟩]) n z.2 := by
  simp only [contM, decEs, decE, bind_assoc, pure_bind, List.append_assoc, List.singleton_append]
theorem step_no {α β : Type} {P : Except Int α} {f : α → Except Int β} {X : Except Int β} {x : Int} (hX : X = P >>= f) (h : P = .error x) : X = .error x := by
  rw [hX, h]
  rfl
theorem step_go {α β : Type} {P : Except Int α} {f : α → Except Int β} {X : Except Int β} {a : α} (hX : X = P >>= f) (h : P = .ok a) : X = f a := by
  rw [hX, h]
  rfl
section
variable {bs : List Int} {k n : Nat}
theorem dUint_no (hl : bs.length = n) (h : n < k) : dUint k bs = .error 3 := if_pos (by omega)
theorem dUint_go (hl : bs.length = n) (h : ¬ n < k) : dUint k bs = .ok (leV (bs.take k), bs.drop k) := if_neg (by omega)
theorem dRaw_no (hl : bs.length = n) (h : n < k) : dRaw k bs = .error 3 := if_pos (by omega)
theorem dRaw_go (hl : bs.length = n) (h : ¬ n < k) : dRaw k bs = .ok (bs.take k, bs.drop k) := if_neg (by omega)
theorem dCount_no {m : Int} (hl : bs.length = n) (h : n < k) : dCount k m bs = .error 3 := if_pos (by omega)
theorem dCount_most {m : Int} (hl : bs.length = n) (h : ¬ n < k) (hm : m < leV (bs.take k)) : dCount k m bs = .error 6 := by
  unfold dCount
  rw [if_neg (by omega), if_pos hm]
theorem dCount_go {m : Int} (hl : bs.length = n) (h : ¬ n < k) (hm : ¬ m < leV (bs.take k)) : dCount k m bs = .ok (leV (bs.take k), bs.drop k) := by
  unfold dCount
  rw [if_neg (by omega), if_neg hm]
theorem dLong_no {m : Nat} (hl : bs.length = n) (h : n < 4) : dLong m bs = .error 3 := if_pos (by omega)
theorem dLong_most {m : Nat} (hl : bs.length = n) (h : ¬ n < 4) (hv : leV (bs.take 4) = k) (hm : m < k) : dLong m bs = .error 4 := by
  unfold dLong
  rw [if_neg (by omega), hv, Int.toNat_natCast, if_pos hm]
theorem dLong_cut {m : Nat} (hl : bs.length = n) (h : ¬ n < 4) (hv : leV (bs.take 4) = k) (hm : ¬ m < k) (hk : n - 4 < k) : dLong m bs = .error 3 := by
  unfold dLong
  rw [if_neg (by omega), hv, Int.toNat_natCast, if_neg hm, if_pos (by omega)]
theorem dLong_go {m : Nat} (hl : bs.length = n) (h : ¬ n < 4) (hv : leV (bs.take 4) = k) (hm : ¬ m < k) (hk : ¬ n - 4 < k) : dLong m bs = .ok ((bs.drop 4).take k, bs.drop (4 + k)) := by
  unfold dLong
  rw [if_neg (by omega), hv, Int.toNat_natCast, if_neg hm, if_neg (by omega)]
theorem leV_t (h : IsBytes bs) (hl : bs.length = n) (hk : ¬ n < k) : 0 ≤ leV (bs.take k) ∧ leV (bs.take k) < 2 ^ (8 * k) := by
  have := leV_lt (h.take k)
  rwa [List.length_take, Nat.min_eq_left (by omega)] at this
theorem nat_of {v : Int} (h : 0 ≤ v) : ∃ k : Nat, v = k := ⟨v.toNat, by omega⟩
end
end Go.Proofs.Ytinomilmccopnaa
