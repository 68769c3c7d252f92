/- What two indexes have otherwise: the plain law. -/
import Derived.Test.YtlfmpjojdhfflaaUn3
namespace Go.Proofs.Ytlfmpjojdhfflaa
open Go.RowKit

def unl : List Seen → List Seen → List Seen × List Seen × List Seen
  | [], [] => ([], [], [])
  | [], y :: ys => ((unl [] ys).1, y :: (unl [] ys).2.1, (unl [] ys).2.2)
  | x :: xs, [] => (x :: (unl xs []).1, (unl xs []).2.1, (unl xs []).2.2)
  | x :: xs, y :: ys =>
    if cmpI x.id.l y.id.l < 0 then (x :: (unl xs (y :: ys)).1, (unl xs (y :: ys)).2.1, (unl xs (y :: ys)).2.2)
    else if 0 < cmpI x.id.l y.id.l then ((unl (x :: xs) ys).1, y :: (unl (x :: xs) ys).2.1, (unl (x :: xs) ys).2.2)
    else ((unl xs ys).1, (unl xs ys).2.1, if x = y then (unl xs ys).2.2 else x :: (unl xs ys).2.2)
termination_by xs ys => xs.length + ys.length

theorem hasF_ne {a : Seen} {r : List Seen} {id : Id} (h : a.id.l ≠ id.l) : hasF (a :: r) id = hasF r id := by
  unfold hasF
  rw [List.find?_cons_of_neg (by simpa using h)]
theorem hasF_eq {a : Seen} {r : List Seen} {id : Id} (h : a.id.l = id.l) : hasF (a :: r) id = some a := by
  unfold hasF
  rw [List.find?_cons_of_pos (by simpa using h)]
theorem hasF_none {ss : List Seen} {id : Id} (h : ∀ s ∈ ss, s.id.l ≠ id.l) : hasF ss id = none := by
  unfold hasF
  rw [List.find?_eq_none]
  intro s hs
  simpa using h s hs
theorem ne_of_lt {a b : List Int} (h : cmpI a b < 0) : a ≠ b := fun e => by
  subst e
  rw [cmpI_self] at h
  omega
theorem lt_of_gt {a b : List Int} (h : 0 < cmpI a b) : cmpI b a < 0 := by
  rw [cmpI_swap]
  omega
def onlyIn (xs ys : List Seen) : List Seen := xs.filter fun s => (hasF ys s.id).isNone
def othIn (xs ys : List Seen) : List Seen := xs.filter fun s => (hasF ys s.id).isSome && decide (s ≠ (hasF ys s.id).getD seen0)
theorem unl_eq : ∀ (n : Nat) (xs ys : List Seen), xs.length + ys.length = n → Srt xs → Srt ys → unl xs ys = (onlyIn xs ys, onlyIn ys xs, othIn xs ys)
  | n, [], [], _, _, _ => by
    rw [unl]
    rfl
  | n, [], y :: ys, h, _, hy => by
    rw [unl, unl_eq (n - 1) [] ys (by simp at h ⊢; omega) List.Pairwise.nil (List.pairwise_cons.1 hy).2]
    rfl
  | n, x :: xs, [], h, hx, _ => by
    rw [unl, unl_eq (n - 1) xs [] (by simp at h ⊢; omega) (List.pairwise_cons.1 hx).2 List.Pairwise.nil]
    rfl
  | n, x :: xs, y :: ys, h, hx, hy => by
    have hx' := List.pairwise_cons.1 hx
    have hy' := List.pairwise_cons.1 hy
    rw [unl]
    by_cases h1 : cmpI x.id.l y.id.l < 0
    · rw [if_pos h1, unl_eq (n - 1) xs (y :: ys) (by simp at h ⊢; omega) hx'.2 hy]
      have hn : hasF (y :: ys) x.id = none := hasF_none fun s hs => by
        rcases List.mem_cons.1 hs with e | e
        · subst e
          exact (ne_of_lt h1).symm
        · exact (ne_of_lt (cmpI_trans h1 (hy'.1 s e))).symm
      have e1 : onlyIn (x :: xs) (y :: ys) = x :: onlyIn xs (y :: ys) := by
        unfold onlyIn
        rw [List.filter_cons_of_pos (by rw [hn]; rfl)]
      have e2 : onlyIn (y :: ys) (x :: xs) = onlyIn (y :: ys) xs := by
        unfold onlyIn
        refine List.filter_congr fun s hs => ?_
        rw [hasF_ne]
        rcases List.mem_cons.1 hs with e | e
        · subst e
          exact ne_of_lt h1
        · exact ne_of_lt (cmpI_trans h1 (hy'.1 s e))
      have e3 : othIn (x :: xs) (y :: ys) = othIn xs (y :: ys) := by
        unfold othIn
        rw [List.filter_cons_of_neg (by rw [hn]; simp)]
      rw [e1, e2, e3]
    rw [if_neg h1]
    by_cases h2 : 0 < cmpI x.id.l y.id.l
    · have h2' := lt_of_gt h2
      rw [if_pos h2, unl_eq (n - 1) (x :: xs) ys (by simp at h ⊢; omega) hx hy'.2]
      have hn : hasF (x :: xs) y.id = none := hasF_none fun s hs => by
        rcases List.mem_cons.1 hs with e | e
        · subst e
          exact (ne_of_lt h2').symm
        · exact (ne_of_lt (cmpI_trans h2' (hx'.1 s e))).symm
      have hc : ∀ s ∈ x :: xs, hasF (y :: ys) s.id = hasF ys s.id := fun s hs => by
        refine hasF_ne ?_
        rcases List.mem_cons.1 hs with e | e
        · subst e
          exact ne_of_lt h2'
        · exact ne_of_lt (cmpI_trans h2' (hx'.1 s e))
      have e1 : onlyIn (y :: ys) (x :: xs) = y :: onlyIn ys (x :: xs) := by
        unfold onlyIn
        rw [List.filter_cons_of_pos (by rw [hn]; rfl)]
      have e2 : onlyIn (x :: xs) (y :: ys) = onlyIn (x :: xs) ys := by
        unfold onlyIn
        exact List.filter_congr fun s hs => by rw [hc s hs]
      have e3 : othIn (x :: xs) (y :: ys) = othIn (x :: xs) ys := by
        unfold othIn
        exact List.filter_congr fun s hs => by rw [hc s hs]
      rw [e1, e2, e3]
    · have h0 : cmpI x.id.l y.id.l = 0 := by omega
      have hid : x.id.l = y.id.l := cmpI_eq (by rw [x.id.len, y.id.len]) h0
      rw [if_neg h2, unl_eq (n - 2) xs ys (by simp at h ⊢; omega) hx'.2 hy'.2]
      have hb : hasF (y :: ys) x.id = some y := hasF_eq hid.symm
      have hb' : hasF (x :: xs) y.id = some x := hasF_eq hid
      have hc : ∀ s ∈ xs, hasF (y :: ys) s.id = hasF ys s.id := fun s hs => hasF_ne (by rw [← hid]; exact ne_of_lt (hx'.1 s hs))
      have hc' : ∀ s ∈ ys, hasF (x :: xs) s.id = hasF xs s.id := fun s hs => hasF_ne (by rw [hid]; exact ne_of_lt (hy'.1 s hs))
      have e1 : onlyIn (x :: xs) (y :: ys) = onlyIn xs ys := by
        unfold onlyIn
        rw [List.filter_cons_of_neg (by rw [hb]; simp)]
        exact List.filter_congr fun s hs => by rw [hc s hs]
      have e2 : onlyIn (y :: ys) (x :: xs) = onlyIn ys xs := by
        unfold onlyIn
        rw [List.filter_cons_of_neg (by rw [hb']; simp)]
        exact List.filter_congr fun s hs => by rw [hc' s hs]
      have e4 : (xs.filter fun s => (hasF (y :: ys) s.id).isSome && decide (s ≠ (hasF (y :: ys) s.id).getD seen0)) = othIn xs ys := by
        unfold othIn
        exact List.filter_congr fun s hs => by rw [hc s hs]
      have e3 : othIn (x :: xs) (y :: ys) = if x = y then othIn xs ys else x :: othIn xs ys := by
        unfold othIn at e4 ⊢
        by_cases hxy : x = y
        · rw [if_pos hxy, List.filter_cons_of_neg (by rw [hb]; simp [hxy]), e4]
        · rw [if_neg hxy, List.filter_cons_of_pos (by rw [hb]; simp [hxy]), e4]
      rw [e1, e2, e3]
termination_by n xs ys => xs.length + ys.length
decreasing_by
  all_goals simp
  all_goals omega
end Go.Proofs.Ytlfmpjojdhfflaa
