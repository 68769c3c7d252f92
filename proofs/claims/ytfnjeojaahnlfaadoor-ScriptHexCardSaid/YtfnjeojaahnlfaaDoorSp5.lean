/- More steps over facts. No program is in sight. -/
import Derived.Test.YtfnjeojaahnlfaaDoorSp4
namespace Go.Proofs.YtfnjeojaahnlfaaDoor
open Go.RowKit
theorem SE.to {Q : Exit → Act → World → Prop} {e : Exit} {n : Nat} {l : Env} {L : List Fa} {w : World} (hw : Sep w L) (h : SE Q e n l L) : WE Q e n l w := by
  unfold SE at h
  exact h w hw
theorem mid_set {pre m post : List Value} {k i : Nat} {v : Value} (hk : pre.length = k) (hi : i < m.length) : (pre ++ m ++ post).set (k + i) v = pre ++ m.set i v ++ post := by
  subst hk
  rw [List.append_assoc, List.append_assoc, List.set_append_right _ _ (by omega), Nat.add_sub_cancel_left, List.set_append_left _ _ hi]
theorem nth_mid {pre m post : List Value} {k i : Nat} {v : Value} (hk : pre.length = k) (h : nth m i = some v) : nth (pre ++ m ++ post) (k + i) = some v := by
  rw [nth_eq] at h ⊢
  exact Mid.of_append hk i v h
theorem rows_split {X : Type} {C : X → List Value} {sz : Nat} (hC : ∀ s, (C s).length = sz) {ss : List X} {j : Nat} {s : X} (h : ss[j]? = some s) : ∃ pre post, rows C ss = pre ++ C s ++ post ∧ pre.length = j * sz ∧ ∀ s', rows C (ss.set j s') = pre ++ C s' ++ post := by
  obtain ⟨h1, h2⟩ := List.getElem?_eq_some_iff.1 h
  refine ⟨rows C (ss.take j), rows C (ss.drop (j + 1)), ?_, ?_, fun s' => ?_⟩
  · conv => lhs; rw [← List.take_append_drop j ss, List.drop_eq_getElem_cons h1, h2]
    rw [rows_app, rows_cons, List.append_assoc]
  · rw [rows_len hC, List.length_take, Nat.min_eq_left (Nat.le_of_lt h1)]
  · rw [List.set_eq_take_append_cons_drop, if_pos h1, rows_app, rows_cons, List.append_assoc]
end Go.Proofs.YtfnjeojaahnlfaaDoor
