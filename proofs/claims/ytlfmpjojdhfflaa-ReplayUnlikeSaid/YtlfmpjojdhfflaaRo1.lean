/- ReplayOnce. -/
import Derived.Test.YtlfmpjojdhfflaaRq7
namespace Go.Proofs.Ytlfmpjojdhfflaa
open Go.RowKit
attribute [local irreducible] Go.Calls Go.Exit.then Go.Exit.inBlock Go.bodyPost Go.Code.wp Go.wpList

/-! An index with one more. -/
theorem tw_take (p : Seen → Bool) : ∀ (ss : List Seen) (s : Seen), s ∈ ss.take (ss.takeWhile p).length → p s = true
  | [], s, h => by simp at h
  | a :: r, s, h => by
    by_cases hp : p a = true
    · rw [List.takeWhile_cons_of_pos hp, List.length_cons, List.take_succ_cons] at h
      rcases List.mem_cons.1 h with e | e
      · rw [e]
        exact hp
      · exact tw_take p r s e
    · rw [List.takeWhile_cons_of_neg hp] at h
      simp at h
theorem tw_next (p : Seen → Bool) : ∀ (ss : List Seen) (u : Seen), ss[(ss.takeWhile p).length]? = some u → p u = false
  | [], u, h => by simp at h
  | a :: r, u, h => by
    by_cases hp : p a = true
    · rw [List.takeWhile_cons_of_pos hp, List.length_cons, List.getElem?_cons_succ] at h
      exact tw_next p r u h
    · rw [List.takeWhile_cons_of_neg hp] at h
      simp at h
      subst h
      simpa using hp
theorem before_lt {ss : List Seen} {id : Id} {s : Seen} (h : s ∈ ss.take (posI ss id)) : cmpI s.id.l id.l < 0 := by
  simpa using tw_take (fun s => decide (cmpI s.id.l id.l < 0)) ss s h
theorem behind_gt {ss : List Seen} {id : Id} {s : Seen} (hs : Srt ss) (hh : hasI ss id = false) (h : s ∈ ss.drop (posI ss id)) : cmpI id.l s.id.l < 0 := by
  obtain ⟨k, hk⟩ := List.getElem?_of_mem h
  rw [List.getElem?_drop] at hk
  have hk0 := (List.getElem?_eq_some_iff.1 hk).1
  obtain ⟨u, hu⟩ : ∃ u, ss[posI ss id]? = some u := ⟨_, List.getElem?_eq_getElem (by omega)⟩
  have hnl : ¬ cmpI u.id.l id.l < 0 := by
    have := tw_next (fun s => decide (cmpI s.id.l id.l < 0)) ss u hu
    simpa using this
  have hne : cmpI u.id.l id.l ≠ 0 := by
    intro he
    unfold hasI at hh
    rw [List.any_eq_false] at hh
    exact hh u (List.mem_of_getElem? hu) (by simpa using he)
  have h1 : cmpI id.l u.id.l < 0 := by
    have := cmpI_swap u.id.l id.l
    omega
  rcases Nat.eq_zero_or_pos k with h0 | h0
  · subst h0
    rw [Nat.add_zero, hu] at hk
    injection hk with hk
    subst hk
    exact h1
  · exact cmpI_trans h1 (hs.lt (show posI ss id < posI ss id + k by omega) hu hk)
theorem srt_ins {ss : List Seen} {s : Seen} (hs : Srt ss) (hh : hasI ss s.id = false) : Srt (insAt ss s) := by
  unfold insAt Srt
  rw [List.pairwise_append, List.pairwise_cons]
  refine ⟨hs.sublist (List.take_sublist _ _), ⟨fun u hu => behind_gt hs hh hu, hs.sublist (List.drop_sublist _ _)⟩, fun a ha b hb => ?_⟩
  rcases List.mem_cons.1 hb with e | e
  · subst e
    exact before_lt ha
  · exact cmpI_trans (before_lt ha) (behind_gt hs hh e)
theorem has_ins (ss : List Seen) (s : Seen) (id : Id) : hasI (insAt ss s) id = (hasI ss id || decide (cmpI s.id.l id.l = 0)) := by
  unfold hasI insAt
  rw [List.any_append, List.any_cons]
  conv => rhs; rw [← List.take_append_drop (posI ss s.id) ss, List.any_append]
  rw [Bool.or_assoc, Bool.or_comm (decide _), ← Bool.or_assoc]

def mkS (id : Id) : Seen := ⟨id, 0, 0, by decide, by decide⟩
def onceL (ids : List Id) : List Seen := ids.foldl (fun ss id => if hasI ss id then ss else insAt ss (mkS id)) []
theorem onceL_snoc (l : List Id) (id : Id) : onceL (l ++ [id]) = if hasI (onceL l) id then onceL l else insAt (onceL l) (mkS id) := by
  unfold onceL
  rw [List.foldl_append]
  rfl
theorem once_inv : ∀ (n : Nat) (l : List Id), l.length = n → Srt (onceL l) ∧ (onceL l).length ≤ n ∧ ∀ id ∈ l, hasI (onceL l) id = true
  | 0, l, h => by
    obtain rfl := List.eq_nil_of_length_eq_zero h
    exact ⟨srt_nil, Nat.le_refl _, fun _ h => by cases h⟩
  | n + 1, l, h => by
    obtain ⟨l', a, rfl⟩ : ∃ l' a, l = l' ++ [a] := ⟨l.dropLast, l.getLast (fun e => by rw [e] at h; simp at h), (List.dropLast_concat_getLast _).symm⟩
    obtain ⟨h1, h2, h3⟩ := once_inv n l' (by simpa using h)
    rw [onceL_snoc]
    by_cases hh : hasI (onceL l') a = true
    · rw [if_pos hh]
      refine ⟨h1, by omega, fun id hid => ?_⟩
      rcases List.mem_append.1 hid with e | e
      · exact h3 id e
      · have := List.mem_singleton.1 e
        subst this
        exact hh
    · rw [if_neg hh]
      have hf : hasI (onceL l') a = false := by simpa using hh
      refine ⟨srt_ins h1 hf, by rw [insAt_len]; omega, fun id hid => ?_⟩
      rw [has_ins]
      rcases List.mem_append.1 hid with e | e
      · rw [h3 id e]
        rfl
      · have := List.mem_singleton.1 e
        subst this
        have : cmpI (mkS id).id.l id.l = 0 := cmpI_self _
        simp [this]
theorem add_mkS {ss : List Seen} {id : Id} (hn : ss.length ≤ 100) : addI 256 ss (mkS id) = if hasI ss id then (14, ss) else (0, insAt ss (mkS id)) := by
  unfold addI
  rw [if_neg (by simp [mkS])]
  have : (mkS id).id = id := rfl
  rw [this]
  split
  · rfl
  · rw [if_neg (by omega)]
theorem list16 {cs : List Value} (h : cs.length = 16) : ∃ a0 a1 a2 a3 a4 a5 a6 a7 a8 a9 a10 a11 a12 a13 a14 a15, cs = [a0, a1, a2, a3, a4, a5, a6, a7, a8, a9, a10, a11, a12, a13, a14, a15] := by
  match cs, h with
  | [a0, a1, a2, a3, a4, a5, a6, a7, a8, a9, a10, a11, a12, a13, a14, a15], _ => exact ⟨a0, a1, a2, a3, a4, a5, a6, a7, a8, a9, a10, a11, a12, a13, a14, a15, rfl⟩
theorem build_16 (a0 a1 a2 a3 a4 a5 a6 a7 a8 a9 a10 a11 a12 a13 a14 a15 : Value) (W : World) : (Instr.build 33 #[(0, .agg #[a0, a1, a2, a3, a4, a5, a6, a7, a8, a9, a10, a11, a12, a13, a14, a15])]).run Try.prog W = .ok (.agg #[a0, a1, a2, a3, a4, a5, a6, a7, a8, a9, a10, a11, a12, a13, a14, a15, .int .u64 0, .int .i64 0]) W := by kernel_rfl
theorem build_mk (id : Id) (W : World) : (Instr.build 33 #[(0, id.v)]).run Try.prog W = .ok (mkS id).v W := by
  have hl : (bytes id.l).length = 16 := by rw [bytes_length, id.len]
  have hc : (mkS id).v = .agg (bytes id.l ++ [Value.int .u64 0, Value.int .i64 0]).toArray := rfl
  rw [hc]
  show (Instr.build _ #[(0, Value.agg (bytes id.l).toArray)]).run _ W = _
  generalize bytes id.l = cs at *
  obtain ⟨a0, a1, a2, a3, a4, a5, a6, a7, a8, a9, a10, a11, a12, a13, a14, a15, rfl⟩ := list16 hl
  exact build_16 a0 a1 a2 a3 a4 a5 a6 a7 a8 a9 a10 a11 a12 a13 a14 a15 W
end Go.Proofs.Ytlfmpjojdhfflaa
