/- Messages as they are meant: whether one may be, as bytes. Plain laws, no program in sight. -/
import Derived.Test.YtinomilmccopnaaNum
namespace Go.Proofs.Ytinomilmccopnaa
open Go

structure Ent where
  id : List Int
  time : Int
  pub : List Int
  share : List Int
  code : Int
/-- What is wrong with an entry; 0: nothing. -/
def entCheck (e : Ent) : Int :=
  if 1099511627776 < e.time ∨ e.code < 0 ∨ 31 < e.code then 6 else if 65536 < (e.pub.length : Int) ∨ 65536 < (e.share.length : Int) then 4 else 0

structure Msg where
  kind : Int
  job : Int
  start : Int
  many : Int
  sum : List Int
  code : Int
  es : List Ent

/-- The first entry that may not be one. -/
def firstBad : List Ent → Int
  | [] => 0
  | e :: r => if entCheck e = 0 then firstBad r else entCheck e
def msgCheck (m : Msg) : Int :=
  if m.kind < 1 ∨ 7 < m.kind then 10
  else if 1099511627776 < m.job ∨ 1099511627776 < m.start ∨ m.many < 0 ∨ 256 < m.many ∨ m.code < 0 ∨ 31 < m.code then 6
  else if 256 < (m.es.length : Int) then 5
  else if (m.kind = 1 ∨ m.kind = 7) ∧ ¬ (m.es.length : Int) = 1 then 2
  else firstBad m.es

theorem firstBad_drop {es : List Ent} {j : Nat} {e : Ent} (h : es[j]? = some e) : firstBad (es.drop j) = if entCheck e = 0 then firstBad (es.drop (j + 1)) else entCheck e := by
  obtain ⟨hj, rfl⟩ := List.getElem?_eq_some_iff.1 h
  rw [List.drop_eq_getElem_cons hj]
  rfl

def encE (e : Ent) : List Int := e.id ++ le e.time 6 ++ le e.code 1 ++ (le e.pub.length 4 ++ e.pub) ++ (le e.share.length 4 ++ e.share)
def encEs (es : List Ent) : List Int := (es.map encE).flatten
def encH (m : Msg) : List Int := le m.kind 1 ++ le m.job 6 ++ le m.start 6 ++ le m.many 2 ++ m.sum ++ le m.code 1 ++ le m.es.length 2
def encM (m : Msg) : List Int := encH m ++ encEs m.es

theorem encEs_snoc {es : List Ent} {j : Nat} {e : Ent} (h : es[j]? = some e) : encEs (es.take (j + 1)) = encEs (es.take j) ++ encE e := by
  obtain ⟨hj, rfl⟩ := List.getElem?_eq_some_iff.1 h
  simp only [encEs]
  rw [List.take_succ_eq_append_getElem hj, List.map_append, List.flatten_append]
  simp only [List.map_cons, List.map_nil, List.flatten_cons, List.flatten_nil, List.append_nil]

theorem encE_len {e : Ent} (h : e.id.length = 16) : (encE e).length = 31 + e.pub.length + e.share.length := by
  simp [encE, le_len, h]; omega

theorem encEs_len {es : List Ent} (h : ∀ e ∈ es, e.id.length = 16 ∧ e.pub.length ≤ 65536 ∧ e.share.length ≤ 65536) : (encEs es).length ≤ es.length * 131103 := by
  induction es with
  | nil => simp [encEs]
  | cons e r ih =>
    have h1 := ih (fun x hx => h x (by simp [hx]))
    obtain ⟨a, b, c⟩ := h e (by simp)
    have h2 := encE_len a
    simp only [encEs, List.map_cons, List.flatten_cons, List.length_append, List.length_cons] at h1 ⊢
    omega

theorem firstBad_zero {es : List Ent} (h : firstBad es = 0) : ∀ e ∈ es, entCheck e = 0 := by
  induction es with
  | nil => simp
  | cons e r ih =>
    unfold firstBad at h
    by_cases hz : entCheck e = 0
    · rw [if_pos hz] at h
      intro x hx
      rcases List.mem_cons.1 hx with rfl | hx
      · exact hz
      · exact ih h x hx
    · rw [if_neg hz] at h
      exact absurd h hz
theorem entCheck_zero {e : Ent} (h : entCheck e = 0) : e.time ≤ 1099511627776 ∧ 0 ≤ e.code ∧ e.code ≤ 31 ∧ e.pub.length ≤ 65536 ∧ e.share.length ≤ 65536 := by
  unfold entCheck at h
  split at h
  · omega
  · split at h
    · omega
    · omega
theorem msgCheck_zero {m : Msg} (h : msgCheck m = 0) : 1 ≤ m.kind ∧ m.kind ≤ 7 ∧ m.job ≤ 1099511627776 ∧ m.start ≤ 1099511627776 ∧ 0 ≤ m.many ∧ m.many ≤ 256 ∧ 0 ≤ m.code ∧ m.code ≤ 31 ∧ m.es.length ≤ 256 ∧ ∀ e ∈ m.es, entCheck e = 0 := by
  unfold msgCheck at h
  split at h
  · omega
  split at h
  · omega
  split at h
  · omega
  split at h
  · omega
  refine ⟨by omega, by omega, by omega, by omega, by omega, by omega, by omega, by omega, by omega, firstBad_zero h⟩

end Go.Proofs.Ytinomilmccopnaa
