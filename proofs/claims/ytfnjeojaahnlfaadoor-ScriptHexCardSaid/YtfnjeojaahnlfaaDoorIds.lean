/- Ids and reports as they lie in memory. -/
import Derived.Test.YtfnjeojaahnlfaaDoorSt
import Derived.Test.YtfnjeojaahnlfaaDoorEq
namespace Go.Proofs.YtfnjeojaahnlfaaDoor
open Go.RowKit

/-- Sixteen bytes. -/
structure Id where
  l : List Int
  len : l.length = 16
  ok : IsBytes l
theorem Id.ext_ {a b : Id} (h : a.l = b.l) : a = b := by
  cases a
  cases b
  simp at h
  subst h
  rfl
abbrev Id.v (a : Id) : Value := .agg (bytes a.l).toArray
theorem bytes_length (xs : List Int) : (bytes xs).length = xs.length := by simp [bytes]
theorem Vw.of_blk {g : Nat} {t : TypeId} {cs : List Value} {n : Nat} {L : List Fa} (h : At (blk g t cs) L) (hn : cs.length = n) : Vw L (fun w => Reads w 1 (some ⟨g, 0, none⟩) n cs) := fun w hw => by
  have h1 : Blk w g t cs.toArray := by
    have := hw.at h
    unfold blk at this
    exact this
  have := Reads.of_blk (n := n) (size := 1) h1 (by simpa using hn)
  simpa using this

structure Seen where
  id : Id
  t : Int
  c : Int
  tb : 0 ≤ t ∧ t ≤ 18446744073709551615
  cb : -9223372036854775808 ≤ c ∧ c ≤ 9223372036854775807
def Seen.cells (s : Seen) : List Value := bytes s.id.l ++ [.int .u64 s.t, .int .i64 s.c]
abbrev Seen.v (s : Seen) : Value := .agg s.cells.toArray
theorem Seen.len (s : Seen) : s.cells.length = 18 := by simp [Seen.cells, bytes, s.id.len]
theorem Seen.one (s : Seen) : ∀ v ∈ s.cells, v.oneCell' = true := by
  intro v hv
  rcases List.mem_append.1 hv with h | h
  · exact one_bytes _ v h
  · simp at h
    rcases h with h | h <;> subst h <;> rfl
theorem Seen.nt (s : Seen) : nth s.cells 16 = some (.int .u64 s.t) := by
  rw [nth_eq, Seen.cells, List.getElem?_append_right (by simp [bytes, s.id.len])]
  simp [bytes, s.id.len]
theorem Seen.nc (s : Seen) : nth s.cells 17 = some (.int .i64 s.c) := by
  rw [nth_eq, Seen.cells, List.getElem?_append_right (by simp [bytes, s.id.len])]
  simp [bytes, s.id.len]
theorem Seen.mid (s : Seen) : Mid s.cells 0 (bytes s.id.l) := Mid.head
theorem Seen.ext_ {a b : Seen} (h : a.id.l = b.id.l) (h1 : a.t = b.t) (h2 : a.c = b.c) : a = b := by
  obtain ⟨a0, a1, a2, _, _⟩ := a
  obtain ⟨b0, b1, b2, _, _⟩ := b
  have := Id.ext_ h
  simp at this h1 h2
  subst this h1 h2
  rfl

theorem Vw.of_blk_mid {g o : Nat} {t : TypeId} {cs : List Value} {bs : List Int} {L : List Fa} (h : At (blk g t cs) L) (hm : Mid cs o (bytes bs)) : Vw L (fun w => Reads w 1 (some ⟨g, o, none⟩) bs.length (bytes bs)) := fun w hw => by
  have h1 := blk_at hw h
  refine ⟨by rw [bytes_length, Nat.mul_one], fun _ => ⟨_, rfl, fun j u hu => ?_⟩⟩
  rw [add_none, h1.cell]
  simpa using hm j u hu
end Go.Proofs.YtfnjeojaahnlfaaDoor
