/- A journal of records, read back: these records. Plain lists. -/
import Derived.Test.YtemhhhikopemmaaJn
namespace Go.Proofs.Ytemhhhikopemmaa
open Go
attribute [local irreducible] takeL recordL hashL cellL
theorem recF_split {number many : Nat} {bs : List Int} {i : Nat} : ∀ {j : Nat}, i < j → ∃ rest, recF number many bs j = recF number many bs i ++ cellL (number + i) (many - 1 - i) (partL bs i) ++ rest
  | 0, h => absurd h (Nat.not_lt_zero _)
  | j + 1, h => by
    by_cases hj : i = j
    · subst hj
      exact ⟨[], by rw [recF, List.append_nil]⟩
    · obtain ⟨rest, hr⟩ := recF_split (number := number) (many := many) (bs := bs) (i := i) (j := j) (by omega)
      exact ⟨rest ++ cellL (number + j) (many - 1 - j) (partL bs j), by rw [recF, hr]; simp only [List.append_assoc]⟩
theorem take_rec {pre post bs : List Int} {number i : Nat} (hpre : pre.length = number * 64) (hi : i < manyL bs.length) (h1 : number + manyL bs.length < 16777216) : takeL (pre ++ recL number bs ++ post) (number + i) = some (manyL bs.length - 1 - i, partL bs i) := by
  obtain ⟨rest, hr⟩ := recF_split (number := number) (many := manyL bs.length) (bs := bs) hi
  have e : pre ++ recL number bs ++ post = (pre ++ recF number (manyL bs.length) bs i) ++ cellL (number + i) (manyL bs.length - 1 - i) (partL bs i) ++ (rest ++ post) := by
    unfold recL
    rw [hr]
    simp only [List.append_assoc]
  rw [e]
  exact take_cell (by rw [List.length_append, hpre, recF_len]; omega) partL_len (by omega) (by omega)
theorem go_rec {pre post bs : List Int} {number : Nat} (hpre : pre.length = number * 64) (h1 : number + manyL bs.length < 16777216) : ∀ {left i : Nat}, i + left + 1 = manyL bs.length → goL (pre ++ recL number bs ++ post) number left i (bs.take ((i + 1) * 48)) = some bs
  | 0, i, h => by
    rw [goL, List.take_of_length_le]
    unfold manyL at h
    omega
  | left + 1, i, h => by
    have ht := take_rec (post := post) (i := i + 1) hpre (by omega) h1
    have hm : (i + 1) * 48 ≤ bs.length := by
      unfold manyL at h
      omega
    rw [goL, show number + 1 + i = number + (i + 1) by omega, ht]
    have hf : manyL bs.length - 1 - (i + 1) = left := by omega
    have hl : (bs.take ((i + 1) * 48)).length = (i + 1) * 48 := by rw [List.length_take]; omega
    have ha : bs.take ((i + 1) * 48) ++ partL bs (i + 1) = bs.take ((i + 1 + 1) * 48) := by
      unfold partL
      rw [show (i + 1 + 1) * 48 = (i + 1) * 48 + 48 by omega, List.take_add]
    show (if manyL bs.length - 1 - (i + 1) = left ∧ (bs.take ((i + 1) * 48)).length = (i + 1) * 48 then goL _ number left (i + 1) (bs.take ((i + 1) * 48) ++ partL bs (i + 1)) else none) = some bs
    rw [if_pos ⟨hf, hl⟩, ha]
    exact go_rec hpre h1 (by omega)
attribute [local semireducible] recordL in
theorem rec_rec {pre post bs : List Int} {number : Nat} (hpre : pre.length = number * 64) (h1 : number + manyL bs.length < 16777216) (hb : bs.length ≤ 65536) : recordL (pre ++ recL number bs ++ post) number = some (bs, manyL bs.length) := by
  have hm1 : 1 ≤ manyL bs.length := by unfold manyL; omega
  have hm2 : manyL bs.length ≤ 1366 := by unfold manyL; omega
  have ht := take_rec (post := post) (i := 0) hpre (by omega) h1
  rw [Nat.add_zero] at ht
  have hg := go_rec (post := post) hpre h1 (left := manyL bs.length - 1) (i := 0) (by omega)
  have hp : partL bs 0 = bs.take ((0 + 1) * 48) := by unfold partL; simp
  unfold recordL
  rw [ht, Nat.sub_zero, hp]
  show (if manyL bs.length - 1 < 1366 then (goL (pre ++ recL number bs ++ post) number (manyL bs.length - 1) 0 (bs.take ((0 + 1) * 48))).map (fun out => (out, manyL bs.length - 1 + 1)) else none) = _
  rw [if_pos (by omega), hg]
  show some (bs, manyL bs.length - 1 + 1) = _
  rw [Nat.sub_add_cancel hm1]
theorem chain_all (ls : List (List Int)) : (∀ x ∈ ls, x.length ≤ 65536) → cellsA ls < 16777216 → ∀ post, chainL (allL ls ++ post) ls.length = some (cellsA ls, ls) := by
  refine snoc_ind (P := fun ls => (∀ x ∈ ls, x.length ≤ 65536) → cellsA ls < 16777216 → ∀ post, chainL (allL ls ++ post) ls.length = some (cellsA ls, ls)) (fun _ _ _ => rfl) (fun l x ih h hc post => ?_) ls
  rw [cellsA_snoc] at hc
  have h1 := ih (fun y hy => h y (List.mem_append_left _ hy)) (by omega) (recL (cellsA l) x ++ post)
  rw [List.length_append, List.length_singleton, chainL, allL_next, List.append_assoc, h1]
  have h2 := rec_rec (pre := allL l) (post := post) (bs := x) (number := cellsA l) (allL_len l) (by omega) (h x (by simp))
  rw [List.append_assoc] at h2
  simp only [h2, cellsA_snoc]
attribute [local semireducible] takeL in
theorem take_out {bs : List Int} {k : Nat} (h : bs.length < (k + 1) * 64) : takeL bs k = none := if_pos h
attribute [local semireducible] recordL in
theorem rec_out {bs : List Int} {k : Nat} (h : bs.length < (k + 1) * 64) : recordL bs k = none := by
  unfold recordL
  rw [take_out h]
/-- All records of a journal are there, nothing is torn. -/
theorem scan_all {ls : List (List Int)} (h : ∀ x ∈ ls, x.length ≤ 65536) (hc : cellsA ls < 16777216) : chainL (allL ls) ls.length = some (cellsA ls, ls) ∧ recordL (allL ls) (cellsA ls) = none ∧ haltB (allL ls) (cellsA ls) (cutN (allL ls) - cellsA ls) = false := by
  have h1 := chain_all ls h hc []
  rw [List.append_nil] at h1
  refine ⟨h1, rec_out (by rw [allL_len]; omega), ?_⟩
  have : cutN (allL ls) - cellsA ls = 0 := by unfold cutN; rw [allL_len]; omega
  rw [this]
  rfl
end Go.Proofs.Ytemhhhikopemmaa
