/- JournalSpoilt: answers true for every input, and its arguments read as before. No condition. The frame of this text was written by a program, after the kit's proof-skeleton. -/
import Derived.Test.YtemhhhikopemmaaJq
import Derived.Test.YtemhhhikopemmaaDkt
import Derived.Test.YtemhhhikopemmaaJe
import Derived.Test.YtemhhhikopemmaaDk4
import Derived.Test.YtemhhhikopemmaaJo
import Derived.Test.YtemhhhikopemmaaJw
import Derived.Test.YtemhhhikopemmaaOp
import Derived.WalkKit
import Derived.ProofKit
import Derived.OpenShut
import Derived.ShutString
import Derived.ChangeOld
import Derived.Below
import Derived.SizedLaws
namespace Go.Proofs.Ytemhhhikopemmaa
open Go.RowKit
attribute [local irreducible] takeL recordL hashL cellL
theorem turn_getElem {l : List Int} {k i : Nat} (h : i ≠ k / 8) : (turnL l k)[i]? = l[i]? := by
  unfold turnL
  rw [List.getElem?_set_ne (fun e => h e.symm)]
theorem cut_at {l : List Int} {j i : Nat} : (cutL l j)[i]? = if i < 64 then l[j * 64 + i]? else none := by
  unfold cutL
  rw [List.getElem?_take, List.getElem?_drop]
theorem cut_other {l : List Int} {k j : Nat} (h : j ≠ k / 512) : cutL (turnL l k) j = cutL l j := by
  apply List.ext_getElem?
  intro i
  rw [cut_at, cut_at]
  split
  · exact turn_getElem (by omega)
  · rfl
/-- The cell with the bit, turned. -/
def cellT (l : List Int) (k : Nat) : List Int := (cutL l (k / 512)).set (k / 8 % 64) (tbit ((cutL l (k / 512)).getD (k / 8 % 64) 0) k)
theorem cut_turn {l : List Int} {k : Nat} (hk : k < 8 * l.length) : cutL (turnL l k) (k / 512) = cellT l k := by
  apply List.ext_getElem?
  intro i
  unfold cellT
  rw [cut_at, List.getElem?_set]
  by_cases hi : i < 64
  · rw [if_pos hi]
    by_cases he : k / 8 % 64 = i
    · have hidx : k / 512 * 64 + i = k / 8 := by omega
      have hlen : k / 8 % 64 < (cutL l (k / 512)).length := by
        unfold cutL
        rw [List.length_take, List.length_drop]
        omega
      rw [if_pos he, if_pos (by omega), hidx]
      unfold turnL
      rw [List.getElem?_set_self (by omega)]
      have h1 : (cutL l (k / 512)).getD (k / 8 % 64) 0 = l.getD (k / 8) 0 := by
        rw [List.getD_eq_getElem?_getD, List.getD_eq_getElem?_getD, cut_at, if_pos (by omega), show k / 512 * 64 + k / 8 % 64 = k / 8 by omega]
      rw [h1]
    · rw [if_neg he, cut_at, if_pos hi]
      exact turn_getElem (by omega)
  · rw [if_neg hi]
    have h1 : (cutL l (k / 512)).length ≤ 64 := by
      unfold cutL
      rw [List.length_take]
      omega
    by_cases he : k / 8 % 64 = i
    · omega
    · rw [if_neg he, cut_at, if_neg hi]
def brokenF (l : List Int) (k : Nat) : Bool := decide (hashL 9 ((cellT l k).drop 8) 8 = (cellT l k).take 8)
attribute [local semireducible] takeL in
theorem take_other {l : List Int} {k j : Nat} (h : j ≠ k / 512) : takeL (turnL l k) j = takeL l j := by
  unfold takeL
  rw [turnL_len, cut_other h]
attribute [local semireducible] takeL in
theorem take_turn {l : List Int} {k : Nat} (hk : k < 8 * l.length) (hb : brokenF l k = false) : takeL (turnL l k) (k / 512) = none := by
  unfold takeL
  split
  · rfl
  · rw [cut_turn hk, if_pos]
    unfold brokenF at hb
    exact of_decide_eq_false hb
theorem cells_app (a b : List (List Int)) : cellsA (a ++ b) = cellsA a + cellsA b := by simp [cellsA]
theorem all_app (a : List (List Int)) : ∀ b, ∃ rest, allL (a ++ b) = allL a ++ rest := snoc_ind (P := fun b => ∃ rest, allL (a ++ b) = allL a ++ rest) ⟨[], by simp⟩ (fun l x ⟨rest, h⟩ => ⟨rest ++ recL (cellsA (a ++ l)) x, by rw [← List.append_assoc, allL_next, h, List.append_assoc]⟩)
theorem many_one (n : Nat) : 1 ≤ manyL n := by
  unfold manyL
  omega
/-- In which record a cell lies. -/
theorem cell_in {ls : List (List Int)} : ∀ {c : Nat}, c < cellsA ls → ∃ r, ∃ h : r < ls.length, cellsA (ls.take r) ≤ c ∧ c < cellsA (ls.take r) + manyL ls[r].length := by
  refine snoc_ind (P := fun ls => ∀ {c : Nat}, c < cellsA ls → ∃ r, ∃ h : r < ls.length, cellsA (ls.take r) ≤ c ∧ c < cellsA (ls.take r) + manyL ls[r].length) (fun {c} h => by simp [cellsA] at h) (fun l x ih c h => ?_) ls
  rw [cellsA_snoc] at h
  by_cases hc : c < cellsA l
  · obtain ⟨r, hr, h1, h2⟩ := ih hc
    refine ⟨r, by rw [List.length_append]; omega, ?_, ?_⟩
    · rw [List.take_append_of_le_length (by omega)]
      exact h1
    · rw [List.take_append_of_le_length (by omega), List.getElem_append_left hr]
      exact h2
  · refine ⟨l.length, by simp, ?_, ?_⟩
    · rw [List.take_left']
      · omega
      · rfl
    · rw [List.take_left' rfl, List.getElem_append_right (Nat.le_refl _)]
      simpa using h
/-- Every cell of a journal is right. -/
theorem take_all {ls : List (List Int)} {r i : Nat} (hr : r < ls.length) (hi : i < manyL ls[r].length) (hc : cellsA ls < 16777216) : takeL (allL ls) (cellsA (ls.take r) + i) = some (manyL ls[r].length - 1 - i, partL ls[r] i) := by
  have hsp : ls = ls.take r ++ [ls[r]] ++ ls.drop (r + 1) := by
    rw [List.append_assoc, List.singleton_append, ← List.drop_eq_getElem_cons hr, List.take_append_drop]
  obtain ⟨rest, h1⟩ := all_app (ls.take r ++ [ls[r]]) (ls.drop (r + 1))
  rw [← hsp, allL_next] at h1
  have h2 : cellsA ls = cellsA (ls.take r) + manyL ls[r].length + cellsA (ls.drop (r + 1)) := by
    conv => lhs; rw [hsp]
    rw [cells_app, cellsA_snoc]
  rw [h1]
  exact take_rec (allL_len _) hi (by omega)
theorem torn_yes {bs : List Int} {a i : Nat} (h : takeL bs (a + i) = none) : ∀ {n : Nat}, i < n → tornB bs a n = true
  | n + 1, hn => by
    rw [tornB]
    rcases Nat.lt_or_ge i n with h1 | h1
    · rw [torn_yes h h1]
      rfl
    · obtain rfl : i = n := by omega
      rw [h]
      simp
theorem torn_no {bs : List Int} {a : Nat} : ∀ {n : Nat}, (∀ i, i < n → (takeL bs (a + i)).isSome = true) → tornB bs a n = false
  | 0, _ => rfl
  | n + 1, h => by
    rw [tornB, torn_no (fun i hi => h i (by omega))]
    have := h n (by omega)
    cases hh : takeL bs (a + n) <;> simp_all
theorem halt_no {bs : List Int} {a : Nat} : ∀ {n : Nat}, (∀ i, i < n → (takeL bs (a + i)).isSome = true) → haltB bs a n = false
  | 0, _ => rfl
  | n + 1, h => by
    rw [haltB, halt_no (fun i hi => h i (by omega)), torn_no (fun i hi => h i (by omega))]
    simp
structure Spoilt (ls : List (List Int)) (k : Nat) (r : Nat) : Prop where
  hr : r < ls.length
  chain : chainL (turnL (allL ls) k) r = some (cellsA (ls.take r), ls.take r)
  ends : recordL (turnL (allL ls) k) (cellsA (ls.take r)) = none
  mid : k / 512 + 1 < cellsA ls → haltB (turnL (allL ls) k) (cellsA (ls.take r)) (cutN (turnL (allL ls) k) - cellsA (ls.take r)) = true
  last : ¬ k / 512 + 1 < cellsA ls → haltB (turnL (allL ls) k) (cellsA (ls.take r)) (cutN (turnL (allL ls) k) - cellsA (ls.take r)) = false ∧ r + 1 = ls.length
theorem go_none {t : List Int} {k0 many i0 : Nat} {p : Nat → List Int} (h0 : takeL t (k0 + i0) = none) (hi0 : i0 < many) (h : ∀ i, i < i0 → takeL t (k0 + i) = some (many - 1 - i, p i)) : ∀ {left i : Nat} {out : List Int}, i + left + 1 = many → i < i0 → goL t k0 left i out = none
  | 0, i, out, he, hi => by omega
  | left + 1, i, out, he, hi => by
    rw [goL]
    by_cases hc : i + 1 = i0
    · rw [show k0 + 1 + i = k0 + i0 by omega, h0]
    · rw [show k0 + 1 + i = k0 + (i + 1) by omega, h (i + 1) (by omega)]
      dsimp only
      split
      · exact go_none h0 hi0 h (by omega) (by omega)
      · rfl
attribute [local semireducible] recordL in
theorem rec_none {t : List Int} {k0 many i0 : Nat} {p : Nat → List Int} (h0 : takeL t (k0 + i0) = none) (hi0 : i0 < many) (h : ∀ i, i < i0 → takeL t (k0 + i) = some (many - 1 - i, p i)) : recordL t k0 = none := by
  unfold recordL
  by_cases hc : i0 = 0
  · subst hc
    rw [Nat.add_zero] at h0
    rw [h0]
  · have h1 := h 0 (by omega)
    rw [Nat.add_zero] at h1
    rw [h1]
    dsimp only
    split
    · rw [go_none h0 hi0 h (by omega) (by omega)]
      rfl
    · rfl
theorem turn_take {l : List Int} {k n : Nat} (h : n ≤ k / 8) : (turnL l k).take n = l.take n := by
  unfold turnL
  rw [List.take_set_of_le h]
theorem spoilt {ls : List (List Int)} {k : Nat} (hl : ∀ x ∈ ls, x.length ≤ 65536) (hc : cellsA ls < 16777216) (hk : k < 8 * (allL ls).length) (hb : brokenF (allL ls) k = false) : ∃ r, Spoilt ls k r := by
  have hlen := allL_len ls
  have hcell : k / 512 < cellsA ls := by omega
  obtain ⟨r, hr, h1, h2⟩ := cell_in hcell
  have ht := take_turn hk hb
  have hsome : ∀ j, j < cellsA ls → j ≠ k / 512 → (takeL (turnL (allL ls) k) j).isSome = true := fun j hj hne => by
    obtain ⟨q, hq, q1, q2⟩ := cell_in hj
    rw [take_other hne, show j = cellsA (ls.take q) + (j - cellsA (ls.take q)) by omega, take_all hq (by omega) hc]
    rfl
  have hcut : cutN (turnL (allL ls) k) = cellsA ls := by
    unfold cutN
    rw [turnL_len, hlen]
    omega
  have hsp : ls = ls.take r ++ [ls[r]] ++ ls.drop (r + 1) := by
    rw [List.append_assoc, List.singleton_append, ← List.drop_eq_getElem_cons hr, List.take_append_drop]
  have hsum : cellsA ls = cellsA (ls.take r) + manyL ls[r].length + cellsA (ls.drop (r + 1)) := by
    conv => lhs; rw [hsp]
    rw [cells_app, cellsA_snoc]
  refine ⟨r, hr, ?_, ?_, fun hm => ?_, fun hm => ⟨?_, ?_⟩⟩
  · obtain ⟨rest, ha⟩ := all_app (ls.take r) (ls.drop r)
    rw [List.take_append_drop] at ha
    have hlr := allL_len (ls.take r)
    have hpre : (turnL (allL ls) k).take (allL (ls.take r)).length = allL (ls.take r) := by
      rw [turn_take (by omega), ha, List.take_left' rfl]
    have hch := chain_all (ls.take r) (fun x hx => hl x (List.mem_of_mem_take hx)) (by omega) ((turnL (allL ls) k).drop (allL (ls.take r)).length)
    rw [List.length_take, Nat.min_eq_left (by omega)] at hch
    have hsplit : turnL (allL ls) k = allL (ls.take r) ++ (turnL (allL ls) k).drop (allL (ls.take r)).length := (List.take_append_drop (allL (ls.take r)).length (turnL (allL ls) k)).symm.trans (by rw [hpre])
    rw [hsplit]
    exact hch
  · have hn : takeL (turnL (allL ls) k) (cellsA (ls.take r) + (k / 512 - cellsA (ls.take r))) = none := by
      rw [show cellsA (ls.take r) + (k / 512 - cellsA (ls.take r)) = k / 512 by omega]
      exact ht
    refine rec_none (p := partL ls[r]) hn (many := manyL ls[r].length) (by omega) (fun i hi => ?_)
    rw [take_other (by omega)]
    exact take_all hr (by omega) hc
  · rw [hcut]
    obtain ⟨m, hm'⟩ : ∃ m, cellsA ls - cellsA (ls.take r) = m + 1 := ⟨cellsA ls - cellsA (ls.take r) - 1, by omega⟩
    rw [hm', haltB, torn_yes (i := k / 512 - cellsA (ls.take r)) (by rw [show cellsA (ls.take r) + (k / 512 - cellsA (ls.take r)) = k / 512 by omega]; exact ht) (by omega), hsome (cellsA (ls.take r) + m) (by omega) (by omega)]
    simp
  · rw [hcut]
    obtain ⟨m, hm'⟩ : ∃ m, cellsA ls - cellsA (ls.take r) = m + 1 := ⟨cellsA ls - cellsA (ls.take r) - 1, by omega⟩
    have hs : ∀ i, i < m → (takeL (turnL (allL ls) k) (cellsA (ls.take r) + i)).isSome = true := fun i hi => hsome _ (by omega) (by omega)
    rw [hm', haltB, halt_no hs, show cellsA (ls.take r) + m = k / 512 by omega, ht]
    rfl
  · have hd : cellsA (ls.drop (r + 1)) = 0 := by omega
    rcases Nat.lt_or_ge (r + 1) ls.length with h | h
    · exfalso
      rw [List.drop_eq_getElem_cons h] at hd
      have h3 : cellsA (ls[r + 1] :: ls.drop (r + 1 + 1)) = manyL ls[r + 1].length + cellsA (ls.drop (r + 1 + 1)) := rfl
      have := many_one ls[r + 1].length
      omega
    · omega
theorem cut_take {l : List Int} {m j : Nat} (h : (j + 1) * 64 ≤ m) : cutL (l.take m) j = cutL l j := by
  apply List.ext_getElem?
  intro i
  rw [cut_at, cut_at]
  split
  · rw [List.getElem?_take, if_pos (by omega)]
  · rfl
attribute [local semireducible] takeL in
theorem take_take {l : List Int} {m j : Nat} (h : (j + 1) * 64 ≤ m) (hm : m ≤ l.length) : takeL (l.take m) j = takeL l j := by
  have e1 : ¬ (l.take m).length < (j + 1) * 64 := by rw [List.length_take]; omega
  have e2 : ¬ l.length < (j + 1) * 64 := by omega
  unfold takeL
  rw [if_neg e1, if_neg e2, cut_take h]
theorem cells_next {ls : List (List Int)} {r : Nat} (hr : r < ls.length) : cellsA (ls.take (r + 1)) = cellsA (ls.take r) + manyL ls[r].length := by
  rw [List.take_succ_eq_append_getElem hr, cellsA_snoc]
theorem cells_mono {ls : List (List Int)} {a b : Nat} (h : a ≤ b) : cellsA (ls.take a) ≤ cellsA (ls.take b) := by
  have h1 : ls.take b = ls.take a ++ (ls.take b).drop a := by
    have h2 := (List.take_append_drop a (ls.take b)).symm
    rw [List.take_take, Nat.min_eq_left h] at h2
    exact h2
  rw [h1, cells_app]
  omega
theorem cells_strict {ls : List (List Int)} {a b : Nat} (h : a < b) (hb : b ≤ ls.length) : cellsA (ls.take a) < cellsA (ls.take b) := by
  have h1 := cells_next (ls := ls) (r := a) (by omega)
  have h2 := many_one (ls[a]'(by omega)).length
  have h3 := cells_mono (ls := ls) (a := a + 1) (b := b) (by omega)
  omega
/-- How many records are whole in the first m bytes. -/
structure Whole (ls : List (List Int)) (m r : Nat) : Prop where
  hr : r ≤ ls.length
  lo : cellsA (ls.take r) * 64 ≤ m
  hi : r < ls.length → m < cellsA (ls.take (r + 1)) * 64
theorem Whole.uniq {ls : List (List Int)} {m r r' : Nat} (h : Whole ls m r) (h' : Whole ls m r') : r = r' := by
  rcases Nat.lt_trichotomy r r' with hl | hl | hl
  · have h1 := h.hi (by have := h'.hr; omega)
    have h2 := cells_mono (ls := ls) (a := r + 1) (b := r') (by omega)
    have h3 := h'.lo
    omega
  · exact hl
  · have h1 := h'.hi (by have := h.hr; omega)
    have h2 := cells_mono (ls := ls) (a := r' + 1) (b := r) (by omega)
    have h3 := h.lo
    omega
theorem Whole.le {ls : List (List Int)} {m r a : Nat} (h : Whole ls m r) (h' : cellsA (ls.take a) * 64 ≤ m) (ha : a ≤ ls.length) : a ≤ r := by
  rcases Nat.lt_or_ge r a with hl | hl
  · have h1 := h.hi (by omega)
    have h2 := cells_mono (ls := ls) (a := r + 1) (b := a) (by omega)
    omega
  · exact hl
theorem whole_ex {ls : List (List Int)} {m : Nat} (hm : m ≤ (allL ls).length) : ∃ r, Whole ls m r := by
  have hlen := allL_len ls
  by_cases hc : m / 64 < cellsA ls
  · obtain ⟨r, hr, h1, h2⟩ := cell_in hc
    exact ⟨r, by omega, by omega, fun _ => by rw [cells_next hr]; omega⟩
  · refine ⟨ls.length, Nat.le_refl _, ?_, fun h => absurd h (Nat.lt_irrefl _)⟩
    rw [List.take_length]
    omega
theorem halt_last {bs : List Int} {a n : Nat} (h : ∀ i, i < n → (takeL bs (a + i)).isSome = true) : haltB bs a (n + 1) = false := by
  rw [haltB, halt_no h, torn_no h]
  simp
structure Cutd (bs : List Int) (k0 : Nat) (out : List (List Int)) (j : Nat) : Prop where
  chain : chainL bs j = some (k0, out)
  ends : recordL bs k0 = none
  halt : haltB bs k0 (cutN bs - k0) = false
/-- A journal cut: the records that are whole. -/
theorem cut_ok {ls : List (List Int)} {m r : Nat} (hl : ∀ x ∈ ls, x.length ≤ 65536) (hc : cellsA ls < 16777216) (hm : m ≤ (allL ls).length) (h : Whole ls m r) : Cutd ((allL ls).take m) (cellsA (ls.take r)) (ls.take r) r ∧ ((allL ls).take m).take (cellsA (ls.take r) * 64) = allL (ls.take r) := by
  have hlen := allL_len ls
  have hlr := allL_len (ls.take r)
  obtain ⟨hr, lo, hi⟩ := h
  obtain ⟨rest, ha⟩ := all_app (ls.take r) (ls.drop r)
  rw [List.take_append_drop] at ha
  have hpre : ((allL ls).take m).take (cellsA (ls.take r) * 64) = allL (ls.take r) := by
    rw [List.take_take, Nat.min_eq_left lo, ha, ← hlr, List.take_left' rfl]
  have hcle := cells_mono (ls := ls) hr
  rw [List.take_length] at hcle
  have hsome : ∀ j, (j + 1) * 64 ≤ m → (takeL ((allL ls).take m) j).isSome = true := fun j hj => by
    obtain ⟨q, hq, q1, q2⟩ := cell_in (ls := ls) (c := j) (by omega)
    rw [take_take hj hm, show j = cellsA (ls.take q) + (j - cellsA (ls.take q)) by omega, take_all hq (by omega) hc]
    rfl
  refine ⟨⟨?_, ?_, ?_⟩, hpre⟩
  · have hch := chain_all (ls.take r) (fun x hx => hl x (List.mem_of_mem_take hx)) (by omega) (((allL ls).take m).drop (cellsA (ls.take r) * 64))
    rw [List.length_take, Nat.min_eq_left hr, ← hpre, List.take_append_drop] at hch
    exact hch
  · by_cases hrl : r < ls.length
    · have h1 := hi hrl
      rw [cells_next hrl] at h1
      refine rec_none (p := partL ls[r]) (i0 := m / 64 - cellsA (ls.take r)) (many := manyL ls[r].length) ?_ (by omega) (fun i hi => ?_)
      · refine take_out ?_
        rw [List.length_take]
        omega
      · rw [take_take (by omega) hm]
        exact take_all hrl (by omega) hc
    · refine rec_out ?_
      rw [List.length_take]
      have : ls.take r = ls := List.take_of_length_le (by omega)
      rw [this]
      omega
  · have hcut : cutN ((allL ls).take m) = (m + 63) / 64 := by
      unfold cutN
      rw [List.length_take, Nat.min_eq_left hm]
    rw [hcut]
    cases hn : (m + 63) / 64 - cellsA (ls.take r) with
    | zero => rfl
    | succ n =>
      exact halt_last fun i hi => hsome _ (by omega)
end Go.Proofs.Ytemhhhikopemmaa
namespace Go.Proofs.Ytemhhhikopemmaa
open Go.RowKit Go.MapKept
attribute [local irreducible] Go.Calls Go.Exit.then Go.Exit.inBlock Go.bodyPost Go.Code.wp Go.wpList takeL recordL hashL recL allL
abbrev jC (gj g : Nat) (s : ByteArray) (n : Nat) : Fa := blk gj 91 [.pointer (some ⟨g, 0, none⟩), .string s, .int .i64 n]
structure Ok where
  gj : Nat
  q : SRow
  f : DF
theorem nth_Jh {φ : Prop} (h : φ := by (first | rfl | assumption)) : φ := h
theorem mid_Jh {φ : Prop} (h : φ := by (first | exact Mid.all | exact Mid.all | exact Mid.head)) : φ := h
theorem sz_Jh {φ : Prop} (h : φ := by (first | rfl | (rfl; first | done | fail))) : φ := h
theorem one_Jh {φ : Prop} (h : φ := by (first | assumption | exact first | exact one_bytes _ | exact ff_one | (simp only [List.mem_cons, List.not_mem_nil, or_false, forall_eq_or_imp, forall_eq]; decide) | exact one_bytes _)) : φ := h
theorem set_Jh {φ : Prop} (h : φ := by (first | (fail) | ((repeat (first | exact SetAt.here | apply SetAt.there)); first | done | fail))) : φ := h
theorem cl_Jh {φ : Prop} (h : φ := by first | rfl | exact .t | exact .f | exact .t (by omega) | exact .f (by omega) | exact .u | exact .i (by (first | exact .t (by omega) | exact .f (by omega) | exact .u | exact .i (by omega) | exact .v (by omega) | exact .b (by omega) | exact .w | rfl | omega)) | exact .v (by omega) | exact .b (by omega) | exact .q (by omega) | exact .w | exact .b (by exact at_) rfl (by exact nth_Jh) | exact .w (by exact at_) rfl rfl (by exact sz_Jh) | exact .s (by exact at_) (by exact mid_Jh) rfl rfl (by exact sz_Jh) | exact .z rfl rfl ⟨by kernel_rfl⟩ | exact .b rfl rfl ⟨by kernel_rfl⟩ | exact .a rfl rfl ⟨by kernel_rfl⟩ | exact .o rfl | exact .s | exact .n | exact .p rfl | exact .q rfl | exact .c rfl | exact .d rfl | exact .n rfl rfl (by omega) | exact .a rfl rfl (by omega) | exact .p rfl rfl (by omega) (by omega) | exact .y rfl rfl (by omega) (by omega) | exact .o (by exact at_) (by omega) rfl (by exact nth_Jh) | exact .m (by exact at_) (by omega) (by exact mid_Jh) rfl rfl (by exact sz_Jh) | exact .mlen (by exact at_) rfl | exact .t (by exact at_) rfl rfl (by first | exact True.intro | rfl) (by assumption) | exact .f (by exact at_) rfl rfl (by first | exact True.intro | rfl) (by assumption) rfl | exact .t1 (by exact at_) rfl rfl (by first | exact True.intro | rfl) (by assumption) | exact .f1 (by exact at_) rfl rfl (by first | exact True.intro | rfl) (by assumption) rfl | exact .r rfl rfl (by omega) (by omega) (by exact nth_Jh) rfl | exact .s rfl (by omega) (by assumption) | exact at_ | assumption | exact .r rfl rfl | exact .h rfl rfl rfl (by omega) | exact .l rfl rfl rfl (by omega) (by omega) | exact .g rfl rfl rfl rfl (by omega) (by omega) | exact .h rfl rfl (toN_ (by omega)) (by omega) | exact .l rfl rfl (toN_ (by omega)) (by omega) (by omega) | exact .g rfl rfl (toN_ (by omega)) (toN_ (by omega)) (by omega) (by omega) | exact .o (by decide) | exact .f (by decide) | exact .n (by omega) (by first | decide | (show _ ≤ ((64 : Nat) : Int); omega)) | (constructor; (repeat (first | exact .t (by omega) | exact .f (by omega) | exact .u | exact .i (by omega) | exact .v (by omega) | exact .b (by omega) | exact .w | rfl | omega)); first | done | fail) | omega | (show _ ≤ ((64 : Nat) : Int); omega)) : φ := h
theorem pv_Jh {φ : Prop} (h : φ := by constructor; (repeat exact cl_Jh); first | done | fail) : φ := h
theorem su_Jh {φ ψ : Prop} (k : ψ) (h : Hide ψ → φ := by (intro k; (first | refine sl_pu (PuI.sep (by exact pv_Jh)) rfl ?_ | refine sl_yes rfl rfl ?_ | refine sl_no rfl rfl rfl ?_ | refine sl_off rfl rfl rfl ?_ | (fail)); exact k.out)) : φ := h ⟨k⟩
theorem rq_Jh {φ ψ : Prop} (k : ψ) (h : Hide ψ → φ := by (intro k; (first | refine wq_pu (PuI.sep (by exact pv_Jh)) rfl ?_ | refine wq_yes rfl rfl ?_ | refine wq_no rfl rfl rfl ?_ | refine wq_off rfl rfl rfl ?_ | (fail)); exact k.out)) : φ := h ⟨k⟩
theorem sto_Jh {φ ψ : Prop} (k : ψ) (h : Hide ψ → φ := by (intro k; (first | refine sl_store rfl (by exact pick_) rfl rfl (by kernel_rfl) (by exact set_Jh) ?_ | refine sl_store_whole rfl (by exact pick_) rfl (by exact sz_Jh) (by exact sz_Jh) (by exact one_Jh) ?_); exact k.out)) : φ := h ⟨k⟩
theorem go_Jh {φ ψ : Prop} (k : ψ) (h : Hide ψ → φ := by (intro k; (repeat (first | refine su_Jh ?_ | refine so_ ?_ | refine sto_Jh ?_)); exact k.out)) : φ := h ⟨k⟩
set_option maxRecDepth 100000 in
set_option maxHeartbeats 2000000 in
theorem open_halt {K : List Fa} {g m ck j0 k0 : Nat} {lim : Int} {f : DF} {out0 : List (List Int)} (hn : f.l.length ≤ 1048576) (hob : IsBytes f.l) (hc0 : chainL f.l j0 = some (k0, out0)) (he0 : recordL f.l k0 = none) (hh : haltB f.l k0 (cutN f.l - k0) = true) :
    Fn Try.prog 22 #[.pointer (some ⟨g, 0, none⟩), .string f.s] (dB g m lim :: dM m [f] ck :: dS [f] :: K) (Ret (fun _ : Unit => True) (fun _ => .tuple #[.pointer none, .slice none 0 0, .int .i64 23]) (fun _ => dB g m lim :: dM m [f] ck :: dS [f] :: K)) := by
  refine fn_enter Try.func22 rfl _ Try.ntmps22 (by simp) [(0, .pointer (some ⟨g, 0, none⟩)), (1, .string f.s)] (args_of (by simp)) ?_
  refine go_Jh ?_
  refine sl_call rfl rfl (by kernel_rfl) rfl Sub.refl (readD_ok (fs := [f]) (f := f) (m := m) (ck := ck) (lim := lim) (by exact at_) (by exact at_) (by exact at_) (List.mem_singleton.2 rfl) (by omega)) ?_
  rintro ⟨A1, c1⟩ -
  dsimp only
  refine sl_know (fun w hw => (own_len (e := 5) (size := 1) (A := A1) hw (by exact at_)).2) ?_
  rintro ⟨l1, l2⟩
  refine go_Jh ?_
  have hsc := scan_ok (K := u8o A1 c1 f.l :: dB g m lim :: dM m [f] ck :: dS [f] :: K) (A := A1) (n := f.l.length) (c := c1) (bs := f.l) ⟨Vw.of_own (e := 5) .here, l1, by omega, l2, rfl, hob⟩ (by omega) hc0 he0
  rw [hh, ScA_no] at hsc
  refine sl_call rfl rfl (by kernel_rfl) rfl Sub.refl hsc ?_
  rintro _ -
  refine go_Jh ?_
  exact se_ret3 () trivial rfl rfl rfl rfl rfl (by exact sub_)
set_option maxRecDepth 100000 in
set_option maxHeartbeats 2000000 in
theorem open_go {K : List Fa} {g m ck j0 k0 : Nat} {lim : Int} {f : DF} {out0 : List (List Int)} (hn : f.l.length ≤ 1048576) (hob : IsBytes f.l) (hsy : f.sy ≤ f.l.length) (hk0 : k0 * 64 ≤ f.l.length) (hc0 : chainL f.l j0 = some (k0, out0)) (he0 : recordL f.l k0 = none) (hh : haltB f.l k0 (cutN f.l - k0) = false) :
    Fn Try.prog 22 #[.pointer (some ⟨g, 0, none⟩), .string f.s] (dB g m lim :: dM m [f] ck :: dS [f] :: K) (Ret (fun p : Ok => (p.q.xs.map Sx.l = out0 ∧ ∀ x ∈ p.q.xs, x.ok) ∧ p.f.s = f.s ∧ p.f.l = f.l.take (k0 * 64) ∧ p.f.sy = if k0 * 64 < f.l.length then k0 * 64 else f.sy) (fun p => .tuple #[.pointer (some ⟨p.gj, 0, none⟩), .slice p.q.R p.q.xs.length p.q.c, .int .i64 0]) (fun p => jC p.gj g f.s k0 :: p.q.row :: p.q.st :: dB g m lim :: dM m [p.f] ck :: dS [p.f] :: K)) := by
  refine fn_enter Try.func22 rfl _ Try.ntmps22 (by simp) [(0, .pointer (some ⟨g, 0, none⟩)), (1, .string f.s)] (args_of (by simp)) ?_
  refine go_Jh ?_
  refine sl_call rfl rfl (by kernel_rfl) rfl Sub.refl (readD_ok (fs := [f]) (f := f) (m := m) (ck := ck) (lim := lim) (by exact at_) (by exact at_) (by exact at_) (List.mem_singleton.2 rfl) (by omega)) ?_
  rintro ⟨A1, c1⟩ -
  dsimp only
  refine sl_know (fun w hw => (own_len (e := 5) (size := 1) (A := A1) hw (by exact at_)).2) ?_
  rintro ⟨l1, l2⟩
  refine go_Jh ?_
  have hsc := scan_ok (K := u8o A1 c1 f.l :: dB g m lim :: dM m [f] ck :: dS [f] :: K) (A := A1) (n := f.l.length) (c := c1) (bs := f.l) ⟨Vw.of_own (e := 5) .here, l1, by omega, l2, rfl, hob⟩ (by omega) hc0 he0
  rw [hh, ScA_yes] at hsc
  refine sl_call rfl rfl (by kernel_rfl) rfl Sub.refl hsc ?_
  rintro q hq
  by_cases hcut : k0 * 64 < f.l.length
  · rw [if_pos hcut]
    refine go_Jh ?_
    have hct := cutD_ok (K := q.row :: q.st :: K) (g := g) (m := m) (ck := ck) (lim := lim) (k := ((k0 * 64 : Nat) : Int)) (X := []) (Y := []) (f := f) (by omega) hn hsy
    rw [show (k0 : Int) * 64 = ((k0 * 64 : Nat) : Int) by omega]
    refine sl_call rfl rfl (by kernel_rfl) rfl (by exact sub_) hct ?_
    rintro f2 ⟨hs2, hl2, hy2⟩
    rw [Int.toNat_natCast] at hl2 hy2
    rw [← hs2]
    refine go_Jh ?_
    refine sl_call rfl rfl (by kernel_rfl) rfl (by exact sub_) (syncD_ok (K := dS ([] ++ f2 :: []) :: q.row :: q.st :: K) (X := []) (Y := []) (f := f2) (g := g) (m := m) (ck := ck) (lim := lim)) ?_
    rintro _ -
    rw [← ds_sy (X := []) (Y := []) (k := f2.l.length)]
    refine go_Jh ?_
    refine sl_pu (pu_build (v := .agg #[.pointer (some ⟨g, 0, none⟩), .string f2.s, .int .i64 k0]) rfl (fun W => by kernel_rfl)) rfl ?_
    refine sl_box rfl rfl rfl ?_; intro gj
    refine go_Jh ?_
    have hlen2 : f2.l.length = k0 * 64 := by rw [hl2, List.length_take]; omega
    exact se_ret3 ⟨gj, q, { f2 with sy := f2.l.length }⟩ ⟨hq, rfl, hl2, hlen2⟩ rfl rfl rfl rfl rfl (by exact sub_)
  · rw [if_neg hcut]
    refine go_Jh ?_
    refine sl_pu (pu_build (v := .agg #[.pointer (some ⟨g, 0, none⟩), .string f.s, .int .i64 k0]) rfl (fun W => by kernel_rfl)) rfl ?_
    refine sl_box rfl rfl rfl ?_; intro gj
    refine go_Jh ?_
    exact se_ret3 ⟨gj, q, f⟩ ⟨hq, rfl, by rw [List.take_of_length_le (by omega)], rfl⟩ rfl rfl rfl rfl rfl (by exact sub_)
end Go.Proofs.Ytemhhhikopemmaa
namespace Go.Proofs.Ytemhhhikopemmaa
open Go.RowKit Go.MapKept
attribute [local irreducible] Go.Calls Go.Exit.then Go.Exit.inBlock Go.bodyPost Go.Code.wp Go.wpList takeL recordL hashL recL allL
theorem xor_byte (x y : Int) : 0 ≤ bits .xor .u8 x y ∧ bits .xor .u8 x y < 256 := by
  have h : ∀ z : Int, 0 ≤ IntKind.u8.wrap z ∧ IntKind.u8.wrap z < 256 := fun z => by
    rw [IntKind.wrap_u8]
    omega
  unfold bits
  exact h _
theorem tbit_byte {x : Int} (k : Nat) : 0 ≤ tbit x k ∧ tbit x k < 256 := xor_byte x _
theorem turn_bytes {l : List Int} {k : Nat} (h : IsBytes l) : IsBytes (turnL l k) := by
  intro x hx
  unfold turnL at hx
  rcases List.mem_or_eq_of_mem_set hx with hx | hx
  · exact h x hx
  · rw [hx]
    exact tbit_byte k
theorem chain_ex {bs : List Int} (hb : IsBytes bs) : ∀ (n : Nat) {j k : Nat} {out : List (List Int)}, chainL bs j = some (k, out) → k * 64 ≤ bs.length → bs.length / 64 - k ≤ n → ∃ j k out, chainL bs j = some (k, out) ∧ recordL bs k = none ∧ k * 64 ≤ bs.length
  | n, j, k, out, hc, hk, hn => by
    cases hr : recordL bs k with
    | none => exact ⟨j, k, out, hc, hr, hk⟩
    | some p =>
      obtain ⟨x, m⟩ := p
      obtain ⟨h1, _, h2, _⟩ := recordL_some hr hb
      cases n with
      | zero => omega
      | succ n =>
        refine chain_ex hb n (j := j + 1) (k := k + m) (out := out ++ [x]) ?_ h2 (by omega)
        rw [chainL, hc]
        dsimp only
        rw [hr]
def LsVC (w : World) (v : Value) : Prop := ∃ (R : Option Addr) (c : Nat) (xs : List Bx), v = .slice R xs.length c ∧ LsW w R xs ∧ xs.length ≤ c ∧ c ≤ maxLen
theorem open_lsC {H : Type} {enc : TypeId × Value → H} {w : World} {base : Nat} {spare : Nat → Bool} {held : Bool} {fuel : Nat} {x : DataW H × List MemPlace} {v : Value} (h : DataW.trod enc Try.prog w base spare held fuel 22 v.cells.toList = some x) (hv : ∃ A n c, v = .slice A n c) : LsVC w v := by
  obtain ⟨A0, n0, c0, rfl⟩ := hv
  obtain ⟨A, n, c, xs, hcs, hl, hr, hk, hc, hm⟩ := open_rows (X := Bx) 1 (fun b => [b.v]) (fun b => b.ok w) Try.underlying22 (by kernel_rfl) (fun _ _ _ h => open_bx h) h
  rw [flat_one] at hr
  subst hl
  have hcs' : Value.slice A0 n0 c0 = .slice A xs.length c := by simpa [Value.cells] using hcs
  exact ⟨A, c, xs, hcs', ⟨hr, fun x hx => (hk x hx).1⟩, hc, hm⟩
theorem LsV.take {K : List Fa} {R : Option Addr} {xs : List Bx} (h : LsV K R xs) {m : Nat} (hm : m ≤ xs.length) : LsV K R (xs.take m) := by
  refine ⟨fun w hw => ?_, fun x hx => h.el x (List.mem_of_mem_take hx)⟩
  have h1 := (h.vw w hw).take (k := m) hm
  rw [Nat.mul_one, ← List.map_take] at h1
  rw [List.length_take, Nat.min_eq_left hm]
  exact h1
theorem nth_Ji {φ : Prop} (h : φ := by (first | rfl | assumption)) : φ := h
theorem mid_Ji {φ : Prop} (h : φ := by (first | exact Mid.all | exact Mid.all | exact Mid.head)) : φ := h
theorem sz_Ji {φ : Prop} (h : φ := by (first | rfl | (rfl; first | done | fail))) : φ := h
theorem one_Ji {φ : Prop} (h : φ := by (first | assumption | exact first | exact one_bytes _ | exact ff_one | (simp only [List.mem_cons, List.not_mem_nil, or_false, forall_eq_or_imp, forall_eq]; decide) | exact one_bytes _)) : φ := h
theorem set_Ji {φ : Prop} (h : φ := by (first | (fail) | ((repeat (first | exact SetAt.here | apply SetAt.there)); first | done | fail))) : φ := h
theorem cl_Ji {φ : Prop} (h : φ := by first | rfl | exact .t | exact .f | exact .t (by omega) | exact .f (by omega) | exact .u | exact .i (by (first | exact .t (by omega) | exact .f (by omega) | exact .u | exact .i (by omega) | exact .v (by omega) | exact .b (by omega) | exact .w | rfl | omega)) | exact .v (by omega) | exact .b (by omega) | exact .q (by omega) | exact .w | exact .b (by exact at_) rfl (by exact nth_Ji) | exact .w (by exact at_) rfl rfl (by exact sz_Ji) | exact .s (by exact at_) (by exact mid_Ji) rfl rfl (by exact sz_Ji) | exact .z rfl rfl ⟨by kernel_rfl⟩ | exact .b rfl rfl ⟨by kernel_rfl⟩ | exact .a rfl rfl ⟨by kernel_rfl⟩ | exact .o rfl | exact .s | exact .n | exact .p rfl | exact .q rfl | exact .c rfl | exact .d rfl | exact .n rfl rfl (by omega) | exact .a rfl rfl (by omega) | exact .p rfl rfl (by omega) (by omega) | exact .y rfl rfl (by omega) (by omega) | exact .o (by exact at_) (by omega) rfl (by exact nth_Ji) | exact .m (by exact at_) (by omega) (by exact mid_Ji) rfl rfl (by exact sz_Ji) | exact .mlen (by exact at_) rfl | exact .t (by exact at_) rfl rfl (by first | exact True.intro | rfl) (by assumption) | exact .f (by exact at_) rfl rfl (by first | exact True.intro | rfl) (by assumption) rfl | exact .t1 (by exact at_) rfl rfl (by first | exact True.intro | rfl) (by assumption) | exact .f1 (by exact at_) rfl rfl (by first | exact True.intro | rfl) (by assumption) rfl | exact .r rfl rfl (by omega) (by omega) (by exact nth_Ji) rfl | exact .s rfl (by omega) (by assumption) | exact at_ | assumption | exact .r rfl rfl | exact .h rfl rfl rfl (by omega) | exact .l rfl rfl rfl (by omega) (by omega) | exact .g rfl rfl rfl rfl (by omega) (by omega) | exact .h rfl rfl (toN_ (by omega)) (by omega) | exact .l rfl rfl (toN_ (by omega)) (by omega) (by omega) | exact .g rfl rfl (toN_ (by omega)) (toN_ (by omega)) (by omega) (by omega) | exact .o (by decide) | exact .f (by decide) | exact .n (by omega) (by first | decide | (show _ ≤ ((64 : Nat) : Int); omega)) | (constructor; (repeat (first | exact .t (by omega) | exact .f (by omega) | exact .u | exact .i (by omega) | exact .v (by omega) | exact .b (by omega) | exact .w | rfl | omega)); first | done | fail) | omega | (show _ ≤ ((64 : Nat) : Int); omega)) : φ := h
theorem pv_Ji {φ : Prop} (h : φ := by constructor; (repeat exact cl_Ji); first | done | fail) : φ := h
theorem su_Ji {φ ψ : Prop} (k : ψ) (h : Hide ψ → φ := by (intro k; (first | refine sl_pu (PuI.sep (by exact pv_Ji)) rfl ?_ | refine sl_yes rfl rfl ?_ | refine sl_no rfl rfl rfl ?_ | refine sl_off rfl rfl rfl ?_ | (fail)); exact k.out)) : φ := h ⟨k⟩
theorem rq_Ji {φ ψ : Prop} (k : ψ) (h : Hide ψ → φ := by (intro k; (first | refine wq_pu (PuI.sep (by exact pv_Ji)) rfl ?_ | refine wq_yes rfl rfl ?_ | refine wq_no rfl rfl rfl ?_ | refine wq_off rfl rfl rfl ?_ | (fail)); exact k.out)) : φ := h ⟨k⟩
theorem sto_Ji {φ ψ : Prop} (k : ψ) (h : Hide ψ → φ := by (intro k; (first | refine sl_store rfl (by exact pick_) rfl rfl (by kernel_rfl) (by exact set_Ji) ?_ | refine sl_store_whole rfl (by exact pick_) rfl (by exact sz_Ji) (by exact sz_Ji) (by exact one_Ji) ?_); exact k.out)) : φ := h ⟨k⟩
theorem go_Ji {φ ψ : Prop} (k : ψ) (h : Hide ψ → φ := by (intro k; (repeat (first | refine su_Ji ?_ | refine so_ ?_ | refine sto_Ji ?_)); exact k.out)) : φ := h ⟨k⟩
set_option maxRecDepth 100000 in
set_option maxHeartbeats 2000000 in
theorem broken_ok {K : List Fa} {A : Option Addr} {n c k : Nat} {bs : List Int} (h : Rd K A n c bs) (hk : (k / 512 + 1) * 64 ≤ n) :
    Fn Try.prog 23 #[.slice A n c, .int .i64 k] K (Ret (fun _ : Unit => True) (fun _ => .bool (brokenF bs k)) (fun _ => K)) := by
  refine fn_enter Try.func23 rfl _ Try.ntmps23 (by simp) [(0, .slice A n c), (1, .int .i64 k)] (args_of (by simp)) ?_
  have hle := h.le
  have hbig := h.big
  refine go_Ji ?_
  refine sl_build0 (e := 5) (size := 1) rfl (fun W => by kernel_rfl) rfl ?_
  intro g0
  refine go_Ji ?_
  rw [show ((k : Int) / 8 / 64 * 64 + 64).toNat - ((k : Int) / 8 / 64 * 64).toNat = 64 by omega, show ((k : Int) / 8 / 64 * 64).toNat = k / 512 * 64 by omega]
  have hr : Rd K (cutA A c (k / 512 * 64) 1) 64 (c - k / 512 * 64) (cutL bs (k / 512)) := (h.next (k := k / 512 * 64) (by omega)).front (m := 64) (by omega)
  have hbr : brokenF bs k = decide (hashL 9 (((cutL bs (k / 512)).set (k / 8 % 64) (tbit ((cutL bs (k / 512)).getD (k / 8 % 64) 0) k)).drop 8) 8 = ((cutL bs (k / 512)).set (k / 8 % 64) (tbit ((cutL bs (k / 512)).getD (k / 8 % 64) 0) k)).take 8) := rfl
  rw [hbr]
  have hkb : k ≤ 9007199254740992 := by omega
  clear hbr h hk hle hbig
  generalize cutA A c (k / 512 * 64) 1 = B at hr ⊢
  generalize c - k / 512 * 64 = cb at hr ⊢
  generalize cutL bs (k / 512) = cl at hr ⊢
  have hcl := hr.len
  refine sl_app rfl (by exact pick_) rfl (hr.vw.mono (by exact sub_)) (one_bytes _) rfl Try.info5 (by decide) (by decide) rfl (by unfold maxLen; omega) (by omega) ?_
  intro A2 c2
  rw [Nat.zero_add, List.nil_append]
  refine sl_form (e := 5) (size := 1) (A := A2) (m := 64) (by exact at_) (by omega) ?_
  rintro ga rfl
  refine sl_know (fun w hw => (own_len (e := 5) (size := 1) (A := some ⟨ga, 0, none⟩) hw (by exact at_)).2) ?_
  rintro ⟨l1, l2⟩
  have hnx : nth (bytes cl) (((k : Int) / 8 % 64).toNat * 1) = some (.int .u8 (cl.getD (k / 8 % 64) 0)) := by
    rw [nth_eq, Nat.mul_one, show ((k : Int) / 8 % 64).toNat = k / 8 % 64 by omega]
    simp [bytes, List.getD, show k / 8 % 64 < cl.length by omega]
  refine go_Ji ?_
  refine sd_drawn (fun W => AllP W [own 5 1 (some ⟨ga, 0, none⟩) 64 c2 (bytes cl)]) (fun i => !(List.contains [11] i)) (by kernel_rfl) 12 rfl ?_
  refine sd_yes2 0 rfl (by exact gd_) (by kernel_rfl) (by kernel_rfl) (by exact nop_) (PuI.all (by exact pv_Ji)) rfl (fun w hw => all_ hw) ?_
  refine sd_yes2 1 rfl (by exact gd_) (by kernel_rfl) (by kernel_rfl) (by exact nop_) (PuI.all (by exact pv_Ji)) rfl (fun w hw => all_ hw) ?_
  refine sd_yes2 2 rfl (by exact gd_) (by kernel_rfl) (by kernel_rfl) (by exact nop_) (PuI.all (by exact pv_Ji)) rfl (fun w hw => all_ hw) ?_
  refine sd_yes2 3 rfl (by exact gd_) (by kernel_rfl) (by kernel_rfl) (by exact nop_) (PuI.all (by exact pv_Ji)) rfl (fun w hw => all_ hw) ?_
  refine sd_yes2 4 rfl (by exact gd_) (by kernel_rfl) (by kernel_rfl) (by exact nop_) (PuI.all (by exact pv_Ji)) rfl (fun w hw => all_ hw) ?_
  refine sd_yes2 5 rfl (by exact gd_) (by kernel_rfl) (by kernel_rfl) (by exact nop_) (PuI.all (by exact pv_Ji)) rfl (fun w hw => all_ hw) ?_
  refine sd_yes2 6 rfl (by exact gd_) (by kernel_rfl) (by kernel_rfl) (by exact nop_) (PuI.all (by exact pv_Ji)) rfl (fun w hw => all_ hw) ?_
  refine sd_yes2 7 rfl (by exact gd_) (by kernel_rfl) (by kernel_rfl) (by exact nop_) (PuI.all (by exact pv_Ji)) rfl (fun w hw => all_ hw) ?_
  refine sd_yes2 8 rfl (by exact gd_) (by kernel_rfl) (by kernel_rfl) (by exact nop_) (pu_shl rfl rfl (by omega) (by show _ ≤ ((8 : Nat) : Int); omega)) rfl (fun w hw => all_ hw) ?_
  refine sd_yes2 9 rfl (by exact gd_) (by kernel_rfl) (by kernel_rfl) (by exact nop_) (pu_xor rfl rfl) rfl (fun w hw => all_ hw) ?_
  refine sd_yes2 10 rfl (by exact gd_) (by kernel_rfl) (by kernel_rfl) (by exact nop_) (PuI.all (by exact pv_Ji)) rfl (fun w hw => all_ hw) ?_
  refine sd_one 11 (by kernel_rfl) (sa_sl 11 rfl ?_)
  rw [add_none, show 0 + ((k : Int) / 8 % 64).toNat * 1 = k / 8 % 64 by omega, show ((k : Int) % 8).toNat = k % 8 by omega]
  refine sl_sto (e := 5) (size := 1) (k := 64) (c := c2) (xs := bytes cl) rfl (by exact pick_) rfl rfl rfl (by omega) ?_
  rw [bytes_set]
  refine sl_nil ?_
  refine se_sd (fun h => absurd h (by decide)) ?_
  refine sd_done (by kernel_rfl) ?_
  rw [show cl.set (k / 8 % 64) (bits .xor .u8 (cl.getD (k / 8 % 64) 0) (IntKind.u8.wrap (1 * 2 ^ (k % 8)))) = cl.set (k / 8 % 64) (tbit (cl.getD (k / 8 % 64) 0) k) from rfl]
  have hcb : IsBytes (cl.set (k / 8 % 64) (tbit (cl.getD (k / 8 % 64) 0) k)) := by
    intro x hx
    rcases List.mem_or_eq_of_mem_set hx with hx | hx
    · exact hr.okb x hx
    · rw [hx]
      exact tbit_byte k
  have hcn : (cl.set (k / 8 % 64) (tbit (cl.getD (k / 8 % 64) 0) k)).length = 64 := by rw [List.length_set]; exact hcl
  generalize cl.set (k / 8 % 64) (tbit (cl.getD (k / 8 % 64) 0) k) = cx at hcb hcn ⊢
  have hx : Rd (own 5 1 (some ⟨ga, 0, none⟩) 64 c2 (bytes cx) :: K) (some ⟨ga, 0, none⟩) 64 c2 cx := ⟨Vw.of_own (e := 5) .here, l1, by omega, l2, hcn, hcb⟩
  have hd := hx.next (k := 8) (by omega)
  have hh := hashL_ok 9 (cx.drop 8) 8
  refine go_Ji ?_
  refine sd_drawn (S2 (own 5 1 (some ⟨ga, 0, none⟩) 64 c2 (bytes cx) :: K) []) (fun _ => true) (by kernel_rfl) 9 rfl ?_
  refine sd_yes2 0 rfl (by exact gd_) (by kernel_rfl) (by kernel_rfl) (by exact nop_) (PuI.all2 (by exact pv_Ji)) rfl (fun w hw => ⟨hw.sub (by exact sub_), by exact all_ hw⟩) ?_
  refine sd_yes2 1 rfl (by exact gd_) (by kernel_rfl) (by kernel_rfl) (by exact nop_) (PuI.all2 (by exact pv_Ji)) rfl (fun w hw => ⟨hw.sub (by exact sub_), by exact all_ hw⟩) ?_
  refine sd_yes2 4 rfl (by exact gd_) (by kernel_rfl) (by kernel_rfl) (by exact nop_) (PuI.all2 (by exact pv_Ji)) rfl (fun w hw => ⟨hw.sub (by exact sub_), by exact all_ hw⟩) ?_
  refine sd_yes2 5 rfl (by exact gd_) (by kernel_rfl) (by kernel_rfl) (by exact nop_) (pu_slice_hn (j := 8) rfl rfl rfl rfl rfl (by omega)) rfl (fun w hw => ⟨hw.sub (by exact sub_), by exact all_ hw⟩) ?_
  refine sd_yes2 6 rfl (by exact gd_) (by kernel_rfl) (by kernel_rfl) (by exact nop_) (pu_str (bs := cx.take 8) rfl rfl rfl rfl (fun W hW => (hx.front (m := 8) (by omega)).vw W hW.1)) rfl (fun w hw => ⟨hw.sub (by exact sub_), by exact all_ hw⟩) ?_
  refine sd_one 2 (by kernel_rfl) (sa_sl 2 rfl ?_)
  refine sl_call rfl rfl (by kernel_rfl) rfl Sub.refl (hash_ok (m := 56) (n := 8) (by decide) (by decide) (by decide) (hd.vw.mono (by exact sub_)) hd.okb hd.len (by omega)) ?_
  rintro ⟨A1, c1⟩ -
  refine sl_nil ?_
  refine se_sd (fun _ w hw => ⟨hw.sub (by exact sub_), by exact all_ hw⟩) ?_
  refine sd_one 3 (by kernel_rfl) (sa_sl 3 rfl ?_)
  refine sl_pu (pu_strv (Vw.of_own (e := 5) (c := c1) (by exact at_)) rfl rfl rfl rfl) rfl ?_
  refine sl_nil ?_
  refine se_sd (fun _ w hw => ⟨hw.sub (by exact sub_), by exact all_ hw⟩) ?_
  refine sd_yes2 7 rfl (by exact gd_) (by kernel_rfl) (by kernel_rfl) (by exact nop_) (PuI.all2 (by exact pv_Ji)) rfl (fun w hw => ⟨hw.sub (by exact sub_), by exact all_ hw⟩) ?_
  refine sd_yes2 8 rfl (by exact gd_) (by kernel_rfl) (by kernel_rfl) (by exact nop_) (PuI.all2 (by exact pv_Ji)) rfl (fun w hw => ⟨hw.sub (by exact sub_), by exact all_ hw⟩) ?_
  refine sd_done (by kernel_rfl) ?_
  rw [strs_dec hh.2 (hcb.take 8)]
  refine go_Ji ?_
  exact se_ret1 () trivial rfl rfl (by exact sub_)
end Go.Proofs.Ytemhhhikopemmaa
namespace Go.Proofs.Ytemhhhikopemmaa
open Go.RowKit Go.MapKept
attribute [local irreducible] Go.Calls Go.Exit.then Go.Exit.inBlock Go.bodyPost Go.Code.wp Go.wpList takeL recordL hashL recL allL
theorem nth_Jx {φ : Prop} (h : φ := by (first | rfl | rfl)) : φ := h
theorem mid_Jx {φ : Prop} (h : φ := by (first | exact Mid.all | exact Mid.all | exact Mid.head)) : φ := h
theorem sz_Jx {φ : Prop} (h : φ := by (first | rfl | (rfl; first | done | fail))) : φ := h
theorem one_Jx {φ : Prop} (h : φ := by (first | assumption | exact one_bytes _ | (simp only [List.mem_cons, List.not_mem_nil, or_false, forall_eq_or_imp, forall_eq]; decide) | exact one_bytes _)) : φ := h
theorem set_Jx {φ : Prop} (h : φ := by (first | (fail) | ((repeat (first | exact SetAt.here | apply SetAt.there)); first | done | fail))) : φ := h
theorem cl_Jx {φ : Prop} (h : φ := by first | rfl | exact .t | exact .f | exact .t (by omega) | exact .f (by omega) | exact .u | exact .i (by (first | exact .t (by omega) | exact .f (by omega) | exact .u | exact .i (by omega) | exact .v (by omega) | exact .b (by omega) | exact .w | rfl | omega)) | exact .v (by omega) | exact .b (by omega) | exact .q (by omega) | exact .w | exact .b (by exact at_) rfl (by exact nth_Jx) | exact .w (by exact at_) rfl rfl (by exact sz_Jx) | exact .s (by exact at_) (by exact mid_Jx) rfl rfl (by exact sz_Jx) | exact .z rfl rfl ⟨by kernel_rfl⟩ | exact .b rfl rfl ⟨by kernel_rfl⟩ | exact .a rfl rfl ⟨by kernel_rfl⟩ | exact .o rfl | exact .s | exact .n | exact .p rfl | exact .q rfl | exact .c rfl | exact .d rfl | exact .n rfl rfl (by omega) | exact .a rfl rfl (by omega) | exact .p rfl rfl (by omega) (by omega) | exact .y rfl rfl (by omega) (by omega) | exact .o (by exact at_) (by omega) rfl (by exact nth_Jx) | exact .m (by exact at_) (by omega) (by exact mid_Jx) rfl rfl (by exact sz_Jx) | exact .mlen (by exact at_) rfl | exact .t (by exact at_) rfl rfl (by first | exact True.intro | rfl) (by assumption) | exact .f (by exact at_) rfl rfl (by first | exact True.intro | rfl) (by assumption) rfl | exact .t1 (by exact at_) rfl rfl (by first | exact True.intro | rfl) (by assumption) | exact .f1 (by exact at_) rfl rfl (by first | exact True.intro | rfl) (by assumption) rfl | exact .r rfl rfl (by omega) (by omega) (by exact nth_Jx) rfl | exact .s rfl (by omega) (by assumption) | exact at_ | assumption | exact .r rfl rfl | exact .h rfl rfl rfl (by omega) | exact .l rfl rfl rfl (by omega) (by omega) | exact .g rfl rfl rfl rfl (by omega) (by omega) | exact .h rfl rfl (toN_ (by omega)) (by omega) | exact .l rfl rfl (toN_ (by omega)) (by omega) (by omega) | exact .g rfl rfl (toN_ (by omega)) (toN_ (by omega)) (by omega) (by omega) | exact .o (by decide) | exact .f (by decide) | exact .n (by omega) (by first | decide | (show _ ≤ ((64 : Nat) : Int); omega)) | (constructor; (repeat (first | exact .t (by omega) | exact .f (by omega) | exact .u | exact .i (by omega) | exact .v (by omega) | exact .b (by omega) | exact .w | rfl | omega)); first | done | fail) | omega | (show _ ≤ ((64 : Nat) : Int); omega)) : φ := h
theorem pv_Jx {φ : Prop} (h : φ := by constructor; (repeat exact cl_Jx); first | done | fail) : φ := h
theorem su_Jx {φ ψ : Prop} (k : ψ) (h : Hide ψ → φ := by (intro k; (first | refine sl_pu (PuI.sep (by exact pv_Jx)) rfl ?_ | refine sl_yes rfl rfl ?_ | refine sl_no rfl rfl rfl ?_ | refine sl_off rfl rfl rfl ?_ | (fail)); exact k.out)) : φ := h ⟨k⟩
theorem rq_Jx {φ ψ : Prop} (k : ψ) (h : Hide ψ → φ := by (intro k; (first | refine wq_pu (PuI.sep (by exact pv_Jx)) rfl ?_ | refine wq_yes rfl rfl ?_ | refine wq_no rfl rfl rfl ?_ | refine wq_off rfl rfl rfl ?_ | (fail)); exact k.out)) : φ := h ⟨k⟩
theorem sto_Jx {φ ψ : Prop} (k : ψ) (h : Hide ψ → φ := by (intro k; (first | refine sl_store rfl (by exact pick_) rfl rfl (by kernel_rfl) (by exact set_Jx) ?_ | refine sl_store_whole rfl (by exact pick_) rfl (by exact sz_Jx) (by exact sz_Jx) (by exact one_Jx) ?_); exact k.out)) : φ := h ⟨k⟩
theorem go_Jx {φ ψ : Prop} (k : ψ) (h : Hide ψ → φ := by (intro k; (repeat (first | refine su_Jx ?_ | refine so_ ?_ | refine sto_Jx ?_)); exact k.out)) : φ := h ⟨k⟩
set_option maxRecDepth 100000 in
set_option maxHeartbeats 8000000 in
theorem lawSpoilt_ok {w : World} {R : Option Addr} {cr a : Nat} {xs : List Bx} (hx : LsW w R xs) (hxc : xs.length ≤ cr) (hcm : cr ≤ maxLen) (ha : a ≤ 4294967295) :
    Fn Try.prog 4 #[.slice R xs.length cr, .int .u32 a] [old w] (Ret (fun _ : Unit => True) (fun _ => .bool true) (fun _ => [old w])) := by
  refine fn_enter Try.func4 rfl _ Try.ntmps4 (by simp) [(0, .slice R xs.length cr), (1, .int .u32 a)] (args_of (by simp)) ?_
  have hxm : xs.length ≤ 9223372036854775807 := by unfold maxLen at hcm; omega
  refine go_Jx ?_
  refine sl_call rfl rfl (by kernel_rfl) rfl (by exact sub_) awake17 ?_
  rintro _ -
  by_cases h12 : 10 < xs.length
  · refine go_Jx ?_
    exact se_ret1 () trivial rfl rfl (by exact sub_)
  by_cases h0 : xs.length = 0
  · refine go_Jx ?_
    exact se_ret1 () trivial rfl rfl (by exact sub_)
  refine go_Jx ?_
  refine sc_bjoin (fun _ : Unit => [(0, .slice R xs.length cr), (1, .int .u32 a)]) (fun _ => [old w]) (fun _ => ∀ x ∈ xs, x.l.length ≤ 200) ?_ ?_
  · refine sc_for (fun i : Nat => [(0, .slice R xs.length cr), (1, .int .u32 a), (25, .slice R xs.length cr), (26, .int .i64 xs.length), (27, .int .i64 i)]) (fun _ => [old w]) (fun i => i ≤ xs.length ∧ ∀ x ∈ xs.take i, x.l.length ≤ 200) (fun i => xs.length - i) 0 (by exact has_) (by exact sub_) ⟨Nat.zero_le _, fun x hx => by simp at hx⟩ ?_
    rintro i ⟨hi, hall⟩
    by_cases hlt : i < xs.length
    · have hv : Vw [old w] (fun w => Reads w 1 R xs.length (xs.map Bx.v)) := Vw.of_old .here hx.vw
      have hxl : xs[i].l.length ≤ 9223372036854775807 := by
        have h1 := (hx.el _ (List.getElem_mem hlt)).2.2
        have h2 := h1.2
        unfold maxLen at h2
        exact Nat.le_trans h1.1 h2
      refine sc_know (vw_form hv (by omega)) ?_
      rintro ⟨ad, rfl⟩
      refine go_Jx ?_
      refine sl_pu (pu_ldr hv (by omega) rfl rfl (bx_nth hlt)) rfl ?_
      by_cases h400 : 200 < xs[i].l.length
      · refine go_Jx ?_
        exact se_ret1 () trivial rfl rfl (by exact sub_)
      · refine go_Jx ?_
        refine se_round (i + 1) (by exact has_) (by exact sub_) ⟨hlt, fun x hx => ?_⟩ (by omega)
        rw [List.take_succ_eq_append_getElem hlt] at hx
        rcases List.mem_append.1 hx with hx | hx
        · exact hall x hx
        · rw [List.mem_singleton] at hx
          subst hx
          omega
    · obtain rfl : i = xs.length := by omega
      rw [List.take_length] at hall
      refine go_Jx ?_
      exact se_mid () (by exact has_) (by exact sub_) hall
  rintro _ hall
  have hls := hx.to (fun x hx => by have := hall x hx; omega)
  refine go_Jx ?_
  refine sl_call rfl rfl (by kernel_rfl) rfl Sub.refl (all_ok (hls.mono (by exact sub_)) (by omega) (fun x hx => by have := hall x hx; omega)) ?_
  rintro ⟨⟨A3, c3⟩, ⟨A4, c4⟩⟩ -
  dsimp only
  have hll : ∀ y ∈ xs.map Bx.l, y.length ≤ 200 := fun y hy => by
    obtain ⟨z, hz, rfl⟩ := List.mem_map.1 hy
    exact hall z hz
  have hca : cellsA (xs.map Bx.l) ≤ 10 * 201 := by
    have h1 := cellsA_le hll
    have h2 : (xs.map Bx.l).length * (200 + 1) ≤ 10 * (200 + 1) := Nat.mul_le_mul_right _ (by simp; omega)
    omega
  have hc1 : 1 ≤ cellsA (xs.map Bx.l) := by
    have h1 := cells_strict (ls := xs.map Bx.l) (a := 0) (b := (xs.map Bx.l).length) (by rw [List.length_map]; omega) (Nat.le_refl _)
    rw [List.take_length] at h1
    omega
  have hal := allL_len (xs.map Bx.l)
  have hab := allL_bytes (xs.map Bx.l) (fun y hy => by
    obtain ⟨z, hz, rfl⟩ := List.mem_map.1 hy
    exact (hx.el z hz).2.1)
  have hsp : ∀ k, k < 8 * (allL (xs.map Bx.l)).length → brokenF (allL (xs.map Bx.l)) k = false → ∃ r, Spoilt (xs.map Bx.l) k r := fun k hk hb => spoilt (fun y hy => by have := hll y hy; omega) (by omega) hk hb
  obtain ⟨k, hk⟩ : ∃ k : Nat, (a : Int) % (8 * ((cellsA (xs.map Bx.l) * 64 : Nat) : Int)) = k := ⟨((a : Int) % (8 * ((cellsA (xs.map Bx.l) * 64 : Nat) : Int))).toNat, (Int.toNat_of_nonneg (Int.emod_nonneg _ (by omega))).symm⟩
  have hk8 : k < 8 * (cellsA (xs.map Bx.l) * 64) := by
    have h1 := Int.emod_lt_of_pos (a : Int) (b := 8 * ((cellsA (xs.map Bx.l) * 64 : Nat) : Int)) (by omega)
    omega
  refine go_Jx ?_
  rw [hk]
  refine go_Jx ?_
  rw [show (k : Int) / 8 / 64 = ((k / 512 : Nat) : Int) by omega]
  refine go_Jx ?_
  refine sl_call rfl rfl (by kernel_rfl) rfl Sub.refl newD_ok ?_
  rintro ⟨g, m⟩ -
  dsimp only
  rw [show limL 1048576 = 1048576 by rfl]
  refine go_Jx ?_
  have happ := appD_new (K := own 5 1 A3 (cellsA (xs.map Bx.l) * 64) c3 (bytes (allL (xs.map Bx.l))) :: own 3 1 A4 xs.length c4 (isv (endsI (xs.map Bx.l) xs.length)) :: [old w]) (g := g) (m := m) (s := sj) (fs := []) (ck := 0) (lim := 1048576) (B := A3) (cb := c3) (b := allL (xs.map Bx.l)) (by decide) (by decide) nohas (by decide) (by decide) (by rw [hal]; show _ + (0 : Int) ≤ _; omega) (by rw [hal]; exact Vw.of_own (e := 5) (c := c3) (by exact at_))
  rw [hal] at happ
  have hrd0 : ∀ L : List Fa, Sub L [own 5 1 A3 (cellsA (xs.map Bx.l) * 64) c3 (bytes (allL (xs.map Bx.l)))] → ∀ l1 : cellsA (xs.map Bx.l) * 64 ≤ c3, ∀ l2 : c3 ≤ maxLen, Rd L A3 (cellsA (xs.map Bx.l) * 64) c3 (allL (xs.map Bx.l)) := fun L h l1 l2 => ⟨(Vw.of_own (e := 5) .here).mono h, l1, by omega, l2, hal, hab⟩
  refine sl_know (fun w hw => (own_len (e := 5) (size := 1) (A := A3) hw (by exact at_)).2) ?_
  rintro ⟨l1, l2⟩
  obtain ⟨j0, k0, out0, hch, hre, hk0⟩ := chain_ex (turn_bytes (k := k) hab) (allL (xs.map Bx.l)).length (j := 0) (k := 0) (out := []) rfl (by omega) (by rw [turnL_len]; omega)
  have htl : (turnL (allL (xs.map Bx.l)) k).length = cellsA (xs.map Bx.l) * 64 := by rw [turnL_len, hal]
  refine sl_call rfl rfl (by kernel_rfl) rfl Sub.refl happ ?_
  rintro ⟨A5, c5⟩ -
  dsimp only [List.nil_append]
  refine go_Jx ?_
  refine sl_call rfl rfl (by kernel_rfl) rfl Sub.refl (syncD_ok (X := []) (Y := []) (f := ⟨sj, A5, c5, allL (xs.map Bx.l), 0, 0⟩) (g := g) (m := m) (ck := 1) (lim := 1048576)) ?_
  rintro _ -
  dsimp only [List.nil_append]
  refine go_Jx ?_
  refine sl_call rfl rfl (by kernel_rfl) rfl Sub.refl (turnD_ok (X := []) (Y := []) (k := k) (f := ⟨sj, A5, c5, allL (xs.map Bx.l), (allL (xs.map Bx.l)).length, 0⟩) (g := g) (m := m) (ck := 1) (lim := 1048576) (by dsimp only; rw [hal]; exact hk8) (by dsimp only; omega)) ?_
  rintro ⟨A6, c6⟩ -
  dsimp only [List.nil_append]
  refine go_Jx ?_
  have hbk := fun L h => broken_ok (K := L) (k := k) (hrd0 L h l1 l2) (by omega)
  by_cases hh : haltB (turnL (allL (xs.map Bx.l)) k) k0 (cutN (turnL (allL (xs.map Bx.l)) k) - k0) = true
  · refine sl_call rfl rfl (by kernel_rfl) rfl Sub.refl (open_halt (f := ⟨sj, A6, c6, turnL (allL (xs.map Bx.l)) k, (allL (xs.map Bx.l)).length, 0⟩) (by dsimp only; omega) (turn_bytes hab) hch hre hh) ?_
    rintro _ -
    refine go_Jx ?_
    refine sl_call rfl rfl (by kernel_rfl) rfl Sub.refl (hbk _ (by exact sub_)) ?_
    rintro _ -
    cases hb : brokenF (allL (xs.map Bx.l)) k with
    | true =>
      refine go_Jx ?_
      exact se_ret1 () trivial rfl rfl (by exact sub_)
    | false =>
      obtain ⟨r, hS⟩ := hsp k (by omega) hb
      obtain ⟨e1, e2⟩ := chain_end hS.chain hS.ends hch hre
      have hmid : k / 512 + 1 < cellsA (xs.map Bx.l) := by
        rcases Nat.lt_or_ge (k / 512 + 1) (cellsA (xs.map Bx.l)) with h | h
        · exact h
        · have h1 := (hS.last (by omega)).1
          rw [e1, hh] at h1
          cases h1
      refine go_Jx ?_
      exact se_ret1 () trivial rfl rfl (by exact sub_)
  · have hh0 : haltB (turnL (allL (xs.map Bx.l)) k) k0 (cutN (turnL (allL (xs.map Bx.l)) k) - k0) = false := by simpa using hh
    refine sl_call rfl rfl (by kernel_rfl) rfl Sub.refl (open_go (f := ⟨sj, A6, c6, turnL (allL (xs.map Bx.l)) k, (allL (xs.map Bx.l)).length, 0⟩) (by dsimp only; omega) (turn_bytes hab) (by dsimp only; omega) hk0 hch hre hh0) ?_
    rintro ⟨gj, q, f2⟩ ⟨⟨hq1, hq2⟩, -, -, -⟩
    dsimp only at hq1 hq2 ⊢
    refine go_Jx ?_
    refine sl_call rfl rfl (by kernel_rfl) rfl Sub.refl (hbk _ (by exact sub_)) ?_
    rintro _ -
    cases hb : brokenF (allL (xs.map Bx.l)) k with
    | true =>
      refine go_Jx ?_
      exact se_ret1 () trivial rfl rfl (by exact sub_)
    | false =>
      obtain ⟨r, hS⟩ := hsp k (by omega) hb
      obtain ⟨e1, e2⟩ := chain_end hS.chain hS.ends hch hre
      have hmid : ¬ k / 512 + 1 < cellsA (xs.map Bx.l) := fun h => by
        have h1 := hS.mid h
        rw [e1, hh0] at h1
        cases h1
      have hr1 := (hS.last hmid).2
      rw [List.length_map] at hr1
      have hsm : decide ((q.xs.map Sx.bx).map Bx.l = (xs.take r).map Bx.l) = true := decide_eq_true (by rw [SRow.ls_l (q := q), hq1, ← e2, List.map_take])
      have hql : q.xs.length = r := by
        have := congrArg List.length hq1
        rw [← e2, List.length_map, List.length_take, List.length_map] at this
        omega
      have hsame : ∀ L : List Fa, Sub L [q.row, q.st] → Sub L [old w] → Fn Try.prog 17 #[.slice q.R q.xs.length q.c, .slice R (xs.take r).length cr] L (Ret (fun _ : Unit => True) (fun _ => .bool true) (fun _ => L)) := fun L h1 h2 => by
        have h3 := same_ok (c := q.c) (d := cr) ((SRow.ls (q := q) .here (.there .here) hq2).mono h1) ((hls.mono h2).take (m := r) (by omega)) (by rw [List.length_map, hql]; omega)
        rw [hsm, List.length_map] at h3
        exact h3
      rw [List.length_take, Nat.min_eq_left (by omega : r ≤ xs.length)] at hsame
      refine go_Jx ?_
      rw [show ((xs.length : Int) - 1).toNat = r by omega]
      refine sl_call rfl rfl (by kernel_rfl) rfl Sub.refl (hsame _ (by exact sub_) (by exact sub_)) ?_
      rintro _ -
      refine go_Jx ?_
      exact se_ret1 () trivial rfl rfl (by exact sub_)
theorem Spoilt_v {v : Value} {a : Int} {w : World} (ha : 0 ≤ a ∧ a ≤ 4294967295) (h : LsVC w v) : Calls Try.prog 4 #[v, .int .u32 a] w fun e w' => e = .returned (.bool true) ∧ Fr Nil w w' := by
  obtain ⟨o, rfl⟩ : ∃ o : Nat, a = o := ⟨a.toNat, by omega⟩
  obtain ⟨R, c, xs, rfl, h1, h2, h3⟩ := h
  exact Fn.top (lawSpoilt_ok h1 h2 h3 (by omega))
end Go.Proofs.Ytemhhhikopemmaa
namespace Go.Proofs.Ytemhhhikopemmaa.journalSpoilt
open Go.ChangeShapes Go.WideShapes Go.ChangeAt Go.RowKit
open Go.ChangeMaps (open_string shut_string)
set_option linter.unusedVariables false

theorem own : ownKnob Try.prog.godebug = none := by kernel_rfl
theorem laidOut : laidOutB Try.prog = true := by kernel_rfl

set_option maxRecDepth 100000 in
theorem lifted (os : Os) (started : os.Started) (H : Type) (enc : TypeId × Value → H) :
    ReturnsInHanded {} Try.checked os 4 .any (Rows.journalSpoiltSpec.pre6 enc Try.prog Try.f4 Rows.journalSpoiltRow.domain false) (Rows.journalSpoiltSpec.post enc Try.prog Try.f4 false true false false) := by
  refine returnsInHanded_of_change_sized (C := Try.checked) own started (by kernel_rfl) Try.func4
    (ChangeSpec.witness6 (enc := enc) (C := Try.checked) false ⟨#[], #[.slice none 0 0, .int .u32 0], []⟩ 8 (by kernel_rfl) (by kernel_rfl) (by kernel_rfl) (by kernel_rfl)) ?_
  intro W base args ds gs before hval0 hW hcnd hsz _
  have hval : ∀ (j : Nat) t v, Try.f4.params[j]? = some t → args[j]? = some v → Value.okWide Try.prog W .any base t v := hval0
  have hW' := hW
  obtain ⟨p, q, hA0, hV, rfl, hfz, hnd⟩ := hW
  have hA : DataW.TrodAll enc Try.prog W 0 (fun _ => true) true Try.f4.params.toList args.toList ds p := hA0
  rw [Try.params4] at hA hval
  obtain ⟨v0, vs0, d0, ds0, p0, q0, hargs, rfl, rfl, h0, r0⟩ := trodAll_cons hA
  obtain ⟨v1, vs1, d1, ds1, p1, q1, rfl, rfl, rfl, h1, r1⟩ := trodAll_cons r0
  obtain ⟨rfl, rfl, rfl⟩ := trodAll_nil r1
  obtain rfl : args = #[v0, v1] := by cases args; simp_all
  obtain ⟨rfl, rfl⟩ := trodVars_none hV
  have k0 := h0
  have lt0 : ∀ x ∈ p0, x.block < W.heap.size := by obtain ⟨m, hm⟩ := k0; exact DataW.trod_lt m _ _ _ hm
  have sl0 : ∃ A n c, v0 = .slice A n c := okWide_slice Try.underlying22 (hval 0 22 v0 rfl rfl)
  have o0 : LsVC W v0 := by obtain ⟨fuel, hf⟩ := h0; exact open_lsC hf sl0
  obtain ⟨a1, rfl, rfl, rfl, w1⟩ := open_int Try.underlying37 (hval 1 37 v1 rfl rfl) h1
  have b1 : 0 ≤ a1 ∧ a1 ≤ 4294967295 := by simpa [Lit.wf, IntKind.min, IntKind.max, IntKind.signed, IntKind.bits] using w1
  clear hA0 hval0
  refine (Spoilt_v b1 o0).mono fun e W' ⟨he, hf⟩ => ?_
  subst he
  have bel := hf.nil_below
  exact ⟨_, rfl, _, _, _, [], _, [], hW', trodAll_mk1 (shut_bool Try.underlying4 _), (trodAll_cons_mk (Below.trod laidOut (by kernel_rfl) (of_decide_eq_true (by kernel_rfl)) k0 bel lt0) (trodAll_cons_mk (shut_int Try.underlying37 w1) trodAll_mk0)), rfl, bel.frame _, fun h => by cases h⟩

theorem over : Rows.journalSpoiltRow.holds Try.pinned (OpenSpec.ofChange Rows.journalSpoiltSpec) :=
  OpenClaim.holds_of_wide 4 Try.f4 rfl rfl rfl rfl rfl rfl rfl ⟨rfl, rfl, rfl, rfl, rfl⟩ rfl rfl rfl rfl rfl (by kernel_rfl) Try.func4 (by kernel_rfl)
    (of_decide_eq_true (by kernel_rfl)) (by unfold Func.isWrapper; first | (rw [if_pos (by decide +kernel)]; kernel_rfl) | (rw [if_neg (by decide +kernel)]; exact ⟨rfl, rfl⟩))
    (fun os started H enc _ => lifted os started H enc)

/-- ████ THE STATEMENT ████ -/
theorem proved : Rows.JournalSpoiltSaid := over
end Go.Proofs.Ytemhhhikopemmaa.journalSpoilt
