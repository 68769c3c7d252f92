/- Several texts of one claim, one behind the other (Jg, Ji, Srt, Shl). -/
import Derived.Test.YtemhhhikopemmaaB17
import Derived.Test.YtemhhhikopemmaaB21
import Derived.Test.YtemhhhikopemmaaB09
import Derived.Shelf.SlSortCmp.NoneTotal
import Derived.Shelf.Sort.Plain
import Derived.Shelf.Slices.In.SortNone
import Derived.Test.YtemhhhikopemmaaB01
/- A journal with a bit turned. Plain. -/
namespace Go.Proofs.Ytemhhhikopemmaa
open Go.RowKit
attribute [local irreducible] takeL recordL hashL cellL
theorem turn_getElem {l : List Int} {k i : Nat} (h : i ≠ k / 8) : (turnL l k)[i]? = l[i]? := by
  unfold turnL
  rw [List.getElem?_set_ne (fun e => h e.symm)]
theorem cut_at {l : List Int} {j i : Nat} : (cutL l j)[i]? = if i < 64 then l[j * 64 + i]? else none := by
  unfold cutL
  rw [List.getElem?_take, List.getElem?_drop]
theorem cut_other {l : List Int} {k j : Nat} (h : j ≠ k / 512) : cutL (turnL l k) j = cutL l j := by
  apply List.ext_getElem?
  intro i
  rw [cut_at, cut_at]
  split
  · exact turn_getElem (by omega)
  · rfl
/-- The cell with the bit, turned. -/
def cellT (l : List Int) (k : Nat) : List Int := (cutL l (k / 512)).set (k / 8 % 64) (tbit ((cutL l (k / 512)).getD (k / 8 % 64) 0) k)
theorem cut_turn {l : List Int} {k : Nat} (hk : k < 8 * l.length) : cutL (turnL l k) (k / 512) = cellT l k := by
  apply List.ext_getElem?
  intro i
  unfold cellT
  rw [cut_at, List.getElem?_set]
  by_cases hi : i < 64
  · rw [if_pos hi]
    by_cases he : k / 8 % 64 = i
    · have hidx : k / 512 * 64 + i = k / 8 := by omega
      have hlen : k / 8 % 64 < (cutL l (k / 512)).length := by
        unfold cutL
        rw [List.length_take, List.length_drop]
        omega
      rw [if_pos he, if_pos (by omega), hidx]
      unfold turnL
      rw [List.getElem?_set_self (by omega)]
      have h1 : (cutL l (k / 512)).getD (k / 8 % 64) 0 = l.getD (k / 8) 0 := by
        rw [List.getD_eq_getElem?_getD, List.getD_eq_getElem?_getD, cut_at, if_pos (by omega), show k / 512 * 64 + k / 8 % 64 = k / 8 by omega]
      rw [h1]
    · rw [if_neg he, cut_at, if_pos hi]
      exact turn_getElem (by omega)
  · rw [if_neg hi]
    have h1 : (cutL l (k / 512)).length ≤ 64 := by
      unfold cutL
      rw [List.length_take]
      omega
    by_cases he : k / 8 % 64 = i
    · omega
    · rw [if_neg he, cut_at, if_neg hi]
def brokenF (l : List Int) (k : Nat) : Bool := decide (hashL 9 ((cellT l k).drop 8) 8 = (cellT l k).take 8)
attribute [local semireducible] takeL in
theorem take_other {l : List Int} {k j : Nat} (h : j ≠ k / 512) : takeL (turnL l k) j = takeL l j := by
  unfold takeL
  rw [turnL_len, cut_other h]
attribute [local semireducible] takeL in
theorem take_turn {l : List Int} {k : Nat} (hk : k < 8 * l.length) (hb : brokenF l k = false) : takeL (turnL l k) (k / 512) = none := by
  unfold takeL
  split
  · rfl
  · rw [cut_turn hk, if_pos]
    unfold brokenF at hb
    exact of_decide_eq_false hb
theorem cells_app (a b : List (List Int)) : cellsA (a ++ b) = cellsA a + cellsA b := by simp [cellsA]
theorem all_app (a : List (List Int)) : ∀ b, ∃ rest, allL (a ++ b) = allL a ++ rest := snoc_ind (P := fun b => ∃ rest, allL (a ++ b) = allL a ++ rest) ⟨[], by simp⟩ (fun l x ⟨rest, h⟩ => ⟨rest ++ recL (cellsA (a ++ l)) x, by rw [← List.append_assoc, allL_next, h, List.append_assoc]⟩)
theorem many_one (n : Nat) : 1 ≤ manyL n := by
  unfold manyL
  omega
/-- In which record a cell lies. -/
theorem cell_in {ls : List (List Int)} : ∀ {c : Nat}, c < cellsA ls → ∃ r, ∃ h : r < ls.length, cellsA (ls.take r) ≤ c ∧ c < cellsA (ls.take r) + manyL ls[r].length := by
  refine snoc_ind (P := fun ls => ∀ {c : Nat}, c < cellsA ls → ∃ r, ∃ h : r < ls.length, cellsA (ls.take r) ≤ c ∧ c < cellsA (ls.take r) + manyL ls[r].length) (fun {c} h => by simp [cellsA] at h) (fun l x ih c h => ?_) ls
  rw [cellsA_snoc] at h
  by_cases hc : c < cellsA l
  · obtain ⟨r, hr, h1, h2⟩ := ih hc
    refine ⟨r, by rw [List.length_append]; omega, ?_, ?_⟩
    · rw [List.take_append_of_le_length (by omega)]
      exact h1
    · rw [List.take_append_of_le_length (by omega), List.getElem_append_left hr]
      exact h2
  · refine ⟨l.length, by simp, ?_, ?_⟩
    · rw [List.take_left']
      · omega
      · rfl
    · rw [List.take_left' rfl, List.getElem_append_right (Nat.le_refl _)]
      simpa using h
/-- Every cell of a journal is right. -/
theorem take_all {ls : List (List Int)} {r i : Nat} (hr : r < ls.length) (hi : i < manyL ls[r].length) (hc : cellsA ls < 16777216) : takeL (allL ls) (cellsA (ls.take r) + i) = some (manyL ls[r].length - 1 - i, partL ls[r] i) := by
  have hsp : ls = ls.take r ++ [ls[r]] ++ ls.drop (r + 1) := by
    rw [List.append_assoc, List.singleton_append, ← List.drop_eq_getElem_cons hr, List.take_append_drop]
  obtain ⟨rest, h1⟩ := all_app (ls.take r ++ [ls[r]]) (ls.drop (r + 1))
  rw [← hsp, allL_next] at h1
  have h2 : cellsA ls = cellsA (ls.take r) + manyL ls[r].length + cellsA (ls.drop (r + 1)) := by
    conv => lhs; rw [hsp]
    rw [cells_app, cellsA_snoc]
  rw [h1]
  exact take_rec (allL_len _) hi (by omega)
theorem torn_yes {bs : List Int} {a i : Nat} (h : takeL bs (a + i) = none) : ∀ {n : Nat}, i < n → tornB bs a n = true
  | n + 1, hn => by
    rw [tornB]
    rcases Nat.lt_or_ge i n with h1 | h1
    · rw [torn_yes h h1]
      rfl
    · obtain rfl : i = n := by omega
      rw [h]
      simp
theorem torn_no {bs : List Int} {a : Nat} : ∀ {n : Nat}, (∀ i, i < n → (takeL bs (a + i)).isSome = true) → tornB bs a n = false
  | 0, _ => rfl
  | n + 1, h => by
    rw [tornB, torn_no (fun i hi => h i (by omega))]
    have := h n (by omega)
    cases hh : takeL bs (a + n) <;> simp_all
theorem halt_no {bs : List Int} {a : Nat} : ∀ {n : Nat}, (∀ i, i < n → (takeL bs (a + i)).isSome = true) → haltB bs a n = false
  | 0, _ => rfl
  | n + 1, h => by
    rw [haltB, halt_no (fun i hi => h i (by omega)), torn_no (fun i hi => h i (by omega))]
    simp
structure Spoilt (ls : List (List Int)) (k : Nat) (r : Nat) : Prop where
  hr : r < ls.length
  chain : chainL (turnL (allL ls) k) r = some (cellsA (ls.take r), ls.take r)
  ends : recordL (turnL (allL ls) k) (cellsA (ls.take r)) = none
  mid : k / 512 + 1 < cellsA ls → haltB (turnL (allL ls) k) (cellsA (ls.take r)) (cutN (turnL (allL ls) k) - cellsA (ls.take r)) = true
  last : ¬ k / 512 + 1 < cellsA ls → haltB (turnL (allL ls) k) (cellsA (ls.take r)) (cutN (turnL (allL ls) k) - cellsA (ls.take r)) = false ∧ r + 1 = ls.length
theorem go_none {t : List Int} {k0 many i0 : Nat} {p : Nat → List Int} (h0 : takeL t (k0 + i0) = none) (hi0 : i0 < many) (h : ∀ i, i < i0 → takeL t (k0 + i) = some (many - 1 - i, p i)) : ∀ {left i : Nat} {out : List Int}, i + left + 1 = many → i < i0 → goL t k0 left i out = none
  | 0, i, out, he, hi => by omega
  | left + 1, i, out, he, hi => by
    rw [goL]
    by_cases hc : i + 1 = i0
    · rw [show k0 + 1 + i = k0 + i0 by omega, h0]
    · rw [show k0 + 1 + i = k0 + (i + 1) by omega, h (i + 1) (by omega)]
      dsimp only
      split
      · exact go_none h0 hi0 h (by omega) (by omega)
      · rfl
attribute [local semireducible] recordL in
theorem rec_none {t : List Int} {k0 many i0 : Nat} {p : Nat → List Int} (h0 : takeL t (k0 + i0) = none) (hi0 : i0 < many) (h : ∀ i, i < i0 → takeL t (k0 + i) = some (many - 1 - i, p i)) : recordL t k0 = none := by
  unfold recordL
  by_cases hc : i0 = 0
  · subst hc
    rw [Nat.add_zero] at h0
    rw [h0]
  · have h1 := h 0 (by omega)
    rw [Nat.add_zero] at h1
    rw [h1]
    dsimp only
    split
    · rw [go_none h0 hi0 h (by omega) (by omega)]
      rfl
    · rfl
theorem turn_take {l : List Int} {k n : Nat} (h : n ≤ k / 8) : (turnL l k).take n = l.take n := by
  unfold turnL
  rw [List.take_set_of_le h]
theorem spoilt {ls : List (List Int)} {k : Nat} (hl : ∀ x ∈ ls, x.length ≤ 65536) (hc : cellsA ls < 16777216) (hk : k < 8 * (allL ls).length) (hb : brokenF (allL ls) k = false) : ∃ r, Spoilt ls k r := by
  have hlen := allL_len ls
  have hcell : k / 512 < cellsA ls := by omega
  obtain ⟨r, hr, h1, h2⟩ := cell_in hcell
  have ht := take_turn hk hb
  have hsome : ∀ j, j < cellsA ls → j ≠ k / 512 → (takeL (turnL (allL ls) k) j).isSome = true := fun j hj hne => by
    obtain ⟨q, hq, q1, q2⟩ := cell_in hj
    rw [take_other hne, show j = cellsA (ls.take q) + (j - cellsA (ls.take q)) by omega, take_all hq (by omega) hc]
    rfl
  have hcut : cutN (turnL (allL ls) k) = cellsA ls := by
    unfold cutN
    rw [turnL_len, hlen]
    omega
  have hsp : ls = ls.take r ++ [ls[r]] ++ ls.drop (r + 1) := by
    rw [List.append_assoc, List.singleton_append, ← List.drop_eq_getElem_cons hr, List.take_append_drop]
  have hsum : cellsA ls = cellsA (ls.take r) + manyL ls[r].length + cellsA (ls.drop (r + 1)) := by
    conv => lhs; rw [hsp]
    rw [cells_app, cellsA_snoc]
  refine ⟨r, hr, ?_, ?_, fun hm => ?_, fun hm => ⟨?_, ?_⟩⟩
  · obtain ⟨rest, ha⟩ := all_app (ls.take r) (ls.drop r)
    rw [List.take_append_drop] at ha
    have hlr := allL_len (ls.take r)
    have hpre : (turnL (allL ls) k).take (allL (ls.take r)).length = allL (ls.take r) := by
      rw [turn_take (by omega), ha, List.take_left' rfl]
    have hch := chain_all (ls.take r) (fun x hx => hl x (List.mem_of_mem_take hx)) (by omega) ((turnL (allL ls) k).drop (allL (ls.take r)).length)
    rw [List.length_take, Nat.min_eq_left (by omega)] at hch
    have hsplit : turnL (allL ls) k = allL (ls.take r) ++ (turnL (allL ls) k).drop (allL (ls.take r)).length := (List.take_append_drop (allL (ls.take r)).length (turnL (allL ls) k)).symm.trans (by rw [hpre])
    rw [hsplit]
    exact hch
  · have hn : takeL (turnL (allL ls) k) (cellsA (ls.take r) + (k / 512 - cellsA (ls.take r))) = none := by
      rw [show cellsA (ls.take r) + (k / 512 - cellsA (ls.take r)) = k / 512 by omega]
      exact ht
    refine rec_none (p := partL ls[r]) hn (many := manyL ls[r].length) (by omega) (fun i hi => ?_)
    rw [take_other (by omega)]
    exact take_all hr (by omega) hc
  · rw [hcut]
    obtain ⟨m, hm'⟩ : ∃ m, cellsA ls - cellsA (ls.take r) = m + 1 := ⟨cellsA ls - cellsA (ls.take r) - 1, by omega⟩
    rw [hm', haltB, torn_yes (i := k / 512 - cellsA (ls.take r)) (by rw [show cellsA (ls.take r) + (k / 512 - cellsA (ls.take r)) = k / 512 by omega]; exact ht) (by omega), hsome (cellsA (ls.take r) + m) (by omega) (by omega)]
    simp
  · rw [hcut]
    obtain ⟨m, hm'⟩ : ∃ m, cellsA ls - cellsA (ls.take r) = m + 1 := ⟨cellsA ls - cellsA (ls.take r) - 1, by omega⟩
    have hs : ∀ i, i < m → (takeL (turnL (allL ls) k) (cellsA (ls.take r) + i)).isSome = true := fun i hi => hsome _ (by omega) (by omega)
    rw [hm', haltB, halt_no hs, show cellsA (ls.take r) + m = k / 512 by omega, ht]
    rfl
  · have hd : cellsA (ls.drop (r + 1)) = 0 := by omega
    rcases Nat.lt_or_ge (r + 1) ls.length with h | h
    · exfalso
      rw [List.drop_eq_getElem_cons h] at hd
      have h3 : cellsA (ls[r + 1] :: ls.drop (r + 1 + 1)) = manyL ls[r + 1].length + cellsA (ls.drop (r + 1 + 1)) := rfl
      have := many_one ls[r + 1].length
      omega
    · omega
theorem cut_take {l : List Int} {m j : Nat} (h : (j + 1) * 64 ≤ m) : cutL (l.take m) j = cutL l j := by
  apply List.ext_getElem?
  intro i
  rw [cut_at, cut_at]
  split
  · rw [List.getElem?_take, if_pos (by omega)]
  · rfl
attribute [local semireducible] takeL in
theorem take_take {l : List Int} {m j : Nat} (h : (j + 1) * 64 ≤ m) (hm : m ≤ l.length) : takeL (l.take m) j = takeL l j := by
  have e1 : ¬ (l.take m).length < (j + 1) * 64 := by rw [List.length_take]; omega
  have e2 : ¬ l.length < (j + 1) * 64 := by omega
  unfold takeL
  rw [if_neg e1, if_neg e2, cut_take h]
theorem cells_next {ls : List (List Int)} {r : Nat} (hr : r < ls.length) : cellsA (ls.take (r + 1)) = cellsA (ls.take r) + manyL ls[r].length := by
  rw [List.take_succ_eq_append_getElem hr, cellsA_snoc]
theorem cells_mono {ls : List (List Int)} {a b : Nat} (h : a ≤ b) : cellsA (ls.take a) ≤ cellsA (ls.take b) := by
  have h1 : ls.take b = ls.take a ++ (ls.take b).drop a := by
    have h2 := (List.take_append_drop a (ls.take b)).symm
    rw [List.take_take, Nat.min_eq_left h] at h2
    exact h2
  rw [h1, cells_app]
  omega
theorem cells_strict {ls : List (List Int)} {a b : Nat} (h : a < b) (hb : b ≤ ls.length) : cellsA (ls.take a) < cellsA (ls.take b) := by
  have h1 := cells_next (ls := ls) (r := a) (by omega)
  have h2 := many_one (ls[a]'(by omega)).length
  have h3 := cells_mono (ls := ls) (a := a + 1) (b := b) (by omega)
  omega
/-- How many records are whole in the first m bytes. -/
structure Whole (ls : List (List Int)) (m r : Nat) : Prop where
  hr : r ≤ ls.length
  lo : cellsA (ls.take r) * 64 ≤ m
  hi : r < ls.length → m < cellsA (ls.take (r + 1)) * 64
theorem Whole.uniq {ls : List (List Int)} {m r r' : Nat} (h : Whole ls m r) (h' : Whole ls m r') : r = r' := by
  rcases Nat.lt_trichotomy r r' with hl | hl | hl
  · have h1 := h.hi (by have := h'.hr; omega)
    have h2 := cells_mono (ls := ls) (a := r + 1) (b := r') (by omega)
    have h3 := h'.lo
    omega
  · exact hl
  · have h1 := h'.hi (by have := h.hr; omega)
    have h2 := cells_mono (ls := ls) (a := r' + 1) (b := r) (by omega)
    have h3 := h.lo
    omega
theorem Whole.le {ls : List (List Int)} {m r a : Nat} (h : Whole ls m r) (h' : cellsA (ls.take a) * 64 ≤ m) (ha : a ≤ ls.length) : a ≤ r := by
  rcases Nat.lt_or_ge r a with hl | hl
  · have h1 := h.hi (by omega)
    have h2 := cells_mono (ls := ls) (a := r + 1) (b := a) (by omega)
    omega
  · exact hl
theorem whole_ex {ls : List (List Int)} {m : Nat} (hm : m ≤ (allL ls).length) : ∃ r, Whole ls m r := by
  have hlen := allL_len ls
  by_cases hc : m / 64 < cellsA ls
  · obtain ⟨r, hr, h1, h2⟩ := cell_in hc
    exact ⟨r, by omega, by omega, fun _ => by rw [cells_next hr]; omega⟩
  · refine ⟨ls.length, Nat.le_refl _, ?_, fun h => absurd h (Nat.lt_irrefl _)⟩
    rw [List.take_length]
    omega
theorem halt_last {bs : List Int} {a n : Nat} (h : ∀ i, i < n → (takeL bs (a + i)).isSome = true) : haltB bs a (n + 1) = false := by
  rw [haltB, halt_no h, torn_no h]
  simp
structure Cutd (bs : List Int) (k0 : Nat) (out : List (List Int)) (j : Nat) : Prop where
  chain : chainL bs j = some (k0, out)
  ends : recordL bs k0 = none
  halt : haltB bs k0 (cutN bs - k0) = false
/-- A journal cut: the records that are whole. -/
theorem cut_ok {ls : List (List Int)} {m r : Nat} (hl : ∀ x ∈ ls, x.length ≤ 65536) (hc : cellsA ls < 16777216) (hm : m ≤ (allL ls).length) (h : Whole ls m r) : Cutd ((allL ls).take m) (cellsA (ls.take r)) (ls.take r) r ∧ ((allL ls).take m).take (cellsA (ls.take r) * 64) = allL (ls.take r) := by
  have hlen := allL_len ls
  have hlr := allL_len (ls.take r)
  obtain ⟨hr, lo, hi⟩ := h
  obtain ⟨rest, ha⟩ := all_app (ls.take r) (ls.drop r)
  rw [List.take_append_drop] at ha
  have hpre : ((allL ls).take m).take (cellsA (ls.take r) * 64) = allL (ls.take r) := by
    rw [List.take_take, Nat.min_eq_left lo, ha, ← hlr, List.take_left' rfl]
  have hcle := cells_mono (ls := ls) hr
  rw [List.take_length] at hcle
  have hsome : ∀ j, (j + 1) * 64 ≤ m → (takeL ((allL ls).take m) j).isSome = true := fun j hj => by
    obtain ⟨q, hq, q1, q2⟩ := cell_in (ls := ls) (c := j) (by omega)
    rw [take_take hj hm, show j = cellsA (ls.take q) + (j - cellsA (ls.take q)) by omega, take_all hq (by omega) hc]
    rfl
  refine ⟨⟨?_, ?_, ?_⟩, hpre⟩
  · have hch := chain_all (ls.take r) (fun x hx => hl x (List.mem_of_mem_take hx)) (by omega) (((allL ls).take m).drop (cellsA (ls.take r) * 64))
    rw [List.length_take, Nat.min_eq_left hr, ← hpre, List.take_append_drop] at hch
    exact hch
  · by_cases hrl : r < ls.length
    · have h1 := hi hrl
      rw [cells_next hrl] at h1
      refine rec_none (p := partL ls[r]) (i0 := m / 64 - cellsA (ls.take r)) (many := manyL ls[r].length) ?_ (by omega) (fun i hi => ?_)
      · refine take_out ?_
        rw [List.length_take]
        omega
      · rw [take_take (by omega) hm]
        exact take_all hrl (by omega) hc
    · refine rec_out ?_
      rw [List.length_take]
      have : ls.take r = ls := List.take_of_length_le (by omega)
      rw [this]
      omega
  · have hcut : cutN ((allL ls).take m) = (m + 63) / 64 := by
      unfold cutN
      rw [List.length_take, Nat.min_eq_left hm]
    rw [hcut]
    cases hn : (m + 63) / 64 - cellsA (ls.take r) with
    | zero => rfl
    | succ n =>
      exact halt_last fun i hi => hsome _ (by omega)
end Go.Proofs.Ytemhhhikopemmaa
/- A cell with a bit turned: is it right by its sum? And where a chain of records ends. -/
namespace Go.Proofs.Ytemhhhikopemmaa
open Go.RowKit Go.MapKept
attribute [local irreducible] Go.Calls Go.Exit.then Go.Exit.inBlock Go.bodyPost Go.Code.wp Go.wpList takeL recordL hashL recL allL
theorem xor_byte (x y : Int) : 0 ≤ bits .xor .u8 x y ∧ bits .xor .u8 x y < 256 := by
  have h : ∀ z : Int, 0 ≤ IntKind.u8.wrap z ∧ IntKind.u8.wrap z < 256 := fun z => by
    rw [IntKind.wrap_u8]
    omega
  unfold bits
  exact h _
theorem tbit_byte {x : Int} (k : Nat) : 0 ≤ tbit x k ∧ tbit x k < 256 := xor_byte x _
theorem turn_bytes {l : List Int} {k : Nat} (h : IsBytes l) : IsBytes (turnL l k) := by
  intro x hx
  unfold turnL at hx
  rcases List.mem_or_eq_of_mem_set hx with hx | hx
  · exact h x hx
  · rw [hx]
    exact tbit_byte k
theorem chain_ex {bs : List Int} (hb : IsBytes bs) : ∀ (n : Nat) {j k : Nat} {out : List (List Int)}, chainL bs j = some (k, out) → k * 64 ≤ bs.length → bs.length / 64 - k ≤ n → ∃ j k out, chainL bs j = some (k, out) ∧ recordL bs k = none ∧ k * 64 ≤ bs.length
  | n, j, k, out, hc, hk, hn => by
    cases hr : recordL bs k with
    | none => exact ⟨j, k, out, hc, hr, hk⟩
    | some p =>
      obtain ⟨x, m⟩ := p
      obtain ⟨h1, _, h2, _⟩ := recordL_some hr hb
      cases n with
      | zero => omega
      | succ n =>
        refine chain_ex hb n (j := j + 1) (k := k + m) (out := out ++ [x]) ?_ h2 (by omega)
        rw [chainL, hc]
        dsimp only
        rw [hr]
def LsVC (w : World) (v : Value) : Prop := ∃ (R : Option Addr) (c : Nat) (xs : List Bx), v = .slice R xs.length c ∧ LsW w R xs ∧ xs.length ≤ c ∧ c ≤ maxLen
theorem open_lsC {H : Type} {enc : TypeId × Value → H} {w : World} {base : Nat} {spare : Nat → Bool} {held : Bool} {fuel : Nat} {x : DataW H × List MemPlace} {v : Value} (h : DataW.trod enc Try.prog w base spare held fuel 22 v.cells.toList = some x) (hv : ∃ A n c, v = .slice A n c) : LsVC w v := by
  obtain ⟨A0, n0, c0, rfl⟩ := hv
  obtain ⟨A, n, c, xs, hcs, hl, hr, hk, hc, hm⟩ := open_rows (X := Bx) 1 (fun b => [b.v]) (fun b => b.ok w) Try.underlying22 (by kernel_rfl) (fun _ _ _ h => open_bx h) h
  rw [flat_one] at hr
  subst hl
  have hcs' : Value.slice A0 n0 c0 = .slice A xs.length c := by simpa [Value.cells] using hcs
  exact ⟨A, c, xs, hcs', ⟨hr, fun x hx => (hk x hx).1⟩, hc, hm⟩
theorem LsV.take {K : List Fa} {R : Option Addr} {xs : List Bx} (h : LsV K R xs) {m : Nat} (hm : m ≤ xs.length) : LsV K R (xs.take m) := by
  refine ⟨fun w hw => ?_, fun x hx => h.el x (List.mem_of_mem_take hx)⟩
  have h1 := (h.vw w hw).take (k := m) hm
  rw [Nat.mul_one, ← List.map_take] at h1
  rw [List.length_take, Nat.min_eq_left hm]
  exact h1
theorem nth_Ji {φ : Prop} (h : φ := by (first | rfl | assumption)) : φ := h
theorem mid_Ji {φ : Prop} (h : φ := by (first | exact Mid.all | exact Mid.all | exact Mid.head)) : φ := h
theorem sz_Ji {φ : Prop} (h : φ := by (first | rfl | (rfl; first | done | fail))) : φ := h
theorem one_Ji {φ : Prop} (h : φ := by (first | assumption | exact first | exact one_bytes _ | exact ff_one | (simp only [List.mem_cons, List.not_mem_nil, or_false, forall_eq_or_imp, forall_eq]; decide) | exact one_bytes _)) : φ := h
theorem set_Ji {φ : Prop} (h : φ := by (first | (fail) | ((repeat (first | exact SetAt.here | apply SetAt.there)); first | done | fail))) : φ := h
theorem cl_Ji {φ : Prop} (h : φ := by first | rfl | exact .t | exact .f | exact .t (by omega) | exact .f (by omega) | exact .u | exact .i (by (first | exact .t (by omega) | exact .f (by omega) | exact .u | exact .i (by omega) | exact .v (by omega) | exact .b (by omega) | exact .w | rfl | omega)) | exact .v (by omega) | exact .b (by omega) | exact .q (by omega) | exact .w | exact .b (by exact at_) rfl (by exact nth_Ji) | exact .w (by exact at_) rfl rfl (by exact sz_Ji) | exact .s (by exact at_) (by exact mid_Ji) rfl rfl (by exact sz_Ji) | exact .z rfl rfl ⟨by kernel_rfl⟩ | exact .b rfl rfl ⟨by kernel_rfl⟩ | exact .a rfl rfl ⟨by kernel_rfl⟩ | exact .o rfl | exact .s | exact .n | exact .p rfl | exact .q rfl | exact .c rfl | exact .d rfl | exact .n rfl rfl (by omega) | exact .a rfl rfl (by omega) | exact .p rfl rfl (by omega) (by omega) | exact .y rfl rfl (by omega) (by omega) | exact .o (by exact at_) (by omega) rfl (by exact nth_Ji) | exact .m (by exact at_) (by omega) (by exact mid_Ji) rfl rfl (by exact sz_Ji) | exact .mlen (by exact at_) rfl | exact .t (by exact at_) rfl rfl (by first | exact True.intro | rfl) (by assumption) | exact .f (by exact at_) rfl rfl (by first | exact True.intro | rfl) (by assumption) rfl | exact .t1 (by exact at_) rfl rfl (by first | exact True.intro | rfl) (by assumption) | exact .f1 (by exact at_) rfl rfl (by first | exact True.intro | rfl) (by assumption) rfl | exact .r rfl rfl (by omega) (by omega) (by exact nth_Ji) rfl | exact .s rfl (by omega) (by assumption) | exact at_ | assumption | exact .r rfl rfl | exact .h rfl rfl rfl (by omega) | exact .l rfl rfl rfl (by omega) (by omega) | exact .g rfl rfl rfl rfl (by omega) (by omega) | exact .h rfl rfl (toN_ (by omega)) (by omega) | exact .l rfl rfl (toN_ (by omega)) (by omega) (by omega) | exact .g rfl rfl (toN_ (by omega)) (toN_ (by omega)) (by omega) (by omega) | exact .o (by decide) | exact .f (by decide) | exact .n (by omega) (by first | decide | (show _ ≤ ((64 : Nat) : Int); omega)) | (constructor; (repeat (first | exact .t (by omega) | exact .f (by omega) | exact .u | exact .i (by omega) | exact .v (by omega) | exact .b (by omega) | exact .w | rfl | omega)); first | done | fail) | omega | (show _ ≤ ((64 : Nat) : Int); omega)) : φ := h
theorem pv_Ji {φ : Prop} (h : φ := by constructor; (repeat exact cl_Ji); first | done | fail) : φ := h
theorem su_Ji {φ ψ : Prop} (k : ψ) (h : Hide ψ → φ := by (intro k; (first | refine sl_pu (PuI.sep (by exact pv_Ji)) rfl ?_ | refine sl_yes rfl rfl ?_ | refine sl_no rfl rfl rfl ?_ | refine sl_off rfl rfl rfl ?_ | (fail)); exact k.out)) : φ := h ⟨k⟩
theorem rq_Ji {φ ψ : Prop} (k : ψ) (h : Hide ψ → φ := by (intro k; (first | refine wq_pu (PuI.sep (by exact pv_Ji)) rfl ?_ | refine wq_yes rfl rfl ?_ | refine wq_no rfl rfl rfl ?_ | refine wq_off rfl rfl rfl ?_ | (fail)); exact k.out)) : φ := h ⟨k⟩
theorem sto_Ji {φ ψ : Prop} (k : ψ) (h : Hide ψ → φ := by (intro k; (first | refine sl_store rfl (by exact pick_) rfl rfl (by kernel_rfl) (by exact set_Ji) ?_ | refine sl_store_whole rfl (by exact pick_) rfl (by exact sz_Ji) (by exact sz_Ji) (by exact one_Ji) ?_); exact k.out)) : φ := h ⟨k⟩
theorem go_Ji {φ ψ : Prop} (k : ψ) (h : Hide ψ → φ := by (intro k; (repeat (first | refine su_Ji ?_ | refine so_ ?_ | refine sto_Ji ?_)); exact k.out)) : φ := h ⟨k⟩
set_option maxRecDepth 100000 in
set_option maxHeartbeats 2000000 in
theorem broken_ok {K : List Fa} {A : Option Addr} {n c k : Nat} {bs : List Int} (h : Rd K A n c bs) (hk : (k / 512 + 1) * 64 ≤ n) :
    Fn Try.prog 23 #[.slice A n c, .int .i64 k] K (Ret (fun _ : Unit => True) (fun _ => .bool (brokenF bs k)) (fun _ => K)) := by
  refine fn_enter Try.func23 rfl _ Try.ntmps23 (by simp) [(0, .slice A n c), (1, .int .i64 k)] (args_of (by simp)) ?_
  have hle := h.le
  have hbig := h.big
  refine go_Ji ?_
  refine sl_build0 (e := 5) (size := 1) rfl (fun W => by kernel_rfl) rfl ?_
  intro g0
  refine go_Ji ?_
  rw [show ((k : Int) / 8 / 64 * 64 + 64).toNat - ((k : Int) / 8 / 64 * 64).toNat = 64 by omega, show ((k : Int) / 8 / 64 * 64).toNat = k / 512 * 64 by omega]
  have hr : Rd K (cutA A c (k / 512 * 64) 1) 64 (c - k / 512 * 64) (cutL bs (k / 512)) := (h.next (k := k / 512 * 64) (by omega)).front (m := 64) (by omega)
  have hbr : brokenF bs k = decide (hashL 9 (((cutL bs (k / 512)).set (k / 8 % 64) (tbit ((cutL bs (k / 512)).getD (k / 8 % 64) 0) k)).drop 8) 8 = ((cutL bs (k / 512)).set (k / 8 % 64) (tbit ((cutL bs (k / 512)).getD (k / 8 % 64) 0) k)).take 8) := rfl
  rw [hbr]
  have hkb : k ≤ 9007199254740992 := by omega
  clear hbr h hk hle hbig
  generalize cutA A c (k / 512 * 64) 1 = B at hr ⊢
  generalize c - k / 512 * 64 = cb at hr ⊢
  generalize cutL bs (k / 512) = cl at hr ⊢
  have hcl := hr.len
  refine sl_app rfl (by exact pick_) rfl (hr.vw.mono (by exact sub_)) (one_bytes _) rfl Try.info5 (by decide) (by decide) rfl (by unfold maxLen; omega) (by omega) ?_
  intro A2 c2
  rw [Nat.zero_add, List.nil_append]
  refine sl_form (e := 5) (size := 1) (A := A2) (m := 64) (by exact at_) (by omega) ?_
  rintro ga rfl
  refine sl_know (fun w hw => (own_len (e := 5) (size := 1) (A := some ⟨ga, 0, none⟩) hw (by exact at_)).2) ?_
  rintro ⟨l1, l2⟩
  have hnx : nth (bytes cl) (((k : Int) / 8 % 64).toNat * 1) = some (.int .u8 (cl.getD (k / 8 % 64) 0)) := by
    rw [nth_eq, Nat.mul_one, show ((k : Int) / 8 % 64).toNat = k / 8 % 64 by omega]
    simp [bytes, List.getD, show k / 8 % 64 < cl.length by omega]
  refine go_Ji ?_
  refine sd_drawn (fun W => AllP W [own 5 1 (some ⟨ga, 0, none⟩) 64 c2 (bytes cl)]) (fun i => !(List.contains [11] i)) (by kernel_rfl) 12 rfl ?_
  refine sd_yes2 0 rfl (by exact gd_) (by kernel_rfl) (by kernel_rfl) (by exact nop_) (PuI.all (by exact pv_Ji)) rfl (fun w hw => all_ hw) ?_
  refine sd_yes2 1 rfl (by exact gd_) (by kernel_rfl) (by kernel_rfl) (by exact nop_) (PuI.all (by exact pv_Ji)) rfl (fun w hw => all_ hw) ?_
  refine sd_yes2 2 rfl (by exact gd_) (by kernel_rfl) (by kernel_rfl) (by exact nop_) (PuI.all (by exact pv_Ji)) rfl (fun w hw => all_ hw) ?_
  refine sd_yes2 3 rfl (by exact gd_) (by kernel_rfl) (by kernel_rfl) (by exact nop_) (PuI.all (by exact pv_Ji)) rfl (fun w hw => all_ hw) ?_
  refine sd_yes2 4 rfl (by exact gd_) (by kernel_rfl) (by kernel_rfl) (by exact nop_) (PuI.all (by exact pv_Ji)) rfl (fun w hw => all_ hw) ?_
  refine sd_yes2 5 rfl (by exact gd_) (by kernel_rfl) (by kernel_rfl) (by exact nop_) (PuI.all (by exact pv_Ji)) rfl (fun w hw => all_ hw) ?_
  refine sd_yes2 6 rfl (by exact gd_) (by kernel_rfl) (by kernel_rfl) (by exact nop_) (PuI.all (by exact pv_Ji)) rfl (fun w hw => all_ hw) ?_
  refine sd_yes2 7 rfl (by exact gd_) (by kernel_rfl) (by kernel_rfl) (by exact nop_) (PuI.all (by exact pv_Ji)) rfl (fun w hw => all_ hw) ?_
  refine sd_yes2 8 rfl (by exact gd_) (by kernel_rfl) (by kernel_rfl) (by exact nop_) (pu_shl rfl rfl (by omega) (by show _ ≤ ((8 : Nat) : Int); omega)) rfl (fun w hw => all_ hw) ?_
  refine sd_yes2 9 rfl (by exact gd_) (by kernel_rfl) (by kernel_rfl) (by exact nop_) (pu_xor rfl rfl) rfl (fun w hw => all_ hw) ?_
  refine sd_yes2 10 rfl (by exact gd_) (by kernel_rfl) (by kernel_rfl) (by exact nop_) (PuI.all (by exact pv_Ji)) rfl (fun w hw => all_ hw) ?_
  refine sd_one 11 (by kernel_rfl) (sa_sl 11 rfl ?_)
  rw [add_none, show 0 + ((k : Int) / 8 % 64).toNat * 1 = k / 8 % 64 by omega, show ((k : Int) % 8).toNat = k % 8 by omega]
  refine sl_sto (e := 5) (size := 1) (k := 64) (c := c2) (xs := bytes cl) rfl (by exact pick_) rfl rfl rfl (by omega) ?_
  rw [bytes_set]
  refine sl_nil ?_
  refine se_sd (fun h => absurd h (by decide)) ?_
  refine sd_done (by kernel_rfl) ?_
  rw [show cl.set (k / 8 % 64) (bits .xor .u8 (cl.getD (k / 8 % 64) 0) (IntKind.u8.wrap (1 * 2 ^ (k % 8)))) = cl.set (k / 8 % 64) (tbit (cl.getD (k / 8 % 64) 0) k) from rfl]
  have hcb : IsBytes (cl.set (k / 8 % 64) (tbit (cl.getD (k / 8 % 64) 0) k)) := by
    intro x hx
    rcases List.mem_or_eq_of_mem_set hx with hx | hx
    · exact hr.okb x hx
    · rw [hx]
      exact tbit_byte k
  have hcn : (cl.set (k / 8 % 64) (tbit (cl.getD (k / 8 % 64) 0) k)).length = 64 := by rw [List.length_set]; exact hcl
  generalize cl.set (k / 8 % 64) (tbit (cl.getD (k / 8 % 64) 0) k) = cx at hcb hcn ⊢
  have hx : Rd (own 5 1 (some ⟨ga, 0, none⟩) 64 c2 (bytes cx) :: K) (some ⟨ga, 0, none⟩) 64 c2 cx := ⟨Vw.of_own (e := 5) .here, l1, by omega, l2, hcn, hcb⟩
  have hd := hx.next (k := 8) (by omega)
  have hh := hashL_ok 9 (cx.drop 8) 8
  refine go_Ji ?_
  refine sd_drawn (S2 (own 5 1 (some ⟨ga, 0, none⟩) 64 c2 (bytes cx) :: K) []) (fun _ => true) (by kernel_rfl) 9 rfl ?_
  refine sd_yes2 0 rfl (by exact gd_) (by kernel_rfl) (by kernel_rfl) (by exact nop_) (PuI.all2 (by exact pv_Ji)) rfl (fun w hw => ⟨hw.sub (by exact sub_), by exact all_ hw⟩) ?_
  refine sd_yes2 1 rfl (by exact gd_) (by kernel_rfl) (by kernel_rfl) (by exact nop_) (PuI.all2 (by exact pv_Ji)) rfl (fun w hw => ⟨hw.sub (by exact sub_), by exact all_ hw⟩) ?_
  refine sd_yes2 4 rfl (by exact gd_) (by kernel_rfl) (by kernel_rfl) (by exact nop_) (PuI.all2 (by exact pv_Ji)) rfl (fun w hw => ⟨hw.sub (by exact sub_), by exact all_ hw⟩) ?_
  refine sd_yes2 5 rfl (by exact gd_) (by kernel_rfl) (by kernel_rfl) (by exact nop_) (pu_slice_hn (j := 8) rfl rfl rfl rfl rfl (by omega)) rfl (fun w hw => ⟨hw.sub (by exact sub_), by exact all_ hw⟩) ?_
  refine sd_yes2 6 rfl (by exact gd_) (by kernel_rfl) (by kernel_rfl) (by exact nop_) (pu_str (bs := cx.take 8) rfl rfl rfl rfl (fun W hW => (hx.front (m := 8) (by omega)).vw W hW.1)) rfl (fun w hw => ⟨hw.sub (by exact sub_), by exact all_ hw⟩) ?_
  refine sd_one 2 (by kernel_rfl) (sa_sl 2 rfl ?_)
  refine sl_call rfl rfl (by kernel_rfl) rfl Sub.refl (hash_ok (m := 56) (n := 8) (by decide) (by decide) (by decide) (hd.vw.mono (by exact sub_)) hd.okb hd.len (by omega)) ?_
  rintro ⟨A1, c1⟩ -
  refine sl_nil ?_
  refine se_sd (fun _ w hw => ⟨hw.sub (by exact sub_), by exact all_ hw⟩) ?_
  refine sd_one 3 (by kernel_rfl) (sa_sl 3 rfl ?_)
  refine sl_pu (pu_strv (Vw.of_own (e := 5) (c := c1) (by exact at_)) rfl rfl rfl rfl) rfl ?_
  refine sl_nil ?_
  refine se_sd (fun _ w hw => ⟨hw.sub (by exact sub_), by exact all_ hw⟩) ?_
  refine sd_yes2 7 rfl (by exact gd_) (by kernel_rfl) (by kernel_rfl) (by exact nop_) (PuI.all2 (by exact pv_Ji)) rfl (fun w hw => ⟨hw.sub (by exact sub_), by exact all_ hw⟩) ?_
  refine sd_yes2 8 rfl (by exact gd_) (by kernel_rfl) (by kernel_rfl) (by exact nop_) (PuI.all2 (by exact pv_Ji)) rfl (fun w hw => ⟨hw.sub (by exact sub_), by exact all_ hw⟩) ?_
  refine sd_done (by kernel_rfl) ?_
  rw [strs_dec hh.2 (hcb.take 8)]
  refine go_Ji ?_
  exact se_ret1 () trivial rfl rfl (by exact sub_)
end Go.Proofs.Ytemhhhikopemmaa
/- The library's sort, by the shelf's contract, over facts. No program is in sight. -/
namespace Go.Proofs.Ytemhhhikopemmaa
open Go.RowKit Go.Sort Go.Shelf
section
variable {α : Type} [Inhabited α] {enc : α → Value} {w : World} {g n c size : Nat} {e : TypeId} {d : Array α} {P : Program} {f : FuncId} {args : Array Value} {K : List Fa}
theorem holds_blk {cur : Array Value} (hb : Blk w g e cur) (ht : cur.toList.take d.size = d.toList.map enc) : Holds enc w g 0 d := by
  intro j hj
  unfold Blk at hb
  refine ⟨?_, by simp [World.frozen?, hb]⟩
  have h1 : (cur.toList.take d.size)[j]? = (d.toList.map enc)[j]? := by rw [ht]
  rw [List.getElem?_take_of_lt hj] at h1
  simp only [World.cell?, hb, Nat.zero_add]
  simp only [Option.isSome_none, Bool.false_eq_true, if_false]
  rw [← Array.getElem?_toList, h1]
  simp [hj]
theorem blk_sorted {cur : Array Value} {m : Nat} {os : Array Obj} (d : Array α) (hb : Blk w g e cur) : Blk (sortWorld enc w g 0 m d os) g e (putCells enc 0 d cur) := by
  unfold Blk at hb
  have hg : g < w.heap.size := (Array.getElem?_eq_some_iff.1 hb).1
  unfold Blk sortWorld
  rw [heap_grow_old _ _ (by simpa [putRow, mapBlock, Sort.ahead] using hg)]
  simp [putRow, mapBlock, Sort.ahead, Array.getElem?_modify, hb, onCells]
theorem fr_sorted {m : Nat} {os : Array Obj} (d : Array α) : Fr (fun j => j = g) w (sortWorld enc w g 0 m d os) := by
  unfold sortWorld
  refine ⟨rfl, rfl, rfl, by simp [putRow, mapBlock, Sort.ahead], fun k hk hne => ?_⟩
  rw [heap_grow_old _ _ (by simpa [putRow, mapBlock, Sort.ahead] using hk)]
  have : g ≠ k := fun e => hne e.symm
  simp [putRow, mapBlock, Sort.ahead, Array.getElem?_modify, this]
theorem take_put (cur : Array Value) (d : Array α) (h : d.size ≤ cur.size) : (putCells enc 0 d cur).toList.take d.size = d.toList.map enc := by
  apply List.ext_getElem?
  intro j
  by_cases hj : j < d.size
  · rw [List.getElem?_take_of_lt hj, Array.getElem?_toList]
    simp [putCells, hj, show j < cur.size by omega]
  · rw [List.getElem?_take_eq_none (by omega), List.getElem?_eq_none (by simp; omega)]
theorem sep_sorted (hw : Sep w (own e size (some ⟨g, 0, none⟩) n c (d.toList.map enc) :: K)) : Holds enc w g 0 d ∧ g < w.heap.size ∧ d.size = n * size ∧ n ≤ c ∧ ∀ (d' : Array α) m os, d'.size = d.size → Sep (sortWorld enc w g 0 m d' os) (own e size (some ⟨g, 0, none⟩) n c (d'.toList.map enc) :: K) := by
  have hO : w.ownsRow 0 e size (.slice (some ⟨g, 0, none⟩) n c) n (d.toList.map enc) := by
    have := hw.hd
    unfold own at this
    exact this
  obtain ⟨cur, hB, hkc, hcm, hcs, htk, hxl⟩ := own_open hO
  have hn : d.size = n * size := by simpa using hxl
  have hle : n * size ≤ c * size := Nat.mul_le_mul_right _ hkc
  refine ⟨holds_blk hB (by rw [hn]; exact htk), hB.lt, hn, hkc, fun d' m os hs => ?_⟩
  refine hw.step (fr_sorted d') (fun j _ e => by rw [own_F]; exact congrArg some e.symm) (own_mk (own_close (blk_sorted d' hB) hkc hcm (by simp [putCells, hcs]) ?_ (by simp [hs, hn]))) (fun j hj => .inl (by rw [own_F] at hj ⊢; exact hj))
  rw [← hn, ← hs]
  exact take_put _ _ (by omega)
theorem fn_sort1 {Φ : Array α → Prop} (h : ∀ w, Holds enc w g 0 d → g < w.heap.size → Calls P f args w fun x w' => x = .returned (.tuple #[]) ∧ ∃ d' m os, Φ d' ∧ d'.size = d.size ∧ w' = sortWorld enc w g 0 m d' os) :
    Fn P f args (own e 1 (some ⟨g, 0, none⟩) n c (d.toList.map enc) :: K) (Ret (fun x : Array α => Φ x ∧ x.size = d.size) (fun _ => .tuple #[]) (fun x => own e 1 (some ⟨g, 0, none⟩) n c (x.toList.map enc) :: K)) := by
  unfold Fn
  intro w hw
  obtain ⟨hH, hg, _, _, hS⟩ := sep_sorted hw
  refine (h w hH hg).mono ?_
  rintro x w' ⟨rfl, d', m, os, hφ, hs, rfl⟩
  exact ⟨d', ⟨hφ, hs⟩, rfl, hS d' m os hs⟩
theorem flat_list (enc : α → List Value) (k : Nat) (hk : ∀ x, (enc x).length = k) (d : Array α) : (flatK enc k d).toList.map id = d.toList.flatMap enc := by
  rw [List.map_id]
  apply List.ext_getElem?
  intro t
  by_cases ht : t < d.size * k
  · have k0 : 0 < k := by
      rcases Nat.eq_zero_or_pos k with h | h
      · subst h; simp at ht
      · exact h
    have h1 := get_flatK enc k d t ht
    have hs : (flatK enc k d).size = d.size * k := by simp
    have h2 : t / k < d.size := by
      rw [Nat.div_lt_iff_lt_mul k0]
      exact ht
    have h3 : t % k < (enc d[t / k]!).length := by rw [hk]; exact Nat.mod_lt _ k0
    have h4 : ∀ (l : List α) (q r : Nat), r < k → ∀ x, l[q]? = some x → (l.flatMap enc)[q * k + r]? = (enc x)[r]? := by
      intro l
      induction l with
      | nil => intro q r _ x hx; simp at hx
      | cons a l ih =>
        intro q r hr x hx
        rw [List.flatMap_cons]
        cases q with
        | zero =>
          simp only [List.getElem?_cons_zero, Option.some.injEq] at hx
          subst hx
          rw [Nat.zero_mul, Nat.zero_add, List.getElem?_append_left (by rw [hk]; exact hr)]
        | succ q =>
          simp only [List.getElem?_cons_succ] at hx
          rw [List.getElem?_append_right (by rw [hk, Nat.succ_mul]; omega), hk, show (q + 1) * k + r - k = q * k + r by rw [Nat.succ_mul]; omega]
          exact ih q r hr x hx
    have h5 := h4 d.toList (t / k) (t % k) (Nat.mod_lt _ k0) d[t / k]! (by simp [h2])
    rw [Nat.div_add_mod' t k] at h5
    rw [h5, Array.getElem?_toList, Array.getElem?_eq_getElem (by rw [hs]; exact ht), List.getElem?_eq_getElem h3]
    rw [getElem!_pos _ t (by rw [hs]; exact ht)] at h1
    rw [h1, getElem!_pos (enc d[t / k]!) (t % k) h3]
  · have h6 : ∀ (l : List α), (l.flatMap enc).length = l.length * k := by
      intro l
      induction l with
      | nil => simp
      | cons a l ih => rw [List.flatMap_cons, List.length_append, ih, hk, List.length_cons, Nat.succ_mul]; omega
    rw [List.getElem?_eq_none (by simp; omega), List.getElem?_eq_none (by rw [h6]; simp; omega)]
theorem fn_sortK {enc : α → List Value} {k : Nat} (hk : ∀ x, (enc x).length = k) {Φ : Array α → Prop} (h : ∀ w, HoldsK enc k w g 0 d → g < w.heap.size → Calls P f args w fun x w' => x = .returned (.tuple #[]) ∧ ∃ d' m os, Φ d' ∧ d'.size = d.size ∧ w' = sortWorldK enc k w g 0 m d' os) :
    Fn P f args (own e k (some ⟨g, 0, none⟩) n c (d.toList.flatMap enc) :: K) (Ret (fun x : Array α => Φ x ∧ x.size = d.size) (fun _ => .tuple #[]) (fun x => own e k (some ⟨g, 0, none⟩) n c (x.toList.flatMap enc) :: K)) := by
  unfold Fn
  intro w hw
  rw [← flat_list enc k hk d] at hw
  obtain ⟨hH, hg, _, _, hS⟩ := sep_sorted hw
  refine (h w hH hg).mono ?_
  rintro x w' ⟨rfl, d', m, os, hφ, hs, rfl⟩
  refine ⟨d', ⟨hφ, hs⟩, rfl, ?_⟩
  have h1 := hS (flatK enc k d') m os (by simp [hs])
  rw [flat_list enc k hk d'] at h1
  exact h1
end
end Go.Proofs.Ytemhhhikopemmaa
/- The shelf's contract of slices.Sort at strings, laid at this program (printed by the kit's lay-plain), and over facts. -/
namespace Go.Proofs.Ytemhhhikopemmaa
open Go.Shelf Go.Sort Go.RowKit
def lays190_ren : Go.Shelf.Ren := ⟨fun | 190 => 45 | 125 => 59 | 258 => 58 | 128 => 74 | 129 => 75 | 302 => 65 | 303 => 66 | 304 => 67 | 305 => 68 | 306 => 69 | 307 => 70 | 308 => 71 | 309 => 72 | 310 => 73 | 333 => 80 | 329 => 81 | 330 => 82 | 334 => 83 | 335 => 84 | 336 => 85 | 344 => 88 | n => n, fun | 31 => 52 | 9 => 9 | 3 => 3 | 46 => 25 | 0 => 0 | 51 => 37 | 53 => 82 | 4 => 4 | 183 => 122 | 182 => 121 | 131 => 127 | 5 => 5 | 218 => 134 | 222 => 138 | 228 => 144 | 229 => 145 | n => n, fun | n => n⟩
theorem lays190 : Go.Proofs.Lays.n190 Try.prog lays190_ren := {
  mixed := by kernel_rfl
  f125 := Try.func59.trans (congrArg some (by kernel_rfl))
  f128 := Try.func74.trans (congrArg some (by kernel_rfl))
  f129 := Try.func75.trans (congrArg some (by kernel_rfl))
  f190 := Try.func45.trans (congrArg some (by kernel_rfl))
  f258 := Try.func58.trans (congrArg some (by kernel_rfl))
  f302 := Try.func65.trans (congrArg some (by kernel_rfl))
  f303 := Try.func66.trans (congrArg some (by kernel_rfl))
  f304 := Try.func67.trans (congrArg some (by kernel_rfl))
  f305 := Try.func68.trans (congrArg some (by kernel_rfl))
  f306 := Try.func69.trans (congrArg some (by kernel_rfl))
  f307 := Try.func70.trans (congrArg some (by kernel_rfl))
  f308 := Try.func71.trans (congrArg some (by kernel_rfl))
  f309 := Try.func72.trans (congrArg some (by kernel_rfl))
  f310 := Try.func73.trans (congrArg some (by kernel_rfl))
  f329 := Try.func81.trans (congrArg some (by kernel_rfl))
  f330 := Try.func82.trans (congrArg some (by kernel_rfl))
  f333 := Try.func80.trans (congrArg some (by kernel_rfl))
  f334 := Try.func83.trans (congrArg some (by kernel_rfl))
  f335 := Try.func84.trans (congrArg some (by kernel_rfl))
  f336 := Try.func85.trans (congrArg some (by kernel_rfl))
  f344 := Try.func88.trans (congrArg some (by kernel_rfl))
  t0 := Try.underlying0
  a0 := Try.isAgg0
  z0 := Try.sizeOf0
  v0 := Try.zeroValue0
  t3 := Try.underlying3
  a3 := Try.isAgg3
  z3 := Try.sizeOf3
  v3 := Try.zeroValue3
  t4 := Try.underlying4
  a4 := Try.isAgg4
  z4 := Try.sizeOf4
  v4 := Try.zeroValue4
  t5 := Try.underlying5
  a5 := Try.isAgg5
  z5 := Try.sizeOf5
  v5 := Try.zeroValue5
  t9 := Try.underlying9
  a9 := Try.isAgg9
  z9 := Try.sizeOf9
  v9 := Try.zeroValue9
  t31 := Try.underlying52
  a31 := Try.isAgg52
  z31 := Try.sizeOf52
  v31 := Try.zeroValue52
  t46 := Try.underlying25
  a46 := Try.isAgg25
  z46 := Try.sizeOf25
  v46 := Try.zeroValue25
  t51 := Try.underlying37
  a51 := Try.isAgg37
  z51 := Try.sizeOf37
  v51 := Try.zeroValue37
  t53 := Try.underlying82
  a53 := Try.isAgg82
  z53 := Try.sizeOf82
  v53 := Try.zeroValue82
  t131 := Try.underlying127
  a131 := Try.isAgg127
  z131 := Try.sizeOf127
  v131 := Try.zeroValue127
  t182 := Try.underlying121
  a182 := Try.isAgg121
  z182 := Try.sizeOf121
  v182 := Try.zeroValue121
  t183 := Try.underlying122
  a183 := Try.isAgg122
  z183 := Try.sizeOf122
  v183 := Try.zeroValue122
  t218 := Try.underlying134
  a218 := Try.isAgg134
  z218 := Try.sizeOf134
  v218 := Try.zeroValue134
  t222 := Try.underlying138
  a222 := Try.isAgg138
  z222 := Try.sizeOf138
  v222 := Try.zeroValue138
  t228 := Try.underlying144
  a228 := Try.isAgg144
  z228 := Try.sizeOf144
  v228 := Try.zeroValue144
  t229 := Try.underlying145
  a229 := Try.isAgg145
  z229 := Try.sizeOf145
  v229 := Try.zeroValue145 }
theorem sorts_ok {K : List Fa} {A : Option Addr} {c : Nat} {ss : List (List UInt8)} (hn : ss.length ≤ 1000000) :
    Fn Try.prog 45 #[.slice A ss.length c] (own 9 1 A ss.length c (ss.map encStr) :: K) (Ret (fun _ : Unit => True) (fun _ => .tuple #[]) (fun _ => own 9 1 A ss.length c ((ss.mergeSort fun x y => decide (x ≤ y)).map encStr) :: K)) := by
  rcases Nat.eq_zero_or_pos ss.length with h0 | h0
  · obtain rfl : ss = [] := List.eq_nil_of_length_eq_zero h0
    unfold Fn
    intro w hw
    refine (Any.slices_Sort_string_none lays190 A c w).mono ?_
    rintro x w' ⟨rfl, rfl⟩
    refine ⟨(), trivial, rfl, ?_⟩
    simpa using hw
  · unfold Fn
    intro w hw
    obtain ⟨g, cap, hv, _, _⟩ := World.ownsRow.form (show w.ownsRow 0 9 1 (.slice A ss.length c) ss.length (ss.map encStr) from by have := hw.hd; unfold own at this; exact this) h0
    obtain rfl : A = some ⟨g, 0, none⟩ := by injection hv
    have h1 : (ss.map encStr) = ss.toArray.toList.map encStr := by simp
    rw [h1] at hw
    obtain ⟨hH, hg, _, _, hS⟩ := sep_sorted hw
    refine (Any.slices_Sort_string lays190 g 0 c ss w hH hg (by omega)).mono ?_
    rintro x w' ⟨rfl, m, os, rfl⟩
    refine ⟨(), trivial, rfl, ?_⟩
    have h2 := hS (ss.mergeSort fun x y => decide (x ≤ y)).toArray m os (by simp)
    simpa [sortWorld] using h2
end Go.Proofs.Ytemhhhikopemmaa
