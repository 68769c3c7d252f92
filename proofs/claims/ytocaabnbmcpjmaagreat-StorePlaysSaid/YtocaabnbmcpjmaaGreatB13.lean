/- Several texts of one claim, one behind the other. -/
import Derived.Test.YtocaabnbmcpjmaaGreatB12
import Derived.Shelf.Sort.Plain
import Derived.Shelf.Slices.In.SortNone
import Derived.Test.YtocaabnbmcpjmaaGreatB08
import Derived.Test.YtocaabnbmcpjmaaGreatB01
import Derived.Test.YtocaabnbmcpjmaaGreatB11
set_option linter.unusedVariables false
set_option linter.unusedSimpArgs false
set_option maxRecDepth 100000
set_option maxHeartbeats 16000000
namespace Go.Proofs.YtocaabnbmcpjmaaGreat
variable {φ ψ : Prop}
section
open Go.RowKit Go.MapKept
attribute [local irreducible] Go.Calls Go.Exit.then Go.Exit.inBlock Go.bodyPost Go.Code.wp Go.wpList
section
open pDk2
theorem appD_new {K : List Fa} {g m ck : Nat} {lim : Int} {fs : List DF} {s : ByteArray} {B : Option Addr} {cb : Nat} {b : List Int} (hs : s.size ≤ 9223372036854775807) (hname : nameB s = true) (hno : ¬ DHas fs s) (h64 : fs.length < 64) (hl : 0 ≤ lim ∧ lim ≤ 1048576) (hfit : (b.length : Int) + usedN fs ≤ lim) (hb : Vw (dB g m lim :: dM m fs ck :: dS fs :: K) (fun w => Reads w 1 B b.length (bytes b))) :
  Fn Tryz.prog 128 #[.pointer (some ⟨g, 0, none⟩), .string s, .slice B b.length cb] (dB g m lim :: dM m fs ck :: dS fs :: K) (Ret (fun _ : Option Addr × Nat => True) (fun _ => .int .i64 0) (fun q => dB g m lim :: dM m (fs ++ [⟨s, q.1, q.2, b, 0, ck⟩]) (ck + 1) :: dS (fs ++ [⟨s, q.1, q.2, b, 0, ck⟩]) :: K)) := by
 refine fe_ Tryz.func128 Tryz.ntmps128 [(0, .pointer (some ⟨g, 0, none⟩)), (1, .string s), (2, .slice B b.length cb)] ?_
 have hml : (fs.map DF.ent).length = fs.length := List.length_map _
 have hg := dno hno
 refine go_ ?_; refine slc_ rfl rfl Sub.refl (name_ok hs) ?_; rintro _ -; rw [hname]; refine go_ ?_; refine slc_ rfl rfl Sub.refl (has_no at_ at_ hno) ?_; rintro _ -; refine go_ ?_; refine dr_ [dB g m lim] 11 ?_; refine y4_ 0 1 2 3 ?_; refine y2_ 4 5 ?_; refine wy_ 6 ?_; refine w1_ 7 ?_; refine slc_ rfl rfl Sub.refl (used_ok at_ at_ (by omega)) ?_; rintro _ -; refine vy_ 8 ?_; refine y2_ 9 10 ?_; refine wx_ ?_; refine go_ ?_; refine al_ ?_; intro g7; refine go_ ?_; refine slc_ rfl rfl Sub.refl (clone_ok (A := none) (n := 0) (bs := []) (fun w _ => Reads.nil_ _) (by decide)) ?_; rintro ⟨A1, c1⟩ -; refine go_ ?_; refine sl_app (A := A1) (k := 0) (c := c1) rfl pick_ rfl (hb.mono sub_) (one_bytes _) rfl Tryz.info5 (by decide) (by decide) rfl (by unfold maxLen; omega) (by omega) ?_; intro A2 c2; rw [← bytes_app, List.nil_append, Nat.zero_add]; refine go_ ?_; refine dr_ [blk g7 138 [.slice A2 b.length c2, .int .i64 0], dB g m lim] 7 ?_; refine y4_ 0 1 2 3 ?_; refine y2_ 4 5 ?_; refine w1_ 6 ?_; refine sl_dnew (fs := fs) (f' := ⟨s, A2, c2, b, 0, ck⟩) rfl rfl rfl rfl rfl hno pick_ rfl rfl ?_; refine vx_ ?_; refine go_ ?_; refine se_sub (L' := own 5 1 A2 b.length c2 (bytes b) :: dS fs :: dB g m lim :: dM m (fs ++ [⟨s, A2, c2, b, 0, ck⟩]) (ck + 1) :: K) sub_ ?_
 refine se_ent (ds_add (s := s) (sy := 0) (bn := ck) rfl) ?_; exact r1_ (A2, c2)
theorem appD_yes {K : List Fa} {g m ck : Nat} {lim : Int} {X Y : List DF} {f : DF} {B : Option Addr} {cb : Nat} {b : List Int} (hs : f.s.size ≤ 9223372036854775807) (hname : nameB f.s = true) (hl : 0 ≤ lim ∧ lim ≤ 1048576) (hfit : (b.length : Int) + usedN (X ++ f :: Y) ≤ lim) (hb : Vw (dB g m lim :: dM m (X ++ f :: Y) ck :: dS (X ++ f :: Y) :: K) (fun w => Reads w 1 B b.length (bytes b))) :
  Fn Tryz.prog 128 #[.pointer (some ⟨g, 0, none⟩), .string f.s, .slice B b.length cb] (dB g m lim :: dM m (X ++ f :: Y) ck :: dS (X ++ f :: Y) :: K) (Ret (fun _ : Option Addr × Nat => True) (fun _ => .int .i64 0) (fun q => dB g m lim :: dM m (X ++ ⟨f.s, q.1, q.2, f.l ++ b, f.sy, f.bn⟩ :: Y) ck :: dS (X ++ ⟨f.s, q.1, q.2, f.l ++ b, f.sy, f.bn⟩ :: Y) :: K)) := by
 refine fe_ Tryz.func128 Tryz.ntmps128 [(0, .pointer (some ⟨g, 0, none⟩)), (1, .string f.s), (2, .slice B b.length cb)] ?_
 have hg := dget (mid_mem (X := X) (Y := Y) (f := f))
 unfold DF.val at hg
 have hle := used_le (mid_mem (X := X) (Y := Y) (f := f))
 refine go_ ?_; refine slc_ rfl rfl Sub.refl (name_ok hs) ?_; rintro _ -; rw [hname]; refine go_ ?_; refine slc_ rfl rfl Sub.refl (has_yes at_ at_ mid_mem) ?_; rintro _ -; refine go_ ?_; refine dr_ [dB g m lim] 11 ?_; refine y4_ 0 1 2 3 ?_; refine y2_ 4 5 ?_; refine wy_ 6 ?_; refine w1_ 7 ?_; refine slc_ rfl rfl Sub.refl (used_ok at_ at_ (by omega)) ?_; rintro _ -; refine vy_ 8 ?_; refine y2_ 9 10 ?_; refine wx_ ?_; refine go_ ?_; refine al_ ?_; intro g7; refine go_ ?_; refine slc_ rfl rfl Sub.refl (clone_ok (ds_get (fs := X ++ f :: Y) (f := f) at_ mid_mem) (by omega)) ?_; rintro ⟨A1, c1⟩ -; refine go_ ?_; refine sl_app (A := A1) (k := f.l.length) (c := c1) rfl pick_ rfl (hb.mono sub_) (one_bytes _) rfl Tryz.info5 (by decide) (by decide) rfl (by unfold maxLen; omega) (by omega) ?_; intro A2 c2; rw [← bytes_app, ← List.length_append]; refine go_ ?_; refine dr_ [blk g7 138 [.slice A2 (f.l ++ b).length c2, .int .i64 f.sy], dB g m lim] 7 ?_; refine y4_ 0 1 2 3 ?_; refine y2_ 4 5 ?_; refine w1_ 6 ?_; refine sl_dput (f := f) (f' := ⟨f.s, A2, c2, f.l ++ b, f.sy, f.bn⟩) rfl rfl rfl rfl rfl pick_ rfl rfl ?_; refine vx_ ?_; refine go_ ?_
 refine se_sub (L' := own 5 1 A2 (f.l ++ b).length c2 (bytes (f.l ++ b)) :: dS (X ++ f :: Y) :: dB g m lim :: dM m (X ++ ⟨f.s, A2, c2, f.l ++ b, f.sy, f.bn⟩ :: Y) ck :: K) sub_ ?_; refine se_ent (ds_put (s := f.s) (sy := f.sy) (bn := f.bn) rfl) ?_; exact r1_ (A2, c2)
end
attribute [local irreducible] takeL recordL hashL recL allL
section
def sj : ByteArray := ⟨#[106, 111, 117, 114, 110, 97, 108]⟩
abbrev jB (gj g : Nat) (s : ByteArray) : Fa := blk gj 157 [.pointer (some ⟨g, 0, none⟩), .string s, .int .i64 0]
theorem nohas {s : ByteArray} : ¬ DHas [] s := fun ⟨_, h, _⟩ => by cases h
structure Oj where
 gj : Nat
 R : Option Addr
 c : Nat
theorem many_pos (n : Nat) : 1 ≤ manyL n := by
 unfold manyL
 omega
namespace pJe
theorem nthx_ (h : φ := by assumption) : φ := h
theorem onex_ (h : φ := by first | exact one_bytes _ | exact ff_one) : φ := h
end pJe
open pJe
theorem open_new {K : List Fa} {g m : Nat} {lim : Int} {s : ByteArray} :
  Fn Tryz.prog 42 #[.pointer (some ⟨g, 0, none⟩), .string s] (dB g m lim :: dM m [] 0 :: dS [] :: K) (Ret (fun _ : Oj => True) (fun q => .tuple #[.pointer (some ⟨q.gj, 0, none⟩), .slice q.R 0 q.c, .int .i64 0]) (fun q => jB q.gj g s :: dB g m lim :: dM m [] 0 :: dS [] :: K)) := by
 refine fe_ Tryz.func42 Tryz.ntmps42 [(0, .pointer (some ⟨g, 0, none⟩)), (1, .string s)] ?_; refine go_ ?_; refine slc_ rfl rfl Sub.refl (readD_no (fs := []) (m := m) (ck := 0) (lim := lim) at_ at_ nohas) ?_; rintro _ -; refine go_ ?_
 have hsc := scan_ok (K := dB g m lim :: dM m [] 0 :: dS [] :: K) (A := none) (n := 0) (c := 0) (j0 := 0) (k0 := 0) (bs := []) (out0 := []) ⟨fun w _ => Reads.nil_ _, Nat.le_refl _, by decide, Nat.zero_le _, rfl, fun _ h => by cases h⟩ (by decide) rfl (rec_out (by decide))
 rw [show haltB [] 0 (cutN [] - 0) = false from rfl, ScA_yes] at hsc
 refine slc_ rfl rfl Sub.refl hsc ?_; rintro ⟨xs, R, c⟩ ⟨hxs, -⟩
 obtain rfl : xs = [] := List.map_eq_nil_iff.1 hxs
 dsimp only; refine sl_sub (L' := dB g m lim :: dM m [] 0 :: dS [] :: K) ?_ ?_
 ·exact Sub.skip (Sub.skip Sub.refl)
 refine go_ ?_; refine sl_pu (pu_build (v := .agg #[.pointer (some ⟨g, 0, none⟩), .string s, .int .i64 0]) rfl (fun W => by kernel_rfl)) rfl ?_; refine bx_ ?_; intro gj; refine go_ ?_; exact se_ret3 ⟨gj, R, c⟩ trivial rfl rfl rfl rfl rfl sub_
end
section
abbrev jC (gj g : Nat) (s : ByteArray) (n : Nat) : Fa := blk gj 157 [.pointer (some ⟨g, 0, none⟩), .string s, .int .i64 n]
structure Ok where
 gj : Nat
 q : SRow
 f : DF
open pJe
theorem open_go {K : List Fa} {g m ck j0 k0 : Nat} {lim : Int} {f : DF} {out0 : List (List Int)} (hn : f.l.length ≤ 1048576) (hob : IsBytes f.l) (hsy : f.sy ≤ f.l.length) (hk0 : k0 * 64 ≤ f.l.length) (hc0 : chainL f.l j0 = some (k0, out0)) (he0 : recordL f.l k0 = none) (hh : haltB f.l k0 (cutN f.l - k0) = false) :
  Fn Tryz.prog 42 #[.pointer (some ⟨g, 0, none⟩), .string f.s] (dB g m lim :: dM m [f] ck :: dS [f] :: K) (Ret (fun p : Ok => (p.q.xs.map Sx.l = out0 ∧ ∀ x ∈ p.q.xs, x.ok) ∧ p.f.s = f.s ∧ p.f.l = f.l.take (k0 * 64) ∧ p.f.sy = if k0 * 64 < f.l.length then k0 * 64 else f.sy) (fun p => .tuple #[.pointer (some ⟨p.gj, 0, none⟩), .slice p.q.R p.q.xs.length p.q.c, .int .i64 0]) (fun p => jC p.gj g f.s k0 :: p.q.row :: p.q.st :: dB g m lim :: dM m [p.f] ck :: dS [p.f] :: K)) := by
 refine fe_ Tryz.func42 Tryz.ntmps42 [(0, .pointer (some ⟨g, 0, none⟩)), (1, .string f.s)] ?_; refine go_ ?_; refine slc_ rfl rfl Sub.refl (readD_ok (fs := [f]) (f := f) (m := m) (ck := ck) (lim := lim) at_ at_ at_ (List.mem_singleton.2 rfl) (by omega)) ?_; rintro ⟨A1, c1⟩ -; dsimp only; refine sl_know (fun w hw => (own_len (e := 5) (size := 1) (A := A1) hw at_).2) ?_; rintro ⟨l1, l2⟩; refine go_ ?_
 have hsc := scan_ok (K := u8o A1 c1 f.l :: dB g m lim :: dM m [f] ck :: dS [f] :: K) (A := A1) (n := f.l.length) (c := c1) (bs := f.l) ⟨Vw.of_own (e := 5) .here, l1, by omega, l2, rfl, hob⟩ (by omega) hc0 he0
 rw [hh, ScA_yes] at hsc
 refine slc_ rfl rfl Sub.refl hsc ?_; rintro q hq
 by_cases hcut : k0 * 64 < f.l.length
 ·rw [if_pos hcut]; refine go_ ?_
  have hct := cutD_ok (K := q.row :: q.st :: K) (g := g) (m := m) (ck := ck) (lim := lim) (k := ((k0 * 64 : Nat) : Int)) (X := []) (Y := []) (f := f) (by omega) hn hsy
  rw [show (k0 : Int) * 64 = ((k0 * 64 : Nat) : Int) by omega]; refine slc_ rfl rfl sub_ hct ?_; rintro f2 ⟨hs2, hl2, hy2⟩
  rw [Int.toNat_natCast] at hl2 hy2
  rw [← hs2]; refine go_ ?_; refine slc_ rfl rfl sub_ (syncD_ok (K := dS ([] ++ f2 :: []) :: q.row :: q.st :: K) (X := []) (Y := []) (f := f2) (g := g) (m := m) (ck := ck) (lim := lim)) ?_; rintro _ -; rw [← ds_sy (X := []) (Y := []) (k := f2.l.length)]; refine go_ ?_; refine sl_pu (pu_build (v := .agg #[.pointer (some ⟨g, 0, none⟩), .string f2.s, .int .i64 k0]) rfl (fun W => by kernel_rfl)) rfl ?_; refine bx_ ?_; intro gj; refine go_ ?_
  have hlen2 : f2.l.length = k0 * 64 := by rw [hl2, List.length_take]; omega
  exact se_ret3 ⟨gj, q, { f2 with sy := f2.l.length }⟩ ⟨hq, rfl, hl2, hlen2⟩ rfl rfl rfl rfl rfl sub_
 ·rw [if_neg hcut]; refine go_ ?_; refine sl_pu (pu_build (v := .agg #[.pointer (some ⟨g, 0, none⟩), .string f.s, .int .i64 k0]) rfl (fun W => by kernel_rfl)) rfl ?_; refine bx_ ?_; intro gj; refine go_ ?_; exact se_ret3 ⟨gj, q, f⟩ ⟨hq, rfl, by rw [List.take_of_length_le (by omega)], rfl⟩ rfl rfl rfl rfl rfl sub_
end
end
section
open Go.RowKit Go.MapKept
attribute [local irreducible] Go.Calls Go.Exit.then Go.Exit.inBlock Go.bodyPost Go.Code.wp Go.wpList
section
open pJe
end
end
section
open Go.RowKit
attribute [local irreducible] takeL recordL hashL cellL
section
theorem cut_at {l : List Int} {j i : Nat} : (cutL l j)[i]? = if i < 64 then l[j * 64 + i]? else none := by
 unfold cutL
 rw [List.getElem?_take, List.getElem?_drop]
theorem cells_app (a b : List (List Int)) : cellsA (a ++ b) = cellsA a + cellsA b := by simp [cellsA]
theorem all_app (a : List (List Int)) : ∀ b, ∃ rest, allL (a ++ b) = allL a ++ rest := snoc_ind (P := fun b => ∃ rest, allL (a ++ b) = allL a ++ rest) ⟨[], by simp⟩ (fun l x ⟨rest, h⟩ => ⟨rest ++ recL (cellsA (a ++ l)) x, by rw [← List.append_assoc, allL_next, h, List.append_assoc]⟩)
theorem cell_in {ls : List (List Int)} : ∀ {c : Nat}, c < cellsA ls → ∃ r, ∃ h : r < ls.length, cellsA (ls.take r) ≤ c ∧ c < cellsA (ls.take r) + manyL ls[r].length := by
 refine snoc_ind (P := fun ls => ∀ {c : Nat}, c < cellsA ls → ∃ r, ∃ h : r < ls.length, cellsA (ls.take r) ≤ c ∧ c < cellsA (ls.take r) + manyL ls[r].length) (fun {c} h => by simp [cellsA] at h) (fun l x ih c h => ?_) ls
 rw [cellsA_snoc] at h
 by_cases hc : c < cellsA l
 ·obtain ⟨r, hr, h1, h2⟩ := ih hc
  refine ⟨r, by rw [List.length_append]; omega, ?_, ?_⟩
  ·rw [List.take_append_of_le_length (by omega)]; exact h1
  ·rw [List.take_append_of_le_length (by omega), List.getElem_append_left hr]; exact h2
 ·refine ⟨l.length, by simp, ?_, ?_⟩
  ·rw [List.take_left']
   ·omega
   ·rfl
  ·rw [List.take_left' rfl, List.getElem_append_right (Nat.le_refl _)]
   simpa using h
theorem take_all {ls : List (List Int)} {r i : Nat} (hr : r < ls.length) (hi : i < manyL ls[r].length) (hc : cellsA ls < 16777216) : takeL (allL ls) (cellsA (ls.take r) + i) = some (manyL ls[r].length - 1 - i, partL ls[r] i) := by
 have hsp : ls = ls.take r ++ [ls[r]] ++ ls.drop (r + 1) := by
  rw [List.append_assoc, List.singleton_append, ← List.drop_eq_getElem_cons hr, List.take_append_drop]
 obtain ⟨rest, h1⟩ := all_app (ls.take r ++ [ls[r]]) (ls.drop (r + 1))
 rw [← hsp, allL_next] at h1
 have h2 : cellsA ls = cellsA (ls.take r) + manyL ls[r].length + cellsA (ls.drop (r + 1)) := by
  conv => lhs; rw [hsp]
  rw [cells_app, cellsA_snoc]
 rw [h1]; exact take_rec (allL_len _) hi (by omega)
theorem torn_no {bs : List Int} {a : Nat} : ∀ {n : Nat}, (∀ i, i < n → (takeL bs (a + i)).isSome = true) → tornB bs a n = false
 | 0, _ => rfl
 | n + 1, h => by
  rw [tornB, torn_no (fun i hi => h i (by omega))]
  have := h n (by omega)
  cases hh : takeL bs (a + n) <;> simp_all
theorem halt_no {bs : List Int} {a : Nat} : ∀ {n : Nat}, (∀ i, i < n → (takeL bs (a + i)).isSome = true) → haltB bs a n = false
 | 0, _ => rfl
 | n + 1, h => by
  rw [haltB, halt_no (fun i hi => h i (by omega)), torn_no (fun i hi => h i (by omega))]
  simp
theorem go_none {t : List Int} {k0 many i0 : Nat} {p : Nat → List Int} (h0 : takeL t (k0 + i0) = none) (hi0 : i0 < many) (h : ∀ i, i < i0 → takeL t (k0 + i) = some (many - 1 - i, p i)) : ∀ {left i : Nat} {out : List Int}, i + left + 1 = many → i < i0 → goL t k0 left i out = none
 | 0, i, out, he, hi => by omega
 | left + 1, i, out, he, hi => by
  rw [goL]
  by_cases hc : i + 1 = i0
  ·rw [show k0 + 1 + i = k0 + i0 by omega, h0]
  ·rw [show k0 + 1 + i = k0 + (i + 1) by omega, h (i + 1) (by omega)]; dsimp only
   split
   ·exact go_none h0 hi0 h (by omega) (by omega)
   ·rfl
attribute [local semireducible] recordL in
theorem rec_none {t : List Int} {k0 many i0 : Nat} {p : Nat → List Int} (h0 : takeL t (k0 + i0) = none) (hi0 : i0 < many) (h : ∀ i, i < i0 → takeL t (k0 + i) = some (many - 1 - i, p i)) : recordL t k0 = none := by
 unfold recordL
 by_cases hc : i0 = 0
 ·subst hc
  rw [Nat.add_zero] at h0
  rw [h0]
 ·have h1 := h 0 (by omega)
  rw [Nat.add_zero] at h1
  rw [h1]; dsimp only
  split
  ·rw [go_none h0 hi0 h (by omega) (by omega)]
   rfl
  ·rfl
theorem cut_take {l : List Int} {m j : Nat} (h : (j + 1) * 64 ≤ m) : cutL (l.take m) j = cutL l j := by
 apply List.ext_getElem?
 intro i; rw [cut_at, cut_at]
 split
 ·rw [List.getElem?_take, if_pos (by omega)]
 ·rfl
attribute [local semireducible] takeL in
theorem take_take {l : List Int} {m j : Nat} (h : (j + 1) * 64 ≤ m) (hm : m ≤ l.length) : takeL (l.take m) j = takeL l j := by
 have e1 : ¬ (l.take m).length < (j + 1) * 64 := by rw [List.length_take]; omega
 have e2 : ¬ l.length < (j + 1) * 64 := by omega
 unfold takeL
 rw [if_neg e1, if_neg e2, cut_take h]
theorem cells_next {ls : List (List Int)} {r : Nat} (hr : r < ls.length) : cellsA (ls.take (r + 1)) = cellsA (ls.take r) + manyL ls[r].length := by
 rw [List.take_succ_eq_append_getElem hr, cellsA_snoc]
theorem cells_mono {ls : List (List Int)} {a b : Nat} (h : a ≤ b) : cellsA (ls.take a) ≤ cellsA (ls.take b) := by
 have h1 : ls.take b = ls.take a ++ (ls.take b).drop a := by
  have h2 := (List.take_append_drop a (ls.take b)).symm
  rw [List.take_take, Nat.min_eq_left h] at h2
  exact h2
 rw [h1, cells_app]; omega
structure Whole (ls : List (List Int)) (m r : Nat) : Prop where
 hr : r ≤ ls.length
 lo : cellsA (ls.take r) * 64 ≤ m
 hi : r < ls.length → m < cellsA (ls.take (r + 1)) * 64
theorem Whole.le {ls : List (List Int)} {m r a : Nat} (h : Whole ls m r) (h' : cellsA (ls.take a) * 64 ≤ m) (ha : a ≤ ls.length) : a ≤ r := by
 rcases Nat.lt_or_ge r a with hl | hl
 ·have h1 := h.hi (by omega)
  have h2 := cells_mono (ls := ls) (a := r + 1) (b := a) (by omega)
  omega
 ·exact hl
theorem whole_ex {ls : List (List Int)} {m : Nat} (hm : m ≤ (allL ls).length) : ∃ r, Whole ls m r := by
 have hlen := allL_len ls
 by_cases hc : m / 64 < cellsA ls
 ·obtain ⟨r, hr, h1, h2⟩ := cell_in hc
  exact ⟨r, by omega, by omega, fun _ => by rw [cells_next hr]; omega⟩
 ·refine ⟨ls.length, Nat.le_refl _, ?_, fun h => absurd h (Nat.lt_irrefl _)⟩
  rw [List.take_length]; omega
theorem halt_last {bs : List Int} {a n : Nat} (h : ∀ i, i < n → (takeL bs (a + i)).isSome = true) : haltB bs a (n + 1) = false := by
 rw [haltB, halt_no h, torn_no h]
 simp
structure Cutd (bs : List Int) (k0 : Nat) (out : List (List Int)) (j : Nat) : Prop where
 chain : chainL bs j = some (k0, out)
 ends : recordL bs k0 = none
 halt : haltB bs k0 (cutN bs - k0) = false
theorem cut_ok {ls : List (List Int)} {m r : Nat} (hl : ∀ x ∈ ls, x.length ≤ 65536) (hc : cellsA ls < 16777216) (hm : m ≤ (allL ls).length) (h : Whole ls m r) : Cutd ((allL ls).take m) (cellsA (ls.take r)) (ls.take r) r ∧ ((allL ls).take m).take (cellsA (ls.take r) * 64) = allL (ls.take r) := by
 have hlen := allL_len ls
 have hlr := allL_len (ls.take r)
 obtain ⟨hr, lo, hi⟩ := h
 obtain ⟨rest, ha⟩ := all_app (ls.take r) (ls.drop r)
 rw [List.take_append_drop] at ha
 have hpre : ((allL ls).take m).take (cellsA (ls.take r) * 64) = allL (ls.take r) := by
  rw [List.take_take, Nat.min_eq_left lo, ha, ← hlr, List.take_left' rfl]
 have hcle := cells_mono (ls := ls) hr
 rw [List.take_length] at hcle
 have hsome : ∀ j, (j + 1) * 64 ≤ m → (takeL ((allL ls).take m) j).isSome = true := fun j hj => by
  obtain ⟨q, hq, q1, q2⟩ := cell_in (ls := ls) (c := j) (by omega)
  rw [take_take hj hm, show j = cellsA (ls.take q) + (j - cellsA (ls.take q)) by omega, take_all hq (by omega) hc]
  rfl
 refine ⟨⟨?_, ?_, ?_⟩, hpre⟩
 ·have hch := chain_all (ls.take r) (fun x hx => hl x (List.mem_of_mem_take hx)) (by omega) (((allL ls).take m).drop (cellsA (ls.take r) * 64))
  rw [List.length_take, Nat.min_eq_left hr, ← hpre, List.take_append_drop] at hch
  exact hch
 ·by_cases hrl : r < ls.length
  ·have h1 := hi hrl
   rw [cells_next hrl] at h1
   refine rec_none (p := partL ls[r]) (i0 := m / 64 - cellsA (ls.take r)) (many := manyL ls[r].length) ?_ (by omega) (fun i hi => ?_)
   ·refine take_out ?_; rw [List.length_take]; omega
   ·rw [take_take (by omega) hm]; exact take_all hrl (by omega) hc
  ·refine rec_out ?_; rw [List.length_take]
   have : ls.take r = ls := List.take_of_length_le (by omega)
   rw [this]; omega
 ·have hcut : cutN ((allL ls).take m) = (m + 63) / 64 := by
   unfold cutN
   rw [List.length_take, Nat.min_eq_left hm]
  rw [hcut]
  cases hn : (m + 63) / 64 - cellsA (ls.take r) with
  | zero => rfl
  | succ n =>
   exact halt_last fun i hi => hsome _ (by omega)
end
end
section
open Go.RowKit Go.MapKept
attribute [local irreducible] Go.Calls Go.Exit.then Go.Exit.inBlock Go.bodyPost Go.Code.wp Go.wpList takeL recordL hashL recL allL
section
theorem LsV.take {K : List Fa} {R : Option Addr} {xs : List Bx} (h : LsV K R xs) {m : Nat} (hm : m ≤ xs.length) : LsV K R (xs.take m) := by
 refine ⟨fun w hw => ?_, fun x hx => h.el x (List.mem_of_mem_take hx)⟩
 have h1 := (h.vw w hw).take (k := m) hm
 rw [Nat.mul_one, ← List.map_take] at h1
 rw [List.length_take, Nat.min_eq_left hm]; exact h1
open pJe
end
end
section
open Go.Shelf Go.Sort Go.RowKit
def lays190_ren : Go.Shelf.Ren := ⟨fun | 190 => 122 | 125 => 143 | 258 => 150 | 128 => 173 | 129 => 174 | 302 => 190 | 303 => 191 | 304 => 192 | 305 => 193 | 306 => 194 | 307 => 195 | 308 => 196 | 309 => 197 | 310 => 198 | 333 => 214 | 329 => 203 | 330 => 204 | 334 => 215 | 335 => 216 | 336 => 217 | 344 => 226 | n => n, fun | 31 => 112 | 9 => 9 | 3 => 3 | 46 => 221 | 0 => 0 | 51 => 26 | 53 => 36 | 4 => 4 | 183 => 239 | 182 => 238 | 131 => 170 | 5 => 5 | 218 => 261 | 222 => 265 | 228 => 279 | 229 => 280 | n => n, fun | n => n⟩
theorem lays190 : Go.Proofs.Lays.n190 Tryz.prog lays190_ren := {
 mixed := by kernel_rfl
 f125 := Tryz.func143.trans (congrArg some (by kernel_rfl))
 f128 := Tryz.func173.trans (congrArg some (by kernel_rfl))
 f129 := Tryz.func174.trans (congrArg some (by kernel_rfl))
 f190 := Tryz.func122.trans (congrArg some (by kernel_rfl))
 f258 := Tryz.func150.trans (congrArg some (by kernel_rfl))
 f302 := Tryz.func190.trans (congrArg some (by kernel_rfl))
 f303 := Tryz.func191.trans (congrArg some (by kernel_rfl))
 f304 := Tryz.func192.trans (congrArg some (by kernel_rfl))
 f305 := Tryz.func193.trans (congrArg some (by kernel_rfl))
 f306 := Tryz.func194.trans (congrArg some (by kernel_rfl))
 f307 := Tryz.func195.trans (congrArg some (by kernel_rfl))
 f308 := Tryz.func196.trans (congrArg some (by kernel_rfl))
 f309 := Tryz.func197.trans (congrArg some (by kernel_rfl))
 f310 := Tryz.func198.trans (congrArg some (by kernel_rfl))
 f329 := Tryz.func203.trans (congrArg some (by kernel_rfl))
 f330 := Tryz.func204.trans (congrArg some (by kernel_rfl))
 f333 := Tryz.func214.trans (congrArg some (by kernel_rfl))
 f334 := Tryz.func215.trans (congrArg some (by kernel_rfl))
 f335 := Tryz.func216.trans (congrArg some (by kernel_rfl))
 f336 := Tryz.func217.trans (congrArg some (by kernel_rfl))
 f344 := Tryz.func226.trans (congrArg some (by kernel_rfl))
 t0 := Tryz.underlying0
 a0 := Tryz.isAgg0
 z0 := Tryz.sizeOf0
 v0 := Tryz.zeroValue0
 t3 := Tryz.underlying3
 a3 := Tryz.isAgg3
 z3 := Tryz.sizeOf3
 v3 := Tryz.zeroValue3
 t4 := Tryz.underlying4
 a4 := Tryz.isAgg4
 z4 := Tryz.sizeOf4
 v4 := Tryz.zeroValue4
 t5 := Tryz.underlying5
 a5 := Tryz.isAgg5
 z5 := Tryz.sizeOf5
 v5 := Tryz.zeroValue5
 t9 := Tryz.underlying9
 a9 := Tryz.isAgg9
 z9 := Tryz.sizeOf9
 v9 := Tryz.zeroValue9
 t31 := Tryz.underlying112
 a31 := Tryz.isAgg112
 z31 := Tryz.sizeOf112
 v31 := Tryz.zeroValue112
 t46 := Tryz.underlying221
 a46 := Tryz.isAgg221
 z46 := Tryz.sizeOf221
 v46 := Tryz.zeroValue221
 t51 := Tryz.underlying26
 a51 := Tryz.isAgg26
 z51 := Tryz.sizeOf26
 v51 := Tryz.zeroValue26
 t53 := Tryz.underlying36
 a53 := Tryz.isAgg36
 z53 := Tryz.sizeOf36
 v53 := Tryz.zeroValue36
 t131 := Tryz.underlying170
 a131 := Tryz.isAgg170
 z131 := Tryz.sizeOf170
 v131 := Tryz.zeroValue170
 t182 := Tryz.underlying238
 a182 := Tryz.isAgg238
 z182 := Tryz.sizeOf238
 v182 := Tryz.zeroValue238
 t183 := Tryz.underlying239
 a183 := Tryz.isAgg239
 z183 := Tryz.sizeOf239
 v183 := Tryz.zeroValue239
 t218 := Tryz.underlying261
 a218 := Tryz.isAgg261
 z218 := Tryz.sizeOf261
 v218 := Tryz.zeroValue261
 t222 := Tryz.underlying265
 a222 := Tryz.isAgg265
 z222 := Tryz.sizeOf265
 v222 := Tryz.zeroValue265
 t228 := Tryz.underlying279
 a228 := Tryz.isAgg279
 z228 := Tryz.sizeOf279
 v228 := Tryz.zeroValue279
 t229 := Tryz.underlying280
 a229 := Tryz.isAgg280
 z229 := Tryz.sizeOf280
 v229 := Tryz.zeroValue280 }
theorem sorts_ok {K : List Fa} {A : Option Addr} {c : Nat} {ss : List (List UInt8)} (hn : ss.length ≤ 1000000) :
  Fn Tryz.prog 122 #[.slice A ss.length c] (own 9 1 A ss.length c (ss.map encStr) :: K) (Ret (fun _ : Unit => True) (fun _ => .tuple #[]) (fun _ => own 9 1 A ss.length c ((ss.mergeSort fun x y => decide (x ≤ y)).map encStr) :: K)) := by
 rcases Nat.eq_zero_or_pos ss.length with h0 | h0
 ·obtain rfl : ss = [] := List.eq_nil_of_length_eq_zero h0
  unfold Fn
  intro w hw; refine (Any.slices_Sort_string_none lays190 A c w).mono ?_; rintro x w' ⟨rfl, rfl⟩
  refine ⟨(), trivial, rfl, ?_⟩
  simpa using hw
 ·unfold Fn
  intro w hw
  obtain ⟨g, cap, hv, _, _⟩ := World.ownsRow.form (show w.ownsRow 0 9 1 (.slice A ss.length c) ss.length (ss.map encStr) from by have := hw.hd; unfold own at this; exact this) h0
  obtain rfl : A = some ⟨g, 0, none⟩ := by injection hv
  have h1 : (ss.map encStr) = ss.toArray.toList.map encStr := by simp
  rw [h1] at hw
  obtain ⟨hH, hg, _, _, hS⟩ := sep_sorted hw
  refine (Any.slices_Sort_string lays190 g 0 c ss w hH hg (by omega)).mono ?_; rintro x w' ⟨rfl, m, os, rfl⟩
  refine ⟨(), trivial, rfl, ?_⟩
  have h2 := hS (ss.mergeSort fun x y => decide (x ≤ y)).toArray m os (by simp)
  simpa [sortWorld] using h2
end
section
open Go.RowKit Go.MapKept
attribute [local irreducible] Go.Calls Go.Exit.then Go.Exit.inBlock Go.bodyPost Go.Code.wp Go.wpList
section
def namesOf (fs : List DF) : List (List UInt8) := (fs.map (·.s.data.toList)).mergeSort (fun x y => decide (x ≤ y))
theorem names_perm {us fs : List DF} (h : us.Perm fs) : namesOf us = namesOf fs := by
 have ht : ∀ a b c : List UInt8, decide (a ≤ b) = true → decide (b ≤ c) = true → decide (a ≤ c) = true := fun a b c h1 h2 => decide_eq_true (List.le_trans (of_decide_eq_true h1) (of_decide_eq_true h2))
 have hl : ∀ a b : List UInt8, (decide (a ≤ b) || decide (b ≤ a)) = true := fun a b => by
  rcases List.le_total a b with h | h
  ·simp [h]
  ·simp [h]
 unfold namesOf
 refine List.Perm.eq_of_pairwise (le := fun x y => decide (x ≤ y) = true) ?_ (List.pairwise_mergeSort ht hl _) (List.pairwise_mergeSort ht hl _) ?_
 ·intro a b _ _ h1 h2; exact List.le_antisymm (of_decide_eq_true h1) (of_decide_eq_true h2)
 ·exact (List.mergeSort_perm _ _).trans ((h.map _).trans (List.mergeSort_perm _ _).symm)
theorem names_len {fs : List DF} : (namesOf fs).length = fs.length := by simp [namesOf]
theorem enc_str (s : ByteArray) : Go.Proofs.encStr s.data.toList = .string s := by
 show Value.string ⟨s.data.toList.toArray⟩ = _
 rw [Array.toArray_toList]
theorem enc_strs (us : List DF) : (us.map (·.s.data.toList)).map Go.Proofs.encStr = us.map (fun f => Value.string f.s) := by
 rw [List.map_map]
 apply List.map_congr_left
 intro f _; exact enc_str f.s
theorem str_one {s : ByteArray} : ∀ u ∈ [Value.string s], u.oneCell' = true := by
 intro u hu
 rw [List.mem_singleton] at hu
 subst hu
 rfl
theorem infoStr : (Tryz.prog.info? 9).map (fun i => (i.zero, i.size, i.bytes)) = some (some (.string ⟨#[]⟩), 1, 16) := by kernel_rfl
structure Nm where
 us : List DF
 A : Option Addr
 c : Nat
open pDk2
theorem namesD_ok {K : List Fa} {g m ck : Nat} {lim : Int} {fs : List DF} (hB : At (dB g m lim) K) (hM : At (dM m fs ck) K) (hlen : fs.length ≤ 1000) :
  Fn Tryz.prog 82 #[.pointer (some ⟨g, 0, none⟩)] K (Ret (fun _ : Option Addr × Nat => True) (fun q => .slice q.1 fs.length q.2) (fun q => own 9 1 q.1 fs.length q.2 ((namesOf fs).map Go.Proofs.encStr) :: K)) := by
 refine fn_know (mp_nodup hM) ?_; rintro ⟨hnd, hks⟩; refine fe_ Tryz.func82 Tryz.ntmps82 [(0, .pointer (some ⟨g, 0, none⟩))] ?_; refine go_ ?_; refine sl_range rfl at_ rfl rfl ?_; intro r; refine go_ ?_; refine sc_for (fun p : Nm => [(3, .slice p.A p.us.length p.c), (11, .pointer (some ⟨r, 0, none⟩))]) (fun p => own 9 1 p.A p.us.length p.c (p.us.map (fun f => Value.string f.s)) :: itr r m ck (p.us.map DF.ent) :: K) (fun p => p.us.Nodup ∧ ∀ u ∈ p.us, u ∈ fs) (fun p => fs.length - p.us.length) ⟨[], none, 0⟩ has_ (Sub.own_nil Sub.refl) ⟨List.nodup_nil, fun _ h => by cases h⟩ ?_; rintro ⟨us, A, c⟩ ⟨hun, hus⟩
 dsimp only at hun hus ⊢
 refine sc_seq ?_; refine sc_region ?_; refine sl_next rfl at_ pick_ (fun y hy => by obtain ⟨u, hu, rfl⟩ := List.mem_map.1 hy; exact List.mem_map_of_mem (hus u hu)) rfl (fun hall => ?_) (fun y hy hn => ?_)
 ·have hp : us.Perm fs := (List.perm_ext_iff_of_nodup hun hnd).2 fun x => ⟨hus x, fun hx => by
    obtain ⟨u, hu, he⟩ := List.mem_map.1 (hall _ (List.mem_map_of_mem hx))
    rwa [← ent_inj hks (hus u hu) hx he]⟩
  have hul := hp.length_eq
  refine go_ ?_
  have hso := sorts_ok (K := itr r m ck (us.map DF.ent) :: K) (A := A) (c := c) (ss := us.map (·.s.data.toList)) (by rw [List.length_map]; omega)
  rw [enc_strs, List.length_map] at hso
  refine slc_ rfl rfl Sub.refl hso ?_; rintro _ -; rw [show ((us.map (·.s.data.toList)).mergeSort fun x y => decide (x ≤ y)) = namesOf us from rfl, names_perm hp, hul]; refine go_ ?_; exact r1_ (A, c)
 ·obtain ⟨f, hf, rfl⟩ := List.mem_map.1 hy
  have hfu : f ∉ us := fun h => hn (List.mem_map_of_mem h)
  have hnd' : (us ++ [f]).Nodup := List.nodup_append.2 ⟨hun, List.nodup_cons.2 ⟨by simp, List.nodup_nil⟩, fun a ha b hb e => by rw [List.mem_singleton] at hb; exact hfu (by rw [← hb, ← e]; exact ha)⟩
  have hsub : ∀ u ∈ us ++ [f], u ∈ fs := fun u h => by
   rcases List.mem_append.1 h with h | h
   ·exact hus u h
   ·rw [List.mem_singleton] at h
    rw [h]; exact hf
  obtain ⟨z, hz⟩ := sub_split hnd' hnd hsub
  have hlen2 := hz.length_eq
  rw [List.length_append, List.length_append, List.length_singleton] at hlen2
  have hm : us.map DF.ent ++ [f.ent] = (us ++ [f]).map DF.ent := by simp
  have hm2 : us.map (fun f => Value.string f.s) ++ [Value.string f.s] = (us ++ [f]).map (fun f => Value.string f.s) := by simp
  have hm3 : us.length + 1 = (us ++ [f]).length := by simp
  refine go_ ?_; rw [hm]; refine sl_build (size := 1) (e := 9) (cells := [Value.string f.s]) rfl (fun W => by kernel_rfl) rfl (by decide) rfl ?_; intro gb; refine sl_app (A := A) (k := us.length) (c := c) rfl pick_ rfl (Vw.of_own (e := 9) (A := some ⟨gb, 0, none⟩) (c := 1) at_) str_one rfl infoStr (by decide) (by decide) rfl (by unfold maxLen; omega) (by omega) ?_; intro A2 c2; rw [hm2, hm3]; refine go_ ?_
  refine se_round ⟨us ++ [f], A2, c2⟩ has_ sub_ ⟨hnd', hsub⟩ (by simp only [List.length_append, List.length_singleton]; omega)
end
section
structure Fi where
 s : ByteArray
 l : List Int
 sy : Nat
def DF.ab (f : DF) : Fi := ⟨f.s, f.l, f.sy⟩
def crN (keep : Int) (l : List Int) (sy : Nat) : Nat := sy + (if (((l.length - sy : Nat) : Int)) < (if keep < 0 then 0 else keep) then (((l.length - sy : Nat) : Int)) else (if keep < 0 then 0 else keep)).toNat
def Fi.cr (keep : Int) (a : Fi) : Fi := ⟨a.s, a.l.take (crN keep a.l a.sy), crN keep a.l a.sy⟩
theorem crN_le {keep : Int} {l : List Int} {sy : Nat} (h : sy ≤ l.length) : sy ≤ crN keep l sy ∧ crN keep l sy ≤ l.length := by
 unfold crN
 split <;> split at * <;> omega
theorem crN_int {keep : Int} {l : List Int} {sy : Nat} (h : sy ≤ l.length) : ((crN keep l sy : Nat) : Int) = sy + (if ((l.length : Int) - sy) < (if keep < 0 then 0 else keep) then ((l.length : Int) - sy) else (if keep < 0 then 0 else keep)) := by
 unfold crN
 rw [show ((l.length : Int) - sy) = ((l.length - sy : Nat) : Int) by omega]
 split <;> split at * <;> omega
theorem dval_k {s : ByteArray} {A : Option Addr} {c k bn : Nat} {l : List Int} (hk : k ≤ l.length) : Value.agg #[.slice A k c, .int .i64 k] = DF.val ⟨s, A, c, l.take k, k, bn⟩ := by
 unfold DF.val
 have h1 : (l.take k).length = k := by rw [List.length_take]; omega
 show _ = Value.agg #[.slice A (l.take k).length c, .int .i64 k]
 rw [h1]
theorem nm_nodup {fs : List DF} (h : fs.Pairwise (fun a b => a.s ≠ b.s)) : (namesOf fs).Nodup := by
 unfold namesOf
 refine (List.mergeSort_perm _ _).nodup_iff.2 ?_
 unfold List.Nodup
 rw [List.pairwise_map]
 exact h.imp (fun {a b} hab e => hab (by
   have h2 := congrArg List.toArray e
   rw [Array.toArray_toList, Array.toArray_toList] at h2
   cases hx : a.s
   cases hy : b.s
   rw [hx, hy] at h2
   exact congrArg _ h2))
theorem nm_mem {fs : List DF} {x : List UInt8} : x ∈ namesOf fs ↔ ∃ f ∈ fs, f.s.data.toList = x := by
 unfold namesOf
 rw [(List.mergeSort_perm _ _).mem_iff, List.mem_map]
def phi (keep : Int) (ns : List (List UInt8)) (a : Fi) : Fi := if a.s.data.toList ∈ ns then a.cr keep else a
structure Cw where
 j : Nat
 cur : List DF
theorem data_inj {a b : ByteArray} (h : a.data.toList = b.data.toList) : a = b := by
 have h2 := congrArg List.toArray h
 rw [Array.toArray_toList, Array.toArray_toList] at h2
 cases a
 cases b
 exact congrArg _ h2
theorem cur_split {keep : Int} {fs cur : List DF} {ns : List (List UInt8)} {f0 : DF} (hcur : cur.map DF.ab = fs.map (fun f => phi keep ns f.ab)) (hf : f0 ∈ fs) (hks : fs.Pairwise (fun a b => a.s ≠ b.s)) (hn : f0.s.data.toList ∉ ns) : ∃ X f Y, cur = X ++ f :: Y ∧ f.ab = f0.ab ∧ ∀ f' : DF, f'.ab = f0.ab.cr keep → (X ++ f' :: Y).map DF.ab = fs.map (fun f => phi keep (ns ++ [f0.s.data.toList]) f.ab) := by
 obtain ⟨X0, Y0, rfl⟩ := List.append_of_mem hf
 rw [List.map_append, List.map_cons] at hcur
 obtain ⟨X, Z, rfl, hX, hZ⟩ := List.map_eq_append_iff.1 hcur
 obtain ⟨f, Y, rfl, hf', hY⟩ := List.map_eq_cons_iff.1 hZ
 refine ⟨X, f, Y, rfl, ?_, fun f' he => ?_⟩
 ·rw [hf']; exact if_neg hn
 ·rw [List.pairwise_append, List.pairwise_cons] at hks
  obtain ⟨_, ⟨h1, _⟩, h2⟩ := hks
  rw [List.map_append, List.map_cons, List.map_append, List.map_cons, hX, hY, he]
  have hp : ∀ u : DF, u.s ≠ f0.s → phi keep (ns ++ [f0.s.data.toList]) u.ab = phi keep ns u.ab := fun u hu => by
   unfold phi
   have : u.ab.s.data.toList ∈ ns ++ [f0.s.data.toList] ↔ u.ab.s.data.toList ∈ ns := by
    rw [List.mem_append, List.mem_singleton]; exact ⟨fun h => h.elim id (fun e => absurd (data_inj e) hu), .inl⟩
   simp only [this]
  have hp0 : phi keep (ns ++ [f0.s.data.toList]) f0.ab = f0.ab.cr keep := by
   exact if_pos (List.mem_append_right _ (by simp [DF.ab]))
  rw [hp0]
  congr 1
  ·exact List.map_congr_left fun u hu => (hp u (h2 u hu f0 (List.mem_cons_self ..))).symm
  ·congr 1
   exact List.map_congr_left fun u hu => (hp u (fun e => h1 u hu e.symm)).symm
open pJe
theorem crashD_ok {K : List Fa} {g m ck : Nat} {lim keep : Int} {fs : List DF} (hlen : fs.length ≤ 1000) (hok : ∀ f ∈ fs, f.sy ≤ f.l.length ∧ f.l.length ≤ 1048576) :
  Fn Tryz.prog 38 #[.pointer (some ⟨g, 0, none⟩), .int .i64 keep] (dB g m lim :: dM m fs ck :: dS fs :: K) (Ret (fun q : List DF => q.map DF.ab = fs.map (fun f => f.ab.cr keep)) (fun _ => .tuple #[]) (fun q => dB g m lim :: dM m q ck :: dS q :: K)) := by
 refine fn_know (mp_nodup (m := m) (ck := ck) (fs := fs) at_) ?_; rintro ⟨hnd, hks⟩; refine fe_ Tryz.func38 Tryz.ntmps38 [(0, .pointer (some ⟨g, 0, none⟩)), (1, .int .i64 keep)] ?_; refine go_ ?_; refine slc_ rfl rfl Sub.refl (namesD_ok at_ at_ hlen) ?_; rintro ⟨A, c⟩ -; dsimp only; refine go_ ?_
 have hnl : (namesOf fs).length = fs.length := names_len
 refine sc_for (fun p : Cw => [(0, .pointer (some ⟨g, 0, none⟩)), (1, .int .i64 keep), (9, .slice A fs.length c), (10, .int .i64 fs.length), (11, .int .i64 p.j)]) (fun p => own 9 1 A fs.length c ((namesOf fs).map Go.Proofs.encStr) :: dB g m lim :: dM m p.cur ck :: dS p.cur :: K) (fun p => p.j ≤ fs.length ∧ p.cur.map DF.ab = fs.map (fun f => phi keep ((namesOf fs).take p.j) f.ab)) (fun p => fs.length - p.j) ⟨0, fs⟩ has_ sub_ ⟨Nat.zero_le _, by simp [phi]⟩ ?_; rintro ⟨j, cur⟩ ⟨hj, hcur⟩
 dsimp only at hj hcur ⊢
 by_cases hlt : j < fs.length
 ·have hjn : j < (namesOf fs).length := by omega
  obtain ⟨f0, hf0, hs0⟩ := nm_mem.1 (List.getElem_mem hjn)
  have htk : (namesOf fs).take (j + 1) = (namesOf fs).take j ++ [f0.s.data.toList] := by rw [List.take_succ_eq_append_getElem hjn, hs0]
  have hnin : f0.s.data.toList ∉ (namesOf fs).take j := fun h => by
   rw [hs0] at h
   obtain ⟨i, hi, he⟩ := List.mem_iff_getElem.1 h
   rw [List.length_take] at hi
   rw [List.getElem_take] at he
   have := (List.getElem_inj (nm_nodup hks)).1 he
   omega
  obtain ⟨X, f, Y, rfl, hfab, hnext⟩ := cur_split hcur hf0 hks hnin
  have hfs : f.s = f0.s := congrArg Fi.s hfab
  obtain ⟨hsy, hbig⟩ : f.sy ≤ f.l.length ∧ f.l.length ≤ 1048576 := by
   have h1 : f.sy = f0.sy := congrArg Fi.sy hfab
   have h2 : f.l = f0.l := congrArg Fi.l hfab
   rw [h1, h2]; exact hok f0 hf0
  have hnth : nth ((namesOf fs).map Go.Proofs.encStr) (j * 1) = some (.string f.s) := by
   rw [nth_eq, Nat.mul_one, List.getElem?_map, List.getElem?_eq_getElem hjn, ← hs0, hfs]; exact congrArg some (enc_str f0.s)
  refine sc_form (e := 9) (size := 1) (A := A) (m := fs.length) at_ (by omega) ?_; rintro gn rfl
  have hg := dget (mid_mem (X := X) (Y := Y) (f := f))
  unfold DF.val at hg
  refine go_ ?_; refine al_ ?_; intro g6; refine go_ ?_
  have hcr := crN_le (keep := keep) hsy
  have hci := crN_int (keep := keep) hsy
  rw [← hci]
  obtain ⟨k, hk⟩ : ∃ k, crN keep f.l f.sy = k := ⟨_, rfl⟩
  rw [hk] at hcr ⊢
  refine sc_know (ds_cap (fs := X ++ f :: Y) (f := f) at_ mid_mem) ?_; intro hcap
  have hr : Vw (dS (X ++ f :: Y) :: K) (fun w => Reads w 1 f.A k (bytes (f.l.take k))) := fun w hw => by
   have h1 := (ds_get (fs := X ++ f :: Y) (f := f) at_ mid_mem w hw).take (k := k) (by omega)
   rwa [bytes_take] at h1
  refine dr_ [blk g6 138 [.slice f.A f.l.length f.c, .int .i64 f.sy], dB g m lim] 13 ?_; refine y4_ 0 1 2 3 ?_; refine y4_ 4 5 6 7 ?_; refine y2_ 8 10 ?_; refine w1_ 9 ?_; refine slc_ rfl rfl Sub.refl (clone_ok (hr.mono sub_) (by omega)) ?_; rintro ⟨A1, c1⟩ -; refine wn_ ?_; refine wu_ 11 rfl (pu_build (v := .agg #[.slice A1 k c1, .int .i64 k]) rfl (fun W => by kernel_rfl)) ?_; refine w1_ 12 ?_; refine sl_dput (f := f) (f' := ⟨f.s, A1, c1, f.l.take k, k, f.bn⟩) rfl rfl (congrArg some (dval_k (by omega))) rfl rfl pick_ rfl rfl ?_; refine vx_ ?_; refine go_ ?_; refine se_sub (L' := own 5 1 A1 k c1 (bytes (f.l.take k)) :: dS (X ++ f :: Y) :: own 9 1 (some ⟨gn, 0, none⟩) fs.length c ((namesOf fs).map Go.Proofs.encStr) :: dB g m lim :: dM m (X ++ ⟨f.s, A1, c1, f.l.take k, k, f.bn⟩ :: Y) ck :: K) sub_ ?_; refine se_ent (ds_put (s := f.s) (sy := k) (bn := f.bn) (by rw [List.length_take]; omega)) ?_
  refine se_round ⟨j + 1, X ++ ⟨f.s, A1, c1, f.l.take k, k, f.bn⟩ :: Y⟩ has_ sub_ ⟨hlt, ?_⟩ (by show fs.length - (j + 1) < fs.length - j; omega)
  rw [htk]; refine hnext _ ?_; rw [← hfab]
  show Fi.mk f.s (f.l.take k) k = Fi.mk f.s (f.l.take (crN keep f.l f.sy)) (crN keep f.l f.sy)
  rw [hk]
 ·obtain rfl : j = fs.length := by omega
  rw [List.take_of_length_le (by omega)] at hcur
  have hend : cur.map DF.ab = fs.map (fun f => f.ab.cr keep) := by
   rw [hcur]; refine List.map_congr_left fun u hu => ?_; exact if_pos (nm_mem.2 ⟨u, hu, rfl⟩)
  refine go_ ?_; exact se_end0 cur hend rfl rfl sub_
end
attribute [local irreducible] takeL recordL hashL recL allL
section
open pJe
theorem cells_Jc {K : List Fa} {gj g n : Nat} {s : ByteArray} (hj : At (jC gj g s n) K) : Fn Tryz.prog 62 #[.pointer (some ⟨gj, 0, none⟩)] K (Ret (fun _ : Unit => True) (fun _ => .int .i64 n) (fun _ => K)) := by
 refine fe_ Tryz.func62 Tryz.ntmps62 [(0, .pointer (some ⟨gj, 0, none⟩))] ?_; refine go_ ?_; exact r1_ ()
theorem app_Jnew {K : List Fa} {gj g m : Nat} {lim : Int} {A : Option Addr} {n c : Nat} {bs : List Int} (h : Rd K A n c bs) (hl : bs.length ≤ 5000) (hlim : ((manyL bs.length * 64 : Nat) : Int) ≤ lim) (hlm : lim ≤ 1048576) : Fn Tryz.prog 97 #[.pointer (some ⟨gj, 0, none⟩), .slice A n c] (jC gj g sj 0 :: dB g m lim :: dM m [] 0 :: dS [] :: K) (Ret (fun _ : Option Addr × Nat => True) (fun _ => .int .i64 0) (fun q => jC gj g sj (manyL bs.length) :: dB g m lim :: dM m [⟨sj, q.1, q.2, recL 0 bs, 0, 0⟩] 1 :: dS [⟨sj, q.1, q.2, recL 0 bs, 0, 0⟩] :: K)) := by
 refine fe_ Tryz.func97 Tryz.ntmps97 [(0, .pointer (some ⟨gj, 0, none⟩)), (1, .slice A n c)] ?_
 have hly := Lay_ok (K := jC gj g sj 0 :: dB g m lim :: dM m [] 0 :: dS [] :: K) (number := ((0 : Nat) : Int)) (h.mono sub_) (by decide)
 rw [LyA_ok (by decide) (by omega)] at hly
 have hlen := recL_len (k := 0) (bs := bs)
 have hm1 := many_pos bs.length
 have hm2 : manyL bs.length ≤ 105 := by unfold manyL; omega
 refine go_ ?_; refine slc_ rfl rfl Sub.refl hly ?_; rintro ⟨A1, c1⟩ -; dsimp only; refine go_ ?_; refine dr_ [jC gj g sj 0] 11 ?_; refine y4_ 0 1 2 3 ?_; refine y4_ 4 5 6 7 ?_; refine wy_ 8 ?_; refine w1_ 9 ?_; refine slc_ rfl rfl sub_ (appD_new (K := u8o A1 c1 (recL 0 bs) :: jC gj g sj 0 :: K) (s := sj) (fs := []) (m := m) (ck := 0) (lim := lim) (by decide) (by decide) nohas (by decide) (by omega) (by simp [usedN]; omega) (Vw.of_own (e := 5) (c := c1) at_)) ?_; rintro ⟨A2, c2⟩ -
 dsimp only [List.nil_append]
 refine vy_ 10 ?_; refine wx_ ?_; refine go_ ?_; rw [show ((0 : Nat) : Int) + ((recL 0 bs).length : Int) / 64 = ((manyL bs.length : Nat) : Int) by omega]; exact r1_ (A2, c2)
theorem app_Jyes {K : List Fa} {gj g m ck k : Nat} {lim : Int} {A : Option Addr} {n c : Nat} {bs : List Int} {f : DF} (h : Rd K A n c bs) (hl : bs.length ≤ 5000) (hk : k < 1048576) (hs : f.s.size ≤ 9223372036854775807) (hname : nameB f.s = true) (hf : ((f.l.length + manyL bs.length * 64 : Nat) : Int) ≤ lim) (hn : f.l.length ≤ 1048576) (hlm : lim ≤ 1048576) : Fn Tryz.prog 97 #[.pointer (some ⟨gj, 0, none⟩), .slice A n c] (jC gj g f.s k :: dB g m lim :: dM m [f] ck :: dS [f] :: K) (Ret (fun q : DF => q.s = f.s ∧ q.l = f.l ++ recL k bs ∧ q.sy = f.sy) (fun _ => .int .i64 0) (fun q => jC gj g f.s (k + manyL bs.length) :: dB g m lim :: dM m [q] ck :: dS [q] :: K)) := by
 refine fe_ Tryz.func97 Tryz.ntmps97 [(0, .pointer (some ⟨gj, 0, none⟩)), (1, .slice A n c)] ?_
 have hly := Lay_ok (K := jC gj g f.s k :: dB g m lim :: dM m [f] ck :: dS [f] :: K) (number := (k : Int)) (h.mono sub_) (by omega)
 rw [LyA_ok hk (by omega)] at hly
 have hlen := recL_len (k := k) (bs := bs)
 have hm1 := many_pos bs.length
 have hm2 : manyL bs.length ≤ 105 := by unfold manyL; omega
 refine go_ ?_; refine slc_ rfl rfl Sub.refl hly ?_; rintro ⟨A1, c1⟩ -; dsimp only; refine go_ ?_; refine dr_ [jC gj g f.s k] 11 ?_; refine y4_ 0 1 2 3 ?_; refine y4_ 4 5 6 7 ?_; refine wy_ 8 ?_; refine w1_ 9 ?_; refine slc_ rfl rfl sub_ (appD_yes (K := u8o A1 c1 (recL k bs) :: jC gj g f.s k :: K) (X := []) (Y := []) (f := f) (m := m) (ck := ck) (lim := lim) hs hname (by omega) (by simp [usedN]; omega) (Vw.of_own (e := 5) (c := c1) at_)) ?_; rintro ⟨A2, c2⟩ -
 dsimp only [List.nil_append]
 refine vy_ 10 ?_; refine wx_ ?_; refine go_ ?_; rw [show (k : Int) + ((recL k bs).length : Int) / 64 = ((k + manyL bs.length : Nat) : Int) by omega]; exact se_ret1 ⟨f.s, A2, c2, f.l ++ recL k bs, f.sy, f.bn⟩ ⟨rfl, rfl, rfl⟩ rfl rfl sub_
theorem sync_Jf {K : List Fa} {gj g m ck k : Nat} {lim : Int} {f : DF} (hsy : f.sy ≤ f.l.length) (hn : f.l.length ≤ 1048576) : Fn Tryz.prog 56 #[.pointer (some ⟨gj, 0, none⟩)] (jC gj g f.s k :: dB g m lim :: dM m [f] ck :: dS [f] :: K) (Ret (fun q : DF => q.s = f.s ∧ q.l = f.l ∧ q.sy = f.l.length) (fun _ => .int .i64 0) (fun q => jC gj g f.s k :: dB g m lim :: dM m [q] ck :: dS [q] :: K)) := by
 refine fe_ Tryz.func56 Tryz.ntmps56 [(0, .pointer (some ⟨gj, 0, none⟩))] ?_
 by_cases hz : f.l.length - f.sy = 0
 ·refine go_ ?_; refine dr_ [jC gj g f.s k] 10 ?_; refine y4_ 0 1 2 3 ?_; refine y4_ 4 5 6 7 ?_; refine w1_ 8 ?_; refine slc_ rfl rfl Sub.refl (looseD_ok (g := g) (m := m) (ck := ck) (lim := lim) (fs := [f]) (f := f) at_ at_ (List.mem_singleton.2 rfl) hsy hn) ?_; rintro _ -; rw [hz]; refine vy_ 9 ?_; refine wx_ ?_; refine go_ ?_; exact se_ret1 f ⟨rfl, rfl, by omega⟩ rfl rfl sub_
 ·refine go_ ?_; refine dr_ [jC gj g f.s k] 10 ?_; refine y4_ 0 1 2 3 ?_; refine y4_ 4 5 6 7 ?_; refine w1_ 8 ?_; refine slc_ rfl rfl Sub.refl (looseD_ok (g := g) (m := m) (ck := ck) (lim := lim) (fs := [f]) (f := f) at_ at_ (List.mem_singleton.2 rfl) hsy hn) ?_; rintro _ -; refine vy_ 9 ?_; refine wx_ ?_; refine go_ ?_; refine dr_ [jC gj g f.s k] 10 ?_; refine y4_ 0 1 2 3 ?_; refine y4_ 4 5 6 7 ?_; refine w1_ 8 ?_; refine slc_ rfl rfl sub_ (syncD_ok (K := dS [f] :: jC gj g f.s k :: K) (X := []) (Y := []) (f := f) (g := g) (m := m) (ck := ck) (lim := lim)) ?_; rintro _ -
  dsimp only [List.nil_append]
  refine vy_ 9 ?_; refine wx_ ?_; refine go_ ?_; refine se_ret1 { f with sy := f.l.length } ⟨rfl, rfl, rfl⟩ rfl rfl ?_; rw [show dS [{ f with sy := f.l.length }] = dS [f] from ds_sy (X := []) (Y := [])]; exact sub_
def JFl (ls : List (List Int)) (σ : Nat) (f : DF) : Prop := f.s = sj ∧ f.l = allL ls ∧ f.sy ≤ f.l.length ∧ σ ≤ f.sy
def JSt (ls : List (List Int)) (fs : List DF) (ck σ : Nat) : Prop := (ls = [] ∧ fs = [] ∧ ck = 0 ∧ σ = 0) ∨ ∃ f, fs = [f] ∧ JFl ls σ f
theorem many_le {n : Nat} (h : n ≤ 5000) : manyL n ≤ 105 := by
 unfold manyL
 omega
attribute [local semireducible] allL in
theorem allL_one (bs : List Int) : recL 0 bs = allL ([] ++ [bs]) := by
 rw [allL_next]
 rfl
theorem app_J {K : List Fa} {gj g m ck σ : Nat} {lim : Int} {A : Option Addr} {n c : Nat} {bs : List Int} {ls : List (List Int)} {fs : List DF} (hS : JSt ls fs ck σ) (h : Rd K A n c bs) (hl : bs.length ≤ 5000) (hcc : cellsA ls ≤ 16000) (hlim : (((cellsA ls + manyL bs.length) * 64 : Nat) : Int) ≤ lim) (hlm : lim ≤ 1048576) :
  Fn Tryz.prog 97 #[.pointer (some ⟨gj, 0, none⟩), .slice A n c] (jC gj g sj (cellsA ls) :: dB g m lim :: dM m fs ck :: dS fs :: K) (Ret (fun q : DF × Nat => JFl (ls ++ [bs]) σ q.1) (fun _ => .int .i64 0) (fun q => jC gj g sj (cellsA (ls ++ [bs])) :: dB g m lim :: dM m [q.1] q.2 :: dS [q.1] :: K)) := by
 rcases hS with ⟨rfl, rfl, rfl, rfl⟩ | ⟨f, rfl, h1, h2, h3, h4⟩
 ·have e : cellsA ([] ++ [bs]) = manyL bs.length := by
   rw [cellsA_snoc]
   show 0 + _ = _
   omega
  have e0 : cellsA ([] : List (List Int)) = 0 := rfl
  have hlim0 : ((manyL bs.length * 64 : Nat) : Int) ≤ lim := by
   rw [e0, Nat.zero_add] at hlim
   exact hlim
  refine (app_Jnew (K := K) (gj := gj) (g := g) (m := m) (lim := lim) h hl hlim0 hlm).say fun q w _ hw => ⟨(⟨sj, q.1, q.2, recL 0 bs, 0, 0⟩, 1), ⟨rfl, allL_one bs, Nat.zero_le _, Nat.zero_le _⟩, rfl, ?_⟩
  rw [e]; exact hw
 ·have hm := many_le hl
  have h0 := app_Jyes (K := K) (gj := gj) (g := g) (m := m) (ck := ck) (k := cellsA ls) (f := f) h hl (by omega) (by rw [h1]; decide) (by rw [h1]; decide) (by rw [h2, allL_len]; omega) (by rw [h2, allL_len]; omega) hlm
  rw [h1] at h0
  refine h0.say fun q w hq hw => ?_
  obtain ⟨q1, q2, q3⟩ := hq
  refine ⟨(q, ck), ⟨q1, by rw [q2, h2, allL_next], by rw [q2, q3, List.length_append]; omega, by rw [q3]; exact h4⟩, rfl, ?_⟩
  rw [cellsA_snoc]; exact hw
theorem sync_Js {K : List Fa} {gj g m ck k σ : Nat} {lim : Int} {ls : List (List Int)} {f : DF} (hF : JFl ls σ f) (hn : f.l.length ≤ 1048576) :
  Fn Tryz.prog 56 #[.pointer (some ⟨gj, 0, none⟩)] (jC gj g sj k :: dB g m lim :: dM m [f] ck :: dS [f] :: K) (Ret (fun q : DF => JFl ls f.l.length q) (fun _ => .int .i64 0) (fun q => jC gj g sj k :: dB g m lim :: dM m [q] ck :: dS [q] :: K)) := by
 obtain ⟨h1, h2, h3, h4⟩ := hF
 have h0 := sync_Jf (lim := lim) (K := K) (gj := gj) (g := g) (m := m) (ck := ck) (k := k) (f := f) h3 hn
 rw [h1] at h0
 refine h0.say fun q w hq hw => ?_
 obtain ⟨q1, q2, q3⟩ := hq
 exact ⟨q, ⟨q1, by rw [q2, h2], by rw [q2, q3]; omega, by rw [q3]; omega⟩, rfl, hw⟩
theorem open_cut {K : List Fa} {g m ck mm r : Nat} {lim : Int} {ls : List (List Int)} {f : DF} (hs : f.s = sj) (hl : f.l = (allL ls).take mm) (hmm : mm ≤ (allL ls).length) (hsy : f.sy ≤ f.l.length) (hW : Whole ls mm r) (hls : ∀ x ∈ ls, x.length ≤ 65536) (hlb : ∀ x ∈ ls, IsBytes x) (hc : cellsA ls ≤ 16000) :
  Fn Tryz.prog 42 #[.pointer (some ⟨g, 0, none⟩), .string sj] (dB g m lim :: dM m [f] ck :: dS [f] :: K) (Ret (fun p : Ok => (p.q.xs.map Sx.l = ls.take r ∧ ∀ x ∈ p.q.xs, x.ok) ∧ p.f.s = sj ∧ p.f.l = allL (ls.take r) ∧ p.f.sy = if cellsA (ls.take r) * 64 < mm then cellsA (ls.take r) * 64 else f.sy) (fun p => .tuple #[.pointer (some ⟨p.gj, 0, none⟩), .slice p.q.R p.q.xs.length p.q.c, .int .i64 0]) (fun p => jC p.gj g sj (cellsA (ls.take r)) :: p.q.row :: p.q.st :: dB g m lim :: dM m [p.f] ck :: dS [p.f] :: K)) := by
 have hlen := allL_len ls
 obtain ⟨⟨c1, c2, c3⟩, c4⟩ := cut_ok hls (by omega) hmm hW
 have hab := allL_bytes ls hlb
 have hfl : f.l.length = mm := by rw [hl, List.length_take]; omega
 have hlo := hW.lo
 have h0 := open_go (K := K) (g := g) (m := m) (ck := ck) (lim := lim) (f := f) (j0 := r) (k0 := cellsA (ls.take r)) (out0 := ls.take r) (by omega) (by rw [hl]; exact hab.take _) hsy (by omega) (by rw [hl]; exact c1) (by rw [hl]; exact c2) (by rw [hl]; exact c3)
 rw [hs, hfl, hl, c4] at h0
 exact h0
theorem crash_one {K : List Fa} {g m ck : Nat} {lim keep : Int} {f : DF} (hsy : f.sy ≤ f.l.length) (hn : f.l.length ≤ 1048576) :
  Fn Tryz.prog 38 #[.pointer (some ⟨g, 0, none⟩), .int .i64 keep] (dB g m lim :: dM m [f] ck :: dS [f] :: K) (Ret (fun q : DF => q.s = f.s ∧ q.l = f.l.take (crN keep f.l f.sy) ∧ q.sy = crN keep f.l f.sy) (fun _ => .tuple #[]) (fun q => dB g m lim :: dM m [q] ck :: dS [q] :: K)) := by
 have h0 := crashD_ok (K := K) (g := g) (m := m) (ck := ck) (lim := lim) (keep := keep) (fs := [f]) (by show 1 ≤ 1000; decide) (fun x hx => by rw [List.mem_singleton] at hx; subst hx; exact ⟨hsy, hn⟩)
 refine h0.say fun q w hq hw => ?_
 obtain ⟨q0, rfl⟩ : ∃ q0, q = [q0] := List.length_eq_one_iff.1 (by have := congrArg List.length hq; simpa using this)
 have h1 : q0.ab = f.ab.cr keep := by simpa using hq
 simp only [DF.ab, Fi.cr, Fi.mk.injEq] at h1
 exact ⟨q0, h1, rfl, hw⟩
end
section
namespace pSkn
theorem nthx_ (h : φ := by first | rfl | exact rpC_n16 | exact rpC_n17 | exact rpC_n18) : φ := h
theorem midx_ (h : φ := by first | exact rpC_id | exact Mid.all) : φ := h
theorem szx_ (h : φ := by ((try simp only [rpC_len, bytes_length, Id.len]); (first | done | rfl); first | done | fail)) : φ := h
end pSkn
open pSkn
theorem note_ok {K : List Fa} {g gj gi gb mw ms gd md σ ckd : Nat} {t : Ta} {life lim kind : Int} {ls : List (List Int)} {fs : List DF} {f : FuncId} {caps : List Value} {bs : List Int}
  (hf : callable Tryz.prog f = true) (hS : JSt ls fs ckd σ) (hb : IsBytes (kind :: bs)) (hl : (kind :: bs).length ≤ 5000) (hcc : cellsA ls ≤ 16000) (hlim : (((cellsA ls + manyL (kind :: bs).length) * 64 : Nat) : Int) ≤ lim) (hlm : lim ≤ 1048576)
  (hfill : ∀ (b : Nat) (A : Option Addr) (c : Nat), Fn Tryz.prog f ([Value.pointer (some ⟨b, 0, none⟩)] ++ caps).toArray (wrb b A [kind].length c :: u8o A c [kind] :: sB g t gj gi gb mw ms life :: jC gj gd sj (cellsA ls) :: dB gd md lim :: dM md fs ckd :: dS fs :: K)
    (Ret (fun _ : Option Addr × Nat => True) (fun _ => .tuple #[]) (fun p => wrb b p.1 (kind :: bs).length p.2 :: u8o p.1 p.2 (kind :: bs) :: sB g t gj gi gb mw ms life :: jC gj gd sj (cellsA ls) :: dB gd md lim :: dM md fs ckd :: dS fs :: K))) :
  Fn Tryz.prog 45 #[.pointer (some ⟨g, 0, none⟩), .int .u8 kind, .func (.func f) #[] caps.toArray] (sB g t gj gi gb mw ms life :: jC gj gd sj (cellsA ls) :: dB gd md lim :: dM md fs ckd :: dS fs :: K)
   (Ret (fun q : DF × Nat => JFl (ls ++ [kind :: bs]) σ q.1) (fun _ => .int .i64 0) (fun q => sB g t gj gi gb mw ms life :: jC gj gd sj (cellsA (ls ++ [kind :: bs])) :: dB gd md lim :: dM md [q.1] q.2 :: dS [q.1] :: K)) := by
 refine fe_ Tryz.func45 Tryz.ntmps45 [(0, .pointer (some ⟨g, 0, none⟩)), (1, .int .u8 kind), (2, .func (.func f) #[] caps.toArray)] ?_; refine go_ ?_; refine al_ ?_; intro b; refine go_ ?_; refine sl_build (size := 1) (e := 5) (cells := [.int .u8 kind]) rfl (fun W => by kernel_rfl) rfl (by decide) rfl ?_; intro g1; refine go_ ?_; refine slc_ rfl rfl (by exact Sub.cons pick_ (Sub.own_nil Sub.refl)) (wRaw (bs := []) (xs := [kind]) (b := b) (A := none) (c := 0) (Vw.of_own (e := 5) (A := some ⟨g1, 0, none⟩) (c := 1) at_) (by decide)) ?_; rintro ⟨A1, c1⟩ -
 dsimp only [List.nil_append]
 refine go_ ?_; refine sl_call rfl rfl hf rfl sub_ (hfill b A1 c1) ?_; rintro ⟨A2, c2⟩ -; dsimp only; refine go_ ?_; refine dr_ [sB g t gj gi gb mw ms life] 7 ?_; refine y4_ 0 1 2 3 ?_; refine w1_ 4 ?_; refine slc_ rfl rfl sub_ (wBytes (b := b) (A := A2) (c := c2) (bs := kind :: bs) (by omega)) ?_; rintro ⟨A3, c3⟩ -; dsimp only; refine sl_know (fun w hw => own_len (e := 5) (size := 1) (A := A3) hw at_) ?_; rintro ⟨-, l1, l2⟩; refine v1_ 5 ?_; refine slc_ rfl rfl sub_ (app_J (K := u8o A3 c3 (kind :: bs) :: sB g t gj gi gb mw ms life :: K) (gj := gj) (g := gd) (m := md) (lim := lim) hS ⟨Vw.of_own (e := 5) (A := A3) (c := c3) .here, l1, by omega, l2, rfl, hb⟩ hl hcc hlim hlm) ?_; rintro ⟨q, ck2⟩ hq; refine vy_ 6 ?_; refine wx_ ?_; refine go_ ?_; exact se_ret1 (q, ck2) hq rfl rfl sub_
end
end
end Go.Proofs.YtocaabnbmcpjmaaGreat
