/- Several texts of one claim, one behind the other (Je, Jh, Dkt, Jg, Ji, Shl, Dk7, Dk8, Sj, Skn, Skc, Ska, Skg). -/
import Derived.Test.YtocaabnbmcpjmaaGreatDoorB14
import Derived.Test.YtocaabnbmcpjmaaGreatDoorB13
import Derived.Shelf.Sort.Plain
import Derived.Shelf.Slices.In.SortNone
import Derived.Test.YtocaabnbmcpjmaaGreatDoorB09
import Derived.Test.YtocaabnbmcpjmaaGreatDoorB01
import Derived.Test.YtocaabnbmcpjmaaGreatDoorB11
import Derived.Test.YtocaabnbmcpjmaaGreatDoorB06
set_option linter.unusedVariables false
set_option linter.unusedSimpArgs false
/- JournalErrors: its walk. -/
namespace Go.Proofs.YtocaabnbmcpjmaaGreatDoor
open Go.RowKit Go.MapKept
attribute [local irreducible] Go.Calls Go.Exit.then Go.Exit.inBlock Go.bodyPost Go.Code.wp Go.wpList takeL recordL hashL recL allL
def sj : ByteArray := ⟨#[106, 111, 117, 114, 110, 97, 108]⟩
abbrev jB (gj g : Nat) (s : ByteArray) : Fa := blk gj 124 [.pointer (some ⟨g, 0, none⟩), .string s, .int .i64 0]
theorem nohas {s : ByteArray} : ¬ DHas [] s := fun ⟨_, h, _⟩ => by cases h
structure Oj where
  gj : Nat
  R : Option Addr
  c : Nat
theorem many_pos (n : Nat) : 1 ≤ manyL n := by
  unfold manyL
  omega
theorem nth_Je {φ : Prop} (h : φ := by (first | rfl | assumption)) : φ := h
theorem mid_Je {φ : Prop} (h : φ := by (first | exact Mid.all | exact Mid.all | exact Mid.head)) : φ := h
theorem sz_Je {φ : Prop} (h : φ := by (first | rfl | (rfl; first | done | fail))) : φ := h
theorem one_Je {φ : Prop} (h : φ := by (first | assumption | exact first | exact one_bytes _ | exact ff_one | (simp only [List.mem_cons, List.not_mem_nil, or_false, forall_eq_or_imp, forall_eq]; decide) | exact one_bytes _ | (intro v hv; (repeat (rcases List.mem_cons.1 hv with rfl | hv; rfl)); cases hv))) : φ := h
theorem set_Je {φ : Prop} (h : φ := by (first | (fail) | ((repeat (first | exact SetAt.here | apply SetAt.there)); first | done | fail))) : φ := h
theorem cl_Je {φ : Prop} (h : φ := by first | rfl | exact .t | exact .f | exact .t (by omega) | exact .f (by omega) | exact .u | exact .i (by (first | exact .t (by omega) | exact .f (by omega) | exact .u | exact .i (by omega) | exact .v (by omega) | exact .b (by omega) | exact .w | rfl | omega)) | exact .v (by omega) | exact .b (by omega) | exact .q (by omega) | exact .w | exact .b (by exact at_) rfl (by exact nth_Je) | exact .w (by exact at_) rfl rfl (by exact sz_Je) | exact .s (by exact at_) (by exact mid_Je) rfl rfl (by exact sz_Je) | exact .z rfl rfl ⟨by kernel_rfl⟩ | exact .b rfl rfl ⟨by kernel_rfl⟩ | exact .a rfl rfl ⟨by kernel_rfl⟩ | exact .o rfl | exact .s | exact .n | exact .p rfl | exact .q rfl | exact .c rfl | exact .d rfl | exact .n rfl rfl (by omega) | exact .a rfl rfl (by omega) | exact .p rfl rfl (by omega) (by omega) | exact .y rfl rfl (by omega) (by omega) | exact .o (by exact at_) (by omega) rfl (by exact nth_Je) | exact .m (by exact at_) (by omega) (by exact mid_Je) rfl rfl (by exact sz_Je) | exact .mlen (by exact at_) rfl | exact .t (by exact at_) rfl rfl (by first | exact True.intro | rfl) (by assumption) | exact .f (by exact at_) rfl rfl (by first | exact True.intro | rfl) (by assumption) rfl | exact .t1 (by exact at_) rfl rfl (by first | exact True.intro | rfl) (by assumption) | exact .f1 (by exact at_) rfl rfl (by first | exact True.intro | rfl) (by assumption) rfl | exact .tk (by exact at_) rfl (by assumption) (by assumption) | exact .fk (by exact at_) rfl (by assumption) (by assumption) rfl | exact .tk1 (by exact at_) rfl (by assumption) (by assumption) | exact .fk1 (by exact at_) rfl (by assumption) (by assumption) rfl | exact .r rfl rfl (by omega) (by omega) (by exact nth_Je) rfl | exact .s rfl (by omega) (by assumption) | exact at_ | assumption | exact .r rfl rfl | exact .h rfl rfl rfl (by omega) | exact .l rfl rfl rfl (by omega) (by omega) | exact .g rfl rfl rfl rfl (by omega) (by omega) | exact .h rfl rfl (toN_ (by omega)) (by omega) | exact .l rfl rfl (toN_ (by omega)) (by omega) (by omega) | exact .g rfl rfl (toN_ (by omega)) (toN_ (by omega)) (by omega) (by omega) | exact .o (by decide) | exact .f (by decide) | exact .n (by omega) (by first | decide | (show _ ≤ ((64 : Nat) : Int); omega)) | (constructor; (repeat (first | exact .t (by omega) | exact .f (by omega) | exact .u | exact .i (by omega) | exact .v (by omega) | exact .b (by omega) | exact .w | rfl | omega)); first | done | fail) | omega | (show _ ≤ ((64 : Nat) : Int); omega)) : φ := h
theorem pv_Je {φ : Prop} (h : φ := by constructor; (repeat exact cl_Je); first | done | fail) : φ := h
theorem su_Je {φ ψ : Prop} (k : ψ) (h : Hide ψ → φ := by (intro k; (first | refine sl_pu (PuI.sep (by exact pv_Je)) rfl ?_ | refine sl_yes rfl rfl ?_ | refine sl_no rfl rfl rfl ?_ | refine sl_off rfl rfl rfl ?_ | (fail)); exact k.out)) : φ := h ⟨k⟩
theorem sto_Je {φ ψ : Prop} (k : ψ) (h : Hide ψ → φ := by (intro k; (first | refine sl_store rfl (by exact pick_) rfl rfl (by kernel_rfl) (by exact set_Je) ?_ | refine sl_store_whole rfl (by exact pick_) rfl (by exact sz_Je) (by exact sz_Je) (by exact one_Je) ?_); exact k.out)) : φ := h ⟨k⟩
theorem go_Je {φ ψ : Prop} (k : ψ) (h : Hide ψ → φ := by (intro k; (repeat (first | refine su_Je ?_ | refine so_ ?_ | refine sto_Je ?_)); exact k.out)) : φ := h ⟨k⟩
set_option maxRecDepth 100000 in
set_option maxHeartbeats 2000000 in
theorem open_new {K : List Fa} {g m : Nat} {lim : Int} {s : ByteArray} :
    Fn Tryz.prog 23 #[.pointer (some ⟨g, 0, none⟩), .string s] (dB g m lim :: dM m [] 0 :: dS [] :: K) (Ret (fun _ : Oj => True) (fun q => .tuple #[.pointer (some ⟨q.gj, 0, none⟩), .slice q.R 0 q.c, .int .i64 0]) (fun q => jB q.gj g s :: dB g m lim :: dM m [] 0 :: dS [] :: K)) := by
  refine fn_enter Tryz.func23 rfl _ Tryz.ntmps23 (by simp) [(0, .pointer (some ⟨g, 0, none⟩)), (1, .string s)] (args_of (by simp)) ?_
  refine go_Je ?_
  refine sl_call rfl rfl (by kernel_rfl) rfl Sub.refl (readD_no (fs := []) (m := m) (ck := 0) (lim := lim) (by exact at_) (by exact at_) nohas) ?_
  rintro _ -
  refine go_Je ?_
  have hsc := scan_ok (K := dB g m lim :: dM m [] 0 :: dS [] :: K) (A := none) (n := 0) (c := 0) (j0 := 0) (k0 := 0) (bs := []) (out0 := []) ⟨fun w _ => Reads.nil_ _, Nat.le_refl _, by decide, Nat.zero_le _, rfl, fun _ h => by cases h⟩ (by decide) rfl (rec_out (by decide))
  rw [show haltB [] 0 (cutN [] - 0) = false from rfl, ScA_yes] at hsc
  refine sl_call rfl rfl (by kernel_rfl) rfl Sub.refl hsc ?_
  rintro ⟨xs, R, c⟩ ⟨hxs, -⟩
  obtain rfl : xs = [] := List.map_eq_nil_iff.1 hxs
  dsimp only
  refine sl_sub (L' := dB g m lim :: dM m [] 0 :: dS [] :: K) ?_ ?_
  · exact Sub.skip (Sub.skip Sub.refl)
  refine go_Je ?_
  refine sl_pu (pu_build (v := .agg #[.pointer (some ⟨g, 0, none⟩), .string s, .int .i64 0]) rfl (fun W => by kernel_rfl)) rfl ?_
  refine sl_box rfl rfl rfl ?_; intro gj
  refine go_Je ?_
  exact se_ret3 ⟨gj, R, c⟩ trivial rfl rfl rfl rfl rfl (by exact sub_)
end Go.Proofs.YtocaabnbmcpjmaaGreatDoor
/- A journal opened: Open's walk at a file that is there. -/
namespace Go.Proofs.YtocaabnbmcpjmaaGreatDoor
open Go.RowKit Go.MapKept
attribute [local irreducible] Go.Calls Go.Exit.then Go.Exit.inBlock Go.bodyPost Go.Code.wp Go.wpList takeL recordL hashL recL allL
abbrev jC (gj g : Nat) (s : ByteArray) (n : Nat) : Fa := blk gj 124 [.pointer (some ⟨g, 0, none⟩), .string s, .int .i64 n]
end Go.Proofs.YtocaabnbmcpjmaaGreatDoor
/- A disk: Turn. -/
namespace Go.Proofs.YtocaabnbmcpjmaaGreatDoor
open Go.RowKit Go.MapKept
attribute [local irreducible] Go.Calls Go.Exit.then Go.Exit.inBlock Go.bodyPost Go.Code.wp Go.wpList
end Go.Proofs.YtocaabnbmcpjmaaGreatDoor
/- A journal with a bit turned. Plain. -/
namespace Go.Proofs.YtocaabnbmcpjmaaGreatDoor
open Go.RowKit
attribute [local irreducible] takeL recordL hashL cellL
theorem cut_at {l : List Int} {j i : Nat} : (cutL l j)[i]? = if i < 64 then l[j * 64 + i]? else none := by
  unfold cutL
  rw [List.getElem?_take, List.getElem?_drop]
theorem cells_app (a b : List (List Int)) : cellsA (a ++ b) = cellsA a + cellsA b := by simp [cellsA]
theorem cut_take {l : List Int} {m j : Nat} (h : (j + 1) * 64 ≤ m) : cutL (l.take m) j = cutL l j := by
  apply List.ext_getElem?
  intro i
  rw [cut_at, cut_at]
  split
  · rw [List.getElem?_take, if_pos (by omega)]
  · rfl
attribute [local semireducible] takeL in
theorem take_take {l : List Int} {m j : Nat} (h : (j + 1) * 64 ≤ m) (hm : m ≤ l.length) : takeL (l.take m) j = takeL l j := by
  have e1 : ¬ (l.take m).length < (j + 1) * 64 := by rw [List.length_take]; omega
  have e2 : ¬ l.length < (j + 1) * 64 := by omega
  unfold takeL
  rw [if_neg e1, if_neg e2, cut_take h]
theorem cells_mono {ls : List (List Int)} {a b : Nat} (h : a ≤ b) : cellsA (ls.take a) ≤ cellsA (ls.take b) := by
  have h1 : ls.take b = ls.take a ++ (ls.take b).drop a := by
    have h2 := (List.take_append_drop a (ls.take b)).symm
    rw [List.take_take, Nat.min_eq_left h] at h2
    exact h2
  rw [h1, cells_app]
  omega
/-- How many records are whole in the first m bytes. -/
structure Whole (ls : List (List Int)) (m r : Nat) : Prop where
  hr : r ≤ ls.length
  lo : cellsA (ls.take r) * 64 ≤ m
  hi : r < ls.length → m < cellsA (ls.take (r + 1)) * 64
theorem Whole.le {ls : List (List Int)} {m r a : Nat} (h : Whole ls m r) (h' : cellsA (ls.take a) * 64 ≤ m) (ha : a ≤ ls.length) : a ≤ r := by
  rcases Nat.lt_or_ge r a with hl | hl
  · have h1 := h.hi (by omega)
    have h2 := cells_mono (ls := ls) (a := r + 1) (b := a) (by omega)
    omega
  · exact hl
end Go.Proofs.YtocaabnbmcpjmaaGreatDoor
/- A cell with a bit turned: is it right by its sum? And where a chain of records ends. -/
namespace Go.Proofs.YtocaabnbmcpjmaaGreatDoor
open Go.RowKit Go.MapKept
attribute [local irreducible] Go.Calls Go.Exit.then Go.Exit.inBlock Go.bodyPost Go.Code.wp Go.wpList takeL recordL hashL recL allL
theorem LsV.take {K : List Fa} {R : Option Addr} {xs : List Bx} (h : LsV K R xs) {m : Nat} (hm : m ≤ xs.length) : LsV K R (xs.take m) := by
  refine ⟨fun w hw => ?_, fun x hx => h.el x (List.mem_of_mem_take hx)⟩
  have h1 := (h.vw w hw).take (k := m) hm
  rw [Nat.mul_one, ← List.map_take] at h1
  rw [List.length_take, Nat.min_eq_left hm]
  exact h1
end Go.Proofs.YtocaabnbmcpjmaaGreatDoor
/- The shelf's contract of slices.Sort at strings, laid at this program (printed by the kit's lay-plain), and over facts. -/
namespace Go.Proofs.YtocaabnbmcpjmaaGreatDoor
open Go.Shelf Go.Sort Go.RowKit
end Go.Proofs.YtocaabnbmcpjmaaGreatDoor
/- A disk: Names. -/
namespace Go.Proofs.YtocaabnbmcpjmaaGreatDoor
open Go.RowKit Go.MapKept
attribute [local irreducible] Go.Calls Go.Exit.then Go.Exit.inBlock Go.bodyPost Go.Code.wp Go.wpList
end Go.Proofs.YtocaabnbmcpjmaaGreatDoor
/- A disk: Crash. -/
namespace Go.Proofs.YtocaabnbmcpjmaaGreatDoor
open Go.RowKit Go.MapKept
attribute [local irreducible] Go.Calls Go.Exit.then Go.Exit.inBlock Go.bodyPost Go.Code.wp Go.wpList
/-- A file in the abstract. -/
structure Fi where
  s : ByteArray
  l : List Int
  sy : Nat
def DF.ab (f : DF) : Fi := ⟨f.s, f.l, f.sy⟩
def crN (keep : Int) (l : List Int) (sy : Nat) : Nat := sy + (if (((l.length - sy : Nat) : Int)) < (if keep < 0 then 0 else keep) then (((l.length - sy : Nat) : Int)) else (if keep < 0 then 0 else keep)).toNat
def Fi.cr (keep : Int) (a : Fi) : Fi := ⟨a.s, a.l.take (crN keep a.l a.sy), crN keep a.l a.sy⟩
end Go.Proofs.YtocaabnbmcpjmaaGreatDoor
/- A journal over a disk of whatever size: Append, Sync, Cells; its states; Open after a cut; Crash. -/
namespace Go.Proofs.YtocaabnbmcpjmaaGreatDoor
open Go.RowKit Go.MapKept
attribute [local irreducible] Go.Calls Go.Exit.then Go.Exit.inBlock Go.bodyPost Go.Code.wp Go.wpList takeL recordL hashL recL allL
theorem nth_Sj {φ : Prop} (h : φ := by (first | rfl | assumption)) : φ := h
theorem mid_Sj {φ : Prop} (h : φ := by (first | exact Mid.all | exact Mid.all | exact Mid.head)) : φ := h
theorem sz_Sj {φ : Prop} (h : φ := by (first | rfl | (rfl; first | done | fail))) : φ := h
theorem one_Sj {φ : Prop} (h : φ := by (first | assumption | exact first | exact one_bytes _ | exact ff_one | (simp only [List.mem_cons, List.not_mem_nil, or_false, forall_eq_or_imp, forall_eq]; decide) | exact one_bytes _ | (intro v hv; (repeat (rcases List.mem_cons.1 hv with rfl | hv; rfl)); cases hv))) : φ := h
theorem set_Sj {φ : Prop} (h : φ := by (first | (fail) | ((repeat (first | exact SetAt.here | apply SetAt.there)); first | done | fail))) : φ := h
theorem cl_Sj {φ : Prop} (h : φ := by first | rfl | exact .t | exact .f | exact .t (by omega) | exact .f (by omega) | exact .u | exact .i (by (first | exact .t (by omega) | exact .f (by omega) | exact .u | exact .i (by omega) | exact .v (by omega) | exact .b (by omega) | exact .w | rfl | omega)) | exact .v (by omega) | exact .b (by omega) | exact .q (by omega) | exact .w | exact .b (by exact at_) rfl (by exact nth_Sj) | exact .w (by exact at_) rfl rfl (by exact sz_Sj) | exact .s (by exact at_) (by exact mid_Sj) rfl rfl (by exact sz_Sj) | exact .z rfl rfl ⟨by kernel_rfl⟩ | exact .b rfl rfl ⟨by kernel_rfl⟩ | exact .a rfl rfl ⟨by kernel_rfl⟩ | exact .o rfl | exact .s | exact .n | exact .p rfl | exact .q rfl | exact .c rfl | exact .d rfl | exact .n rfl rfl (by omega) | exact .a rfl rfl (by omega) | exact .p rfl rfl (by omega) (by omega) | exact .y rfl rfl (by omega) (by omega) | exact .o (by exact at_) (by omega) rfl (by exact nth_Sj) | exact .m (by exact at_) (by omega) (by exact mid_Sj) rfl rfl (by exact sz_Sj) | exact .mlen (by exact at_) rfl | exact .t (by exact at_) rfl rfl (by first | exact True.intro | rfl) (by assumption) | exact .f (by exact at_) rfl rfl (by first | exact True.intro | rfl) (by assumption) rfl | exact .t1 (by exact at_) rfl rfl (by first | exact True.intro | rfl) (by assumption) | exact .f1 (by exact at_) rfl rfl (by first | exact True.intro | rfl) (by assumption) rfl | exact .tk (by exact at_) rfl (by assumption) (by assumption) | exact .fk (by exact at_) rfl (by assumption) (by assumption) rfl | exact .tk1 (by exact at_) rfl (by assumption) (by assumption) | exact .fk1 (by exact at_) rfl (by assumption) (by assumption) rfl | exact .r rfl rfl (by omega) (by omega) (by exact nth_Sj) rfl | exact .s rfl (by omega) (by assumption) | exact at_ | assumption | exact .r rfl rfl | exact .h rfl rfl rfl (by omega) | exact .l rfl rfl rfl (by omega) (by omega) | exact .g rfl rfl rfl rfl (by omega) (by omega) | exact .h rfl rfl (toN_ (by omega)) (by omega) | exact .l rfl rfl (toN_ (by omega)) (by omega) (by omega) | exact .g rfl rfl (toN_ (by omega)) (toN_ (by omega)) (by omega) (by omega) | exact .o (by decide) | exact .f (by decide) | exact .n (by omega) (by first | decide | (show _ ≤ ((64 : Nat) : Int); omega)) | (constructor; (repeat (first | exact .t (by omega) | exact .f (by omega) | exact .u | exact .i (by omega) | exact .v (by omega) | exact .b (by omega) | exact .w | rfl | omega)); first | done | fail) | omega | (show _ ≤ ((64 : Nat) : Int); omega)) : φ := h
theorem pv_Sj {φ : Prop} (h : φ := by constructor; (repeat exact cl_Sj); first | done | fail) : φ := h
theorem su_Sj {φ ψ : Prop} (k : ψ) (h : Hide ψ → φ := by (intro k; (first | refine sl_pu (PuI.sep (by exact pv_Sj)) rfl ?_ | refine sl_yes rfl rfl ?_ | refine sl_no rfl rfl rfl ?_ | refine sl_off rfl rfl rfl ?_ | (fail)); exact k.out)) : φ := h ⟨k⟩
theorem sto_Sj {φ ψ : Prop} (k : ψ) (h : Hide ψ → φ := by (intro k; (first | refine sl_store rfl (by exact pick_) rfl rfl (by kernel_rfl) (by exact set_Sj) ?_ | refine sl_store_whole rfl (by exact pick_) rfl (by exact sz_Sj) (by exact sz_Sj) (by exact one_Sj) ?_); exact k.out)) : φ := h ⟨k⟩
theorem go_Sj {φ ψ : Prop} (k : ψ) (h : Hide ψ → φ := by (intro k; (repeat (first | refine su_Sj ?_ | refine so_ ?_ | refine sto_Sj ?_)); exact k.out)) : φ := h ⟨k⟩
set_option maxRecDepth 100000 in
set_option maxHeartbeats 2000000 in
theorem app_Jnew {K : List Fa} {gj g m : Nat} {lim : Int} {A : Option Addr} {n c : Nat} {bs : List Int} (h : Rd K A n c bs) (hl : bs.length ≤ 5000) (hlim : ((manyL bs.length * 64 : Nat) : Int) ≤ lim) (hlm : lim ≤ 1048576) : Fn Tryz.prog 58 #[.pointer (some ⟨gj, 0, none⟩), .slice A n c] (jC gj g sj 0 :: dB g m lim :: dM m [] 0 :: dS [] :: K) (Ret (fun _ : Option Addr × Nat => True) (fun _ => .int .i64 0) (fun q => jC gj g sj (manyL bs.length) :: dB g m lim :: dM m [⟨sj, q.1, q.2, recL 0 bs, 0, 0⟩] 1 :: dS [⟨sj, q.1, q.2, recL 0 bs, 0, 0⟩] :: K)) := by
  refine fn_enter Tryz.func58 rfl _ Tryz.ntmps58 (by simp) [(0, .pointer (some ⟨gj, 0, none⟩)), (1, .slice A n c)] (args_of (by simp)) ?_
  have hly := Lay_ok (K := jC gj g sj 0 :: dB g m lim :: dM m [] 0 :: dS [] :: K) (number := ((0 : Nat) : Int)) (h.mono (by exact sub_)) (by decide)
  rw [LyA_ok (by decide) (by omega)] at hly
  have hlen := recL_len (k := 0) (bs := bs)
  have hm1 := many_pos bs.length
  have hm2 : manyL bs.length ≤ 105 := by unfold manyL; omega
  refine go_Sj ?_
  refine sl_call rfl rfl (by kernel_rfl) rfl Sub.refl hly ?_
  rintro ⟨A1, c1⟩ -
  dsimp only
  refine go_Sj ?_
  refine sd_drawn (fun W => AllP W [jC gj g sj 0]) (fun _ => true) (by kernel_rfl) 11 rfl ?_
  refine sd_yes2 0 rfl (by exact gd_) (by kernel_rfl) (by kernel_rfl) (by exact nop_) (PuI.all (by exact pv_Sj)) rfl (fun w hw => all_ hw) ?_
  refine sd_yes2 1 rfl (by exact gd_) (by kernel_rfl) (by kernel_rfl) (by exact nop_) (PuI.all (by exact pv_Sj)) rfl (fun w hw => all_ hw) ?_
  refine sd_yes2 2 rfl (by exact gd_) (by kernel_rfl) (by kernel_rfl) (by exact nop_) (PuI.all (by exact pv_Sj)) rfl (fun w hw => all_ hw) ?_
  refine sd_yes2 3 rfl (by exact gd_) (by kernel_rfl) (by kernel_rfl) (by exact nop_) (PuI.all (by exact pv_Sj)) rfl (fun w hw => all_ hw) ?_
  refine sd_yes2 4 rfl (by exact gd_) (by kernel_rfl) (by kernel_rfl) (by exact nop_) (PuI.all (by exact pv_Sj)) rfl (fun w hw => all_ hw) ?_
  refine sd_yes2 5 rfl (by exact gd_) (by kernel_rfl) (by kernel_rfl) (by exact nop_) (PuI.all (by exact pv_Sj)) rfl (fun w hw => all_ hw) ?_
  refine sd_yes2 6 rfl (by exact gd_) (by kernel_rfl) (by kernel_rfl) (by exact nop_) (PuI.all (by exact pv_Sj)) rfl (fun w hw => all_ hw) ?_
  refine sd_yes2 7 rfl (by exact gd_) (by kernel_rfl) (by kernel_rfl) (by exact nop_) (PuI.all (by exact pv_Sj)) rfl (fun w hw => all_ hw) ?_
  refine sd_yes2 8 rfl (by exact gd_) (by kernel_rfl) (by kernel_rfl) (by exact nop_) (PuI.all (by exact pv_Sj)) rfl (fun w hw => all_ hw) ?_
  refine sd_one 9 (by kernel_rfl) (sa_sl 9 rfl ?_)
  refine sl_call rfl rfl (by kernel_rfl) rfl (by exact sub_) (appD_new (K := u8o A1 c1 (recL 0 bs) :: jC gj g sj 0 :: K) (s := sj) (fs := []) (m := m) (ck := 0) (lim := lim) (by decide) (by decide) nohas (by decide) (by omega) (by simp [usedN]; omega) (Vw.of_own (e := 5) (c := c1) (by exact at_))) ?_
  rintro ⟨A2, c2⟩ -
  dsimp only [List.nil_append]
  refine sl_nil ?_
  refine se_sd (fun _ w hw => all_ hw) ?_
  refine sd_yes2 10 rfl (by exact gd_) (by kernel_rfl) (by kernel_rfl) (by exact nop_) (PuI.all (by exact pv_Sj)) rfl (fun w hw => all_ hw) ?_
  refine sd_done (by kernel_rfl) ?_
  refine go_Sj ?_
  rw [show ((0 : Nat) : Int) + ((recL 0 bs).length : Int) / 64 = ((manyL bs.length : Nat) : Int) by omega]
  exact se_ret1 (A2, c2) trivial rfl rfl (by exact sub_)
set_option maxRecDepth 100000 in
set_option maxHeartbeats 2000000 in
theorem app_Jyes {K : List Fa} {gj g m ck k : Nat} {lim : Int} {A : Option Addr} {n c : Nat} {bs : List Int} {f : DF} (h : Rd K A n c bs) (hl : bs.length ≤ 5000) (hk : k < 1048576) (hs : f.s.size ≤ 9223372036854775807) (hname : nameB f.s = true) (hf : ((f.l.length + manyL bs.length * 64 : Nat) : Int) ≤ lim) (hn : f.l.length ≤ 1048576) (hlm : lim ≤ 1048576) : Fn Tryz.prog 58 #[.pointer (some ⟨gj, 0, none⟩), .slice A n c] (jC gj g f.s k :: dB g m lim :: dM m [f] ck :: dS [f] :: K) (Ret (fun q : DF => q.s = f.s ∧ q.l = f.l ++ recL k bs ∧ q.sy = f.sy) (fun _ => .int .i64 0) (fun q => jC gj g f.s (k + manyL bs.length) :: dB g m lim :: dM m [q] ck :: dS [q] :: K)) := by
  refine fn_enter Tryz.func58 rfl _ Tryz.ntmps58 (by simp) [(0, .pointer (some ⟨gj, 0, none⟩)), (1, .slice A n c)] (args_of (by simp)) ?_
  have hly := Lay_ok (K := jC gj g f.s k :: dB g m lim :: dM m [f] ck :: dS [f] :: K) (number := (k : Int)) (h.mono (by exact sub_)) (by omega)
  rw [LyA_ok hk (by omega)] at hly
  have hlen := recL_len (k := k) (bs := bs)
  have hm1 := many_pos bs.length
  have hm2 : manyL bs.length ≤ 105 := by unfold manyL; omega
  refine go_Sj ?_
  refine sl_call rfl rfl (by kernel_rfl) rfl Sub.refl hly ?_
  rintro ⟨A1, c1⟩ -
  dsimp only
  refine go_Sj ?_
  refine sd_drawn (fun W => AllP W [jC gj g f.s k]) (fun _ => true) (by kernel_rfl) 11 rfl ?_
  refine sd_yes2 0 rfl (by exact gd_) (by kernel_rfl) (by kernel_rfl) (by exact nop_) (PuI.all (by exact pv_Sj)) rfl (fun w hw => all_ hw) ?_
  refine sd_yes2 1 rfl (by exact gd_) (by kernel_rfl) (by kernel_rfl) (by exact nop_) (PuI.all (by exact pv_Sj)) rfl (fun w hw => all_ hw) ?_
  refine sd_yes2 2 rfl (by exact gd_) (by kernel_rfl) (by kernel_rfl) (by exact nop_) (PuI.all (by exact pv_Sj)) rfl (fun w hw => all_ hw) ?_
  refine sd_yes2 3 rfl (by exact gd_) (by kernel_rfl) (by kernel_rfl) (by exact nop_) (PuI.all (by exact pv_Sj)) rfl (fun w hw => all_ hw) ?_
  refine sd_yes2 4 rfl (by exact gd_) (by kernel_rfl) (by kernel_rfl) (by exact nop_) (PuI.all (by exact pv_Sj)) rfl (fun w hw => all_ hw) ?_
  refine sd_yes2 5 rfl (by exact gd_) (by kernel_rfl) (by kernel_rfl) (by exact nop_) (PuI.all (by exact pv_Sj)) rfl (fun w hw => all_ hw) ?_
  refine sd_yes2 6 rfl (by exact gd_) (by kernel_rfl) (by kernel_rfl) (by exact nop_) (PuI.all (by exact pv_Sj)) rfl (fun w hw => all_ hw) ?_
  refine sd_yes2 7 rfl (by exact gd_) (by kernel_rfl) (by kernel_rfl) (by exact nop_) (PuI.all (by exact pv_Sj)) rfl (fun w hw => all_ hw) ?_
  refine sd_yes2 8 rfl (by exact gd_) (by kernel_rfl) (by kernel_rfl) (by exact nop_) (PuI.all (by exact pv_Sj)) rfl (fun w hw => all_ hw) ?_
  refine sd_one 9 (by kernel_rfl) (sa_sl 9 rfl ?_)
  refine sl_call rfl rfl (by kernel_rfl) rfl (by exact sub_) (appD_yes (K := u8o A1 c1 (recL k bs) :: jC gj g f.s k :: K) (X := []) (Y := []) (f := f) (m := m) (ck := ck) (lim := lim) hs hname (by omega) (by simp [usedN]; omega) (Vw.of_own (e := 5) (c := c1) (by exact at_))) ?_
  rintro ⟨A2, c2⟩ -
  dsimp only [List.nil_append]
  refine sl_nil ?_
  refine se_sd (fun _ w hw => all_ hw) ?_
  refine sd_yes2 10 rfl (by exact gd_) (by kernel_rfl) (by kernel_rfl) (by exact nop_) (PuI.all (by exact pv_Sj)) rfl (fun w hw => all_ hw) ?_
  refine sd_done (by kernel_rfl) ?_
  refine go_Sj ?_
  rw [show (k : Int) + ((recL k bs).length : Int) / 64 = ((k + manyL bs.length : Nat) : Int) by omega]
  exact se_ret1 ⟨f.s, A2, c2, f.l ++ recL k bs, f.sy, f.bn⟩ ⟨rfl, rfl, rfl⟩ rfl rfl (by exact sub_)
set_option maxRecDepth 100000 in
set_option maxHeartbeats 2000000 in
theorem sync_Jf {K : List Fa} {gj g m ck k : Nat} {lim : Int} {f : DF} (hsy : f.sy ≤ f.l.length) (hn : f.l.length ≤ 1048576) : Fn Tryz.prog 60 #[.pointer (some ⟨gj, 0, none⟩)] (jC gj g f.s k :: dB g m lim :: dM m [f] ck :: dS [f] :: K) (Ret (fun q : DF => q.s = f.s ∧ q.l = f.l ∧ q.sy = f.l.length) (fun _ => .int .i64 0) (fun q => jC gj g f.s k :: dB g m lim :: dM m [q] ck :: dS [q] :: K)) := by
  refine fn_enter Tryz.func60 rfl _ Tryz.ntmps60 (by simp) [(0, .pointer (some ⟨gj, 0, none⟩))] (args_of (by simp)) ?_
  by_cases hz : f.l.length - f.sy = 0
  · refine go_Sj ?_
    refine sd_drawn (fun W => AllP W [jC gj g f.s k]) (fun _ => true) (by kernel_rfl) 10 rfl ?_
    refine sd_yes2 0 rfl (by exact gd_) (by kernel_rfl) (by kernel_rfl) (by exact nop_) (PuI.all (by exact pv_Sj)) rfl (fun w hw => all_ hw) ?_
    refine sd_yes2 1 rfl (by exact gd_) (by kernel_rfl) (by kernel_rfl) (by exact nop_) (PuI.all (by exact pv_Sj)) rfl (fun w hw => all_ hw) ?_
    refine sd_yes2 2 rfl (by exact gd_) (by kernel_rfl) (by kernel_rfl) (by exact nop_) (PuI.all (by exact pv_Sj)) rfl (fun w hw => all_ hw) ?_
    refine sd_yes2 3 rfl (by exact gd_) (by kernel_rfl) (by kernel_rfl) (by exact nop_) (PuI.all (by exact pv_Sj)) rfl (fun w hw => all_ hw) ?_
    refine sd_yes2 4 rfl (by exact gd_) (by kernel_rfl) (by kernel_rfl) (by exact nop_) (PuI.all (by exact pv_Sj)) rfl (fun w hw => all_ hw) ?_
    refine sd_yes2 5 rfl (by exact gd_) (by kernel_rfl) (by kernel_rfl) (by exact nop_) (PuI.all (by exact pv_Sj)) rfl (fun w hw => all_ hw) ?_
    refine sd_yes2 6 rfl (by exact gd_) (by kernel_rfl) (by kernel_rfl) (by exact nop_) (PuI.all (by exact pv_Sj)) rfl (fun w hw => all_ hw) ?_
    refine sd_yes2 7 rfl (by exact gd_) (by kernel_rfl) (by kernel_rfl) (by exact nop_) (PuI.all (by exact pv_Sj)) rfl (fun w hw => all_ hw) ?_
    refine sd_one 8 (by kernel_rfl) (sa_sl 8 rfl ?_)
    refine sl_call rfl rfl (by kernel_rfl) rfl Sub.refl (looseD_ok (g := g) (m := m) (ck := ck) (lim := lim) (fs := [f]) (f := f) (by exact at_) (by exact at_) (List.mem_singleton.2 rfl) hsy hn) ?_
    rintro _ -
    rw [hz]
    refine sl_nil ?_
    refine se_sd (fun _ w hw => all_ hw) ?_
    refine sd_yes2 9 rfl (by exact gd_) (by kernel_rfl) (by kernel_rfl) (by exact nop_) (PuI.all (by exact pv_Sj)) rfl (fun w hw => all_ hw) ?_
    refine sd_done (by kernel_rfl) ?_
    refine go_Sj ?_
    exact se_ret1 f ⟨rfl, rfl, by omega⟩ rfl rfl (by exact sub_)
  · refine go_Sj ?_
    refine sd_drawn (fun W => AllP W [jC gj g f.s k]) (fun _ => true) (by kernel_rfl) 10 rfl ?_
    refine sd_yes2 0 rfl (by exact gd_) (by kernel_rfl) (by kernel_rfl) (by exact nop_) (PuI.all (by exact pv_Sj)) rfl (fun w hw => all_ hw) ?_
    refine sd_yes2 1 rfl (by exact gd_) (by kernel_rfl) (by kernel_rfl) (by exact nop_) (PuI.all (by exact pv_Sj)) rfl (fun w hw => all_ hw) ?_
    refine sd_yes2 2 rfl (by exact gd_) (by kernel_rfl) (by kernel_rfl) (by exact nop_) (PuI.all (by exact pv_Sj)) rfl (fun w hw => all_ hw) ?_
    refine sd_yes2 3 rfl (by exact gd_) (by kernel_rfl) (by kernel_rfl) (by exact nop_) (PuI.all (by exact pv_Sj)) rfl (fun w hw => all_ hw) ?_
    refine sd_yes2 4 rfl (by exact gd_) (by kernel_rfl) (by kernel_rfl) (by exact nop_) (PuI.all (by exact pv_Sj)) rfl (fun w hw => all_ hw) ?_
    refine sd_yes2 5 rfl (by exact gd_) (by kernel_rfl) (by kernel_rfl) (by exact nop_) (PuI.all (by exact pv_Sj)) rfl (fun w hw => all_ hw) ?_
    refine sd_yes2 6 rfl (by exact gd_) (by kernel_rfl) (by kernel_rfl) (by exact nop_) (PuI.all (by exact pv_Sj)) rfl (fun w hw => all_ hw) ?_
    refine sd_yes2 7 rfl (by exact gd_) (by kernel_rfl) (by kernel_rfl) (by exact nop_) (PuI.all (by exact pv_Sj)) rfl (fun w hw => all_ hw) ?_
    refine sd_one 8 (by kernel_rfl) (sa_sl 8 rfl ?_)
    refine sl_call rfl rfl (by kernel_rfl) rfl Sub.refl (looseD_ok (g := g) (m := m) (ck := ck) (lim := lim) (fs := [f]) (f := f) (by exact at_) (by exact at_) (List.mem_singleton.2 rfl) hsy hn) ?_
    rintro _ -
    refine sl_nil ?_
    refine se_sd (fun _ w hw => all_ hw) ?_
    refine sd_yes2 9 rfl (by exact gd_) (by kernel_rfl) (by kernel_rfl) (by exact nop_) (PuI.all (by exact pv_Sj)) rfl (fun w hw => all_ hw) ?_
    refine sd_done (by kernel_rfl) ?_
    refine go_Sj ?_
    refine sd_drawn (fun W => AllP W [jC gj g f.s k]) (fun _ => true) (by kernel_rfl) 10 rfl ?_
    refine sd_yes2 0 rfl (by exact gd_) (by kernel_rfl) (by kernel_rfl) (by exact nop_) (PuI.all (by exact pv_Sj)) rfl (fun w hw => all_ hw) ?_
    refine sd_yes2 1 rfl (by exact gd_) (by kernel_rfl) (by kernel_rfl) (by exact nop_) (PuI.all (by exact pv_Sj)) rfl (fun w hw => all_ hw) ?_
    refine sd_yes2 2 rfl (by exact gd_) (by kernel_rfl) (by kernel_rfl) (by exact nop_) (PuI.all (by exact pv_Sj)) rfl (fun w hw => all_ hw) ?_
    refine sd_yes2 3 rfl (by exact gd_) (by kernel_rfl) (by kernel_rfl) (by exact nop_) (PuI.all (by exact pv_Sj)) rfl (fun w hw => all_ hw) ?_
    refine sd_yes2 4 rfl (by exact gd_) (by kernel_rfl) (by kernel_rfl) (by exact nop_) (PuI.all (by exact pv_Sj)) rfl (fun w hw => all_ hw) ?_
    refine sd_yes2 5 rfl (by exact gd_) (by kernel_rfl) (by kernel_rfl) (by exact nop_) (PuI.all (by exact pv_Sj)) rfl (fun w hw => all_ hw) ?_
    refine sd_yes2 6 rfl (by exact gd_) (by kernel_rfl) (by kernel_rfl) (by exact nop_) (PuI.all (by exact pv_Sj)) rfl (fun w hw => all_ hw) ?_
    refine sd_yes2 7 rfl (by exact gd_) (by kernel_rfl) (by kernel_rfl) (by exact nop_) (PuI.all (by exact pv_Sj)) rfl (fun w hw => all_ hw) ?_
    refine sd_one 8 (by kernel_rfl) (sa_sl 8 rfl ?_)
    refine sl_call rfl rfl (by kernel_rfl) rfl (by exact sub_) (syncD_ok (K := dS [f] :: jC gj g f.s k :: K) (X := []) (Y := []) (f := f) (g := g) (m := m) (ck := ck) (lim := lim)) ?_
    rintro _ -
    dsimp only [List.nil_append]
    refine sl_nil ?_
    refine se_sd (fun _ w hw => all_ hw) ?_
    refine sd_yes2 9 rfl (by exact gd_) (by kernel_rfl) (by kernel_rfl) (by exact nop_) (PuI.all (by exact pv_Sj)) rfl (fun w hw => all_ hw) ?_
    refine sd_done (by kernel_rfl) ?_
    refine go_Sj ?_
    refine se_ret1 { f with sy := f.l.length } ⟨rfl, rfl, rfl⟩ rfl rfl ?_
    rw [show dS [{ f with sy := f.l.length }] = dS [f] from ds_sy (X := []) (Y := [])]
    exact sub_
/-- The file of a journal with these records, synced so far at least. -/
def JFl (ls : List (List Int)) (σ : Nat) (f : DF) : Prop := f.s = sj ∧ f.l = allL ls ∧ f.sy ≤ f.l.length ∧ σ ≤ f.sy
def JSt (ls : List (List Int)) (fs : List DF) (ck σ : Nat) : Prop := (ls = [] ∧ fs = [] ∧ ck = 0 ∧ σ = 0) ∨ ∃ f, fs = [f] ∧ JFl ls σ f
theorem many_le {n : Nat} (h : n ≤ 5000) : manyL n ≤ 105 := by
  unfold manyL
  omega
attribute [local semireducible] allL in
theorem allL_one (bs : List Int) : recL 0 bs = allL ([] ++ [bs]) := by
  rw [allL_next]
  rfl
theorem app_J {K : List Fa} {gj g m ck σ : Nat} {lim : Int} {A : Option Addr} {n c : Nat} {bs : List Int} {ls : List (List Int)} {fs : List DF} (hS : JSt ls fs ck σ) (h : Rd K A n c bs) (hl : bs.length ≤ 5000) (hcc : cellsA ls ≤ 16000) (hlim : (((cellsA ls + manyL bs.length) * 64 : Nat) : Int) ≤ lim) (hlm : lim ≤ 1048576) :
    Fn Tryz.prog 58 #[.pointer (some ⟨gj, 0, none⟩), .slice A n c] (jC gj g sj (cellsA ls) :: dB g m lim :: dM m fs ck :: dS fs :: K) (Ret (fun q : DF × Nat => JFl (ls ++ [bs]) σ q.1) (fun _ => .int .i64 0) (fun q => jC gj g sj (cellsA (ls ++ [bs])) :: dB g m lim :: dM m [q.1] q.2 :: dS [q.1] :: K)) := by
  rcases hS with ⟨rfl, rfl, rfl, rfl⟩ | ⟨f, rfl, h1, h2, h3, h4⟩
  · have e : cellsA ([] ++ [bs]) = manyL bs.length := by
      rw [cellsA_snoc]
      show 0 + _ = _
      omega
    have e0 : cellsA ([] : List (List Int)) = 0 := rfl
    have hlim0 : ((manyL bs.length * 64 : Nat) : Int) ≤ lim := by
      rw [e0, Nat.zero_add] at hlim
      exact hlim
    refine (app_Jnew (K := K) (gj := gj) (g := g) (m := m) (lim := lim) h hl hlim0 hlm).say fun q w _ hw => ⟨(⟨sj, q.1, q.2, recL 0 bs, 0, 0⟩, 1), ⟨rfl, allL_one bs, Nat.zero_le _, Nat.zero_le _⟩, rfl, ?_⟩
    rw [e]
    exact hw
  · have hm := many_le hl
    have h0 := app_Jyes (K := K) (gj := gj) (g := g) (m := m) (ck := ck) (k := cellsA ls) (f := f) h hl (by omega) (by rw [h1]; decide) (by rw [h1]; decide) (by rw [h2, allL_len]; omega) (by rw [h2, allL_len]; omega) hlm
    rw [h1] at h0
    refine h0.say fun q w hq hw => ?_
    obtain ⟨q1, q2, q3⟩ := hq
    refine ⟨(q, ck), ⟨q1, by rw [q2, h2, allL_next], by rw [q2, q3, List.length_append]; omega, by rw [q3]; exact h4⟩, rfl, ?_⟩
    rw [cellsA_snoc]
    exact hw
theorem sync_Js {K : List Fa} {gj g m ck k σ : Nat} {lim : Int} {ls : List (List Int)} {f : DF} (hF : JFl ls σ f) (hn : f.l.length ≤ 1048576) :
    Fn Tryz.prog 60 #[.pointer (some ⟨gj, 0, none⟩)] (jC gj g sj k :: dB g m lim :: dM m [f] ck :: dS [f] :: K) (Ret (fun q : DF => JFl ls f.l.length q) (fun _ => .int .i64 0) (fun q => jC gj g sj k :: dB g m lim :: dM m [q] ck :: dS [q] :: K)) := by
  obtain ⟨h1, h2, h3, h4⟩ := hF
  have h0 := sync_Jf (lim := lim) (K := K) (gj := gj) (g := g) (m := m) (ck := ck) (k := k) (f := f) h3 hn
  rw [h1] at h0
  refine h0.say fun q w hq hw => ?_
  obtain ⟨q1, q2, q3⟩ := hq
  exact ⟨q, ⟨q1, by rw [q2, h2], by rw [q2, q3]; omega, by rw [q3]; omega⟩, rfl, hw⟩
end Go.Proofs.YtocaabnbmcpjmaaGreatDoor
/- Package store: note, with the closures that fill a record. -/
namespace Go.Proofs.YtocaabnbmcpjmaaGreatDoor
open Go.RowKit Go.MapKept
attribute [local irreducible] Go.Calls Go.Exit.then Go.Exit.inBlock Go.bodyPost Go.Code.wp Go.wpList takeL recordL hashL recL allL
theorem nth_Skn {φ : Prop} (h : φ := by (first | rfl | first | rfl | exact rpC_n16 | exact rpC_n17 | exact rpC_n18)) : φ := h
theorem mid_Skn {φ : Prop} (h : φ := by (first | first | exact rpC_id | exact Mid.all | exact Mid.all | exact Mid.head)) : φ := h
theorem sz_Skn {φ : Prop} (h : φ := by (first | rfl | ((try simp only [rpC_len, bytes_length, Id.len]); (first | done | rfl); first | done | fail))) : φ := h
theorem one_Skn {φ : Prop} (h : φ := by (first | assumption | exact exact one_bytes _ | (simp only [List.mem_cons, List.not_mem_nil, or_false, forall_eq_or_imp, forall_eq]; decide) | exact one_bytes _ | (intro v hv; (repeat (rcases List.mem_cons.1 hv with rfl | hv; rfl)); cases hv))) : φ := h
theorem set_Skn {φ : Prop} (h : φ := by (first | (fail) | ((repeat (first | exact SetAt.here | apply SetAt.there)); first | done | fail))) : φ := h
theorem cl_Skn {φ : Prop} (h : φ := by first | rfl | exact .t | exact .f | exact .t (by omega) | exact .f (by omega) | exact .u | exact .i (by (first | exact .t (by omega) | exact .f (by omega) | exact .u | exact .i (by omega) | exact .v (by omega) | exact .b (by omega) | exact .w | rfl | omega)) | exact .v (by omega) | exact .b (by omega) | exact .q (by omega) | exact .w | exact .b (by exact at_) rfl (by exact nth_Skn) | exact .w (by exact at_) rfl rfl (by exact sz_Skn) | exact .s (by exact at_) (by exact mid_Skn) rfl rfl (by exact sz_Skn) | exact .z rfl rfl ⟨by kernel_rfl⟩ | exact .b rfl rfl ⟨by kernel_rfl⟩ | exact .a rfl rfl ⟨by kernel_rfl⟩ | exact .o rfl | exact .s | exact .n | exact .p rfl | exact .q rfl | exact .c rfl | exact .d rfl | exact .n rfl rfl (by omega) | exact .a rfl rfl (by omega) | exact .p rfl rfl (by omega) (by omega) | exact .y rfl rfl (by omega) (by omega) | exact .o (by exact at_) (by omega) rfl (by exact nth_Skn) | exact .m (by exact at_) (by omega) (by exact mid_Skn) rfl rfl (by exact sz_Skn) | exact .mlen (by exact at_) rfl | exact .t (by exact at_) rfl rfl (by first | exact True.intro | rfl) (by assumption) | exact .f (by exact at_) rfl rfl (by first | exact True.intro | rfl) (by assumption) rfl | exact .t1 (by exact at_) rfl rfl (by first | exact True.intro | rfl) (by assumption) | exact .f1 (by exact at_) rfl rfl (by first | exact True.intro | rfl) (by assumption) rfl | exact .tk (by exact at_) rfl (by assumption) (by assumption) | exact .fk (by exact at_) rfl (by assumption) (by assumption) rfl | exact .tk1 (by exact at_) rfl (by assumption) (by assumption) | exact .fk1 (by exact at_) rfl (by assumption) (by assumption) rfl | exact .r rfl rfl (by omega) (by omega) (by exact nth_Skn) rfl | exact .s rfl (by omega) (by assumption) | exact at_ | assumption | exact .r rfl rfl | exact .h rfl rfl rfl (by omega) | exact .l rfl rfl rfl (by omega) (by omega) | exact .g rfl rfl rfl rfl (by omega) (by omega) | exact .h rfl rfl (toN_ (by omega)) (by omega) | exact .l rfl rfl (toN_ (by omega)) (by omega) (by omega) | exact .g rfl rfl (toN_ (by omega)) (toN_ (by omega)) (by omega) (by omega) | exact .o (by decide) | exact .f (by decide) | exact .n (by omega) (by first | decide | (show _ ≤ ((64 : Nat) : Int); omega)) | (constructor; (repeat (first | exact .t (by omega) | exact .f (by omega) | exact .u | exact .i (by omega) | exact .v (by omega) | exact .b (by omega) | exact .w | rfl | omega)); first | done | fail) | omega | (show _ ≤ ((64 : Nat) : Int); omega)) : φ := h
theorem pv_Skn {φ : Prop} (h : φ := by constructor; (repeat exact cl_Skn); first | done | fail) : φ := h
theorem su_Skn {φ ψ : Prop} (k : ψ) (h : Hide ψ → φ := by (intro k; (first | refine sl_pu (PuI.sep (by exact pv_Skn)) rfl ?_ | refine sl_yes rfl rfl ?_ | refine sl_no rfl rfl rfl ?_ | refine sl_off rfl rfl rfl ?_ | (fail)); exact k.out)) : φ := h ⟨k⟩
theorem sto_Skn {φ ψ : Prop} (k : ψ) (h : Hide ψ → φ := by (intro k; (first | refine sl_store rfl (by exact pick_) rfl rfl (by kernel_rfl) (by exact set_Skn) ?_ | refine sl_store_whole rfl (by exact pick_) rfl (by exact sz_Skn) (by exact sz_Skn) (by exact one_Skn) ?_); exact k.out)) : φ := h ⟨k⟩
theorem go_Skn {φ ψ : Prop} (k : ψ) (h : Hide ψ → φ := by (intro k; (repeat (first | refine su_Skn ?_ | refine so_ ?_ | refine sto_Skn ?_)); exact k.out)) : φ := h ⟨k⟩
set_option maxRecDepth 100000 in
set_option maxHeartbeats 4000000 in
theorem note_ok {K : List Fa} {g gj gi gb mw ms gd md σ ckd : Nat} {t : Ta} {life lim kind : Int} {ls : List (List Int)} {fs : List DF} {f : FuncId} {caps : List Value} {bs : List Int}
    (hf : callable Tryz.prog f = true) (hS : JSt ls fs ckd σ) (hb : IsBytes (kind :: bs)) (hl : (kind :: bs).length ≤ 5000) (hcc : cellsA ls ≤ 16000) (hlim : (((cellsA ls + manyL (kind :: bs).length) * 64 : Nat) : Int) ≤ lim) (hlm : lim ≤ 1048576)
    (hfill : ∀ (b : Nat) (A : Option Addr) (c : Nat), Fn Tryz.prog f ([Value.pointer (some ⟨b, 0, none⟩)] ++ caps).toArray (wrb b A [kind].length c :: u8o A c [kind] :: sB g t gj gi gb mw ms life :: jC gj gd sj (cellsA ls) :: dB gd md lim :: dM md fs ckd :: dS fs :: K)
      (Ret (fun _ : Option Addr × Nat => True) (fun _ => .tuple #[]) (fun p => wrb b p.1 (kind :: bs).length p.2 :: u8o p.1 p.2 (kind :: bs) :: sB g t gj gi gb mw ms life :: jC gj gd sj (cellsA ls) :: dB gd md lim :: dM md fs ckd :: dS fs :: K))) :
    Fn Tryz.prog 26 #[.pointer (some ⟨g, 0, none⟩), .int .u8 kind, .func (.func f) #[] caps.toArray] (sB g t gj gi gb mw ms life :: jC gj gd sj (cellsA ls) :: dB gd md lim :: dM md fs ckd :: dS fs :: K)
      (Ret (fun q : DF × Nat => JFl (ls ++ [kind :: bs]) σ q.1) (fun _ => .int .i64 0) (fun q => sB g t gj gi gb mw ms life :: jC gj gd sj (cellsA (ls ++ [kind :: bs])) :: dB gd md lim :: dM md [q.1] q.2 :: dS [q.1] :: K)) := by
  refine fn_enter Tryz.func26 rfl _ Tryz.ntmps26 (by simp) [(0, .pointer (some ⟨g, 0, none⟩)), (1, .int .u8 kind), (2, .func (.func f) #[] caps.toArray)] (args_of (by simp)) ?_
  refine go_Skn ?_
  refine sl_alloc rfl rfl rfl ?_; intro b
  refine go_Skn ?_
  refine sl_build (size := 1) (e := 5) (cells := [.int .u8 kind]) rfl (fun W => by kernel_rfl) rfl (by decide) rfl ?_
  intro g1
  refine go_Skn ?_
  refine sl_call rfl rfl (by kernel_rfl) rfl (by exact Sub.cons (by exact pick_) (Sub.own_nil Sub.refl)) (wRaw (bs := []) (xs := [kind]) (b := b) (A := none) (c := 0) (Vw.of_own (e := 5) (A := some ⟨g1, 0, none⟩) (c := 1) (by exact at_)) (by decide)) ?_
  rintro ⟨A1, c1⟩ -
  dsimp only [List.nil_append]
  refine go_Skn ?_
  refine sl_call rfl rfl hf rfl (by exact sub_) (hfill b A1 c1) ?_
  rintro ⟨A2, c2⟩ -
  dsimp only
  refine go_Skn ?_
  refine sd_drawn (fun W => AllP W [sB g t gj gi gb mw ms life]) (fun _ => true) (by kernel_rfl) 7 rfl ?_
  refine sd_yes2 0 rfl (by exact gd_) (by kernel_rfl) (by kernel_rfl) (by exact nop_) (PuI.all (by exact pv_Skn)) rfl (fun w hw => all_ hw) ?_
  refine sd_yes2 1 rfl (by exact gd_) (by kernel_rfl) (by kernel_rfl) (by exact nop_) (PuI.all (by exact pv_Skn)) rfl (fun w hw => all_ hw) ?_
  refine sd_yes2 2 rfl (by exact gd_) (by kernel_rfl) (by kernel_rfl) (by exact nop_) (PuI.all (by exact pv_Skn)) rfl (fun w hw => all_ hw) ?_
  refine sd_yes2 3 rfl (by exact gd_) (by kernel_rfl) (by kernel_rfl) (by exact nop_) (PuI.all (by exact pv_Skn)) rfl (fun w hw => all_ hw) ?_
  refine sd_one 4 (by kernel_rfl) (sa_sl 4 rfl ?_)
  refine sl_call rfl rfl (by kernel_rfl) rfl (by exact sub_) (wBytes (b := b) (A := A2) (c := c2) (bs := kind :: bs) (by omega)) ?_
  rintro ⟨A3, c3⟩ -
  dsimp only
  refine sl_know (fun w hw => own_len (e := 5) (size := 1) (A := A3) hw (by exact at_)) ?_
  rintro ⟨-, l1, l2⟩
  refine sl_nil ?_
  refine se_sd (fun _ w hw => all_ hw) ?_
  refine sd_one 5 (by kernel_rfl) (sa_sl 5 rfl ?_)
  refine sl_call rfl rfl (by kernel_rfl) rfl (by exact sub_) (app_J (K := u8o A3 c3 (kind :: bs) :: sB g t gj gi gb mw ms life :: K) (gj := gj) (g := gd) (m := md) (lim := lim) hS ⟨Vw.of_own (e := 5) (A := A3) (c := c3) .here, l1, by omega, l2, rfl, hb⟩ hl hcc hlim hlm) ?_
  rintro ⟨q, ck2⟩ hq
  refine sl_nil ?_
  refine se_sd (fun _ w hw => all_ hw) ?_
  refine sd_yes2 6 rfl (by exact gd_) (by kernel_rfl) (by kernel_rfl) (by exact nop_) (PuI.all (by exact pv_Skn)) rfl (fun w hw => all_ hw) ?_
  refine sd_done (by kernel_rfl) ?_
  refine go_Skn ?_
  exact se_ret1 (q, ck2) hq rfl rfl (by exact sub_)
end Go.Proofs.YtocaabnbmcpjmaaGreatDoor
/- Package store: the closures that fill a record. -/
namespace Go.Proofs.YtocaabnbmcpjmaaGreatDoor
open Go.RowKit Go.MapKept
attribute [local irreducible] Go.Calls Go.Exit.then Go.Exit.inBlock Go.bodyPost Go.Code.wp Go.wpList takeL recordL hashL recL allL
/-- What a report is in the journal. -/
def rcAcc (id : Id) (t : Int) (p s : List Int) : List Int := id.l ++ (le t 6 ++ ((le p.length 4 ++ p) ++ (le s.length 4 ++ s)))
def rcLife (n : Int) : List Int := le n 6
theorem nth_Skc {φ : Prop} (h : φ := by (first | rfl | first | rfl | exact rpC_n16 | exact rpC_n17 | exact rpC_n18)) : φ := h
theorem mid_Skc {φ : Prop} (h : φ := by (first | first | exact rpC_id | exact Mid.all | exact Mid.all | exact Mid.head)) : φ := h
theorem sz_Skc {φ : Prop} (h : φ := by (first | rfl | ((try simp only [rpC_len, bytes_length, Id.len]); (first | done | rfl); first | done | fail))) : φ := h
theorem one_Skc {φ : Prop} (h : φ := by (first | assumption | exact exact one_bytes _ | (simp only [List.mem_cons, List.not_mem_nil, or_false, forall_eq_or_imp, forall_eq]; decide) | exact one_bytes _ | (intro v hv; (repeat (rcases List.mem_cons.1 hv with rfl | hv; rfl)); cases hv))) : φ := h
theorem set_Skc {φ : Prop} (h : φ := by (first | (fail) | ((repeat (first | exact SetAt.here | apply SetAt.there)); first | done | fail))) : φ := h
theorem cl_Skc {φ : Prop} (h : φ := by first | rfl | exact .t | exact .f | exact .t (by omega) | exact .f (by omega) | exact .u | exact .i (by (first | exact .t (by omega) | exact .f (by omega) | exact .u | exact .i (by omega) | exact .v (by omega) | exact .b (by omega) | exact .w | rfl | omega)) | exact .v (by omega) | exact .b (by omega) | exact .q (by omega) | exact .w | exact .b (by exact at_) rfl (by exact nth_Skc) | exact .w (by exact at_) rfl rfl (by exact sz_Skc) | exact .s (by exact at_) (by exact mid_Skc) rfl rfl (by exact sz_Skc) | exact .z rfl rfl ⟨by kernel_rfl⟩ | exact .b rfl rfl ⟨by kernel_rfl⟩ | exact .a rfl rfl ⟨by kernel_rfl⟩ | exact .o rfl | exact .s | exact .n | exact .p rfl | exact .q rfl | exact .c rfl | exact .d rfl | exact .n rfl rfl (by omega) | exact .a rfl rfl (by omega) | exact .p rfl rfl (by omega) (by omega) | exact .y rfl rfl (by omega) (by omega) | exact .o (by exact at_) (by omega) rfl (by exact nth_Skc) | exact .m (by exact at_) (by omega) (by exact mid_Skc) rfl rfl (by exact sz_Skc) | exact .mlen (by exact at_) rfl | exact .t (by exact at_) rfl rfl (by first | exact True.intro | rfl) (by assumption) | exact .f (by exact at_) rfl rfl (by first | exact True.intro | rfl) (by assumption) rfl | exact .t1 (by exact at_) rfl rfl (by first | exact True.intro | rfl) (by assumption) | exact .f1 (by exact at_) rfl rfl (by first | exact True.intro | rfl) (by assumption) rfl | exact .tk (by exact at_) rfl (by assumption) (by assumption) | exact .fk (by exact at_) rfl (by assumption) (by assumption) rfl | exact .tk1 (by exact at_) rfl (by assumption) (by assumption) | exact .fk1 (by exact at_) rfl (by assumption) (by assumption) rfl | exact .r rfl rfl (by omega) (by omega) (by exact nth_Skc) rfl | exact .s rfl (by omega) (by assumption) | exact at_ | assumption | exact .r rfl rfl | exact .h rfl rfl rfl (by omega) | exact .l rfl rfl rfl (by omega) (by omega) | exact .g rfl rfl rfl rfl (by omega) (by omega) | exact .h rfl rfl (toN_ (by omega)) (by omega) | exact .l rfl rfl (toN_ (by omega)) (by omega) (by omega) | exact .g rfl rfl (toN_ (by omega)) (toN_ (by omega)) (by omega) (by omega) | exact .o (by decide) | exact .f (by decide) | exact .n (by omega) (by first | decide | (show _ ≤ ((64 : Nat) : Int); omega)) | (constructor; (repeat (first | exact .t (by omega) | exact .f (by omega) | exact .u | exact .i (by omega) | exact .v (by omega) | exact .b (by omega) | exact .w | rfl | omega)); first | done | fail) | omega | (show _ ≤ ((64 : Nat) : Int); omega)) : φ := h
theorem pv_Skc {φ : Prop} (h : φ := by constructor; (repeat exact cl_Skc); first | done | fail) : φ := h
theorem su_Skc {φ ψ : Prop} (k : ψ) (h : Hide ψ → φ := by (intro k; (first | refine sl_pu (PuI.sep (by exact pv_Skc)) rfl ?_ | refine sl_yes rfl rfl ?_ | refine sl_no rfl rfl rfl ?_ | refine sl_off rfl rfl rfl ?_ | (fail)); exact k.out)) : φ := h ⟨k⟩
theorem sto_Skc {φ ψ : Prop} (k : ψ) (h : Hide ψ → φ := by (intro k; (first | refine sl_store rfl (by exact pick_) rfl rfl (by kernel_rfl) (by exact set_Skc) ?_ | refine sl_store_whole rfl (by exact pick_) rfl (by exact sz_Skc) (by exact sz_Skc) (by exact one_Skc) ?_); exact k.out)) : φ := h ⟨k⟩
theorem go_Skc {φ ψ : Prop} (k : ψ) (h : Hide ψ → φ := by (intro k; (repeat (first | refine su_Skc ?_ | refine so_ ?_ | refine sto_Skc ?_)); exact k.out)) : φ := h ⟨k⟩
set_option maxRecDepth 100000 in
theorem fLife_ok {K : List Fa} {b c g go gj gi gb mw ms : Nat} {A : Option Addr} {t : Ta} {life : Int} {ty : TypeId} (hg : At (blk go ty [.pointer (some ⟨g, 0, none⟩)]) K) (hs : At (sB g t gj gi gb mw ms life) K) (hl : 0 ≤ life ∧ life ≤ 18446744073709551615) :
    Fn Tryz.prog 27 ([Value.pointer (some ⟨b, 0, none⟩)] ++ [Value.pointer (some ⟨go, 0, none⟩)]).toArray (wrb b A [5].length c :: u8o A c [5] :: K) (Ret (fun _ : Option Addr × Nat => True) (fun _ => .tuple #[]) (fun p => wrb b p.1 (5 :: rcLife life).length p.2 :: u8o p.1 p.2 (5 :: rcLife life) :: K)) := by
  refine fn_enter Tryz.func27 rfl _ Tryz.ntmps27 (by simp) [(0, .pointer (some ⟨b, 0, none⟩)), (1, .pointer (some ⟨go, 0, none⟩))] (args_of (by simp)) ?_
  refine go_Skc ?_
  refine sl_call rfl rfl (by kernel_rfl) rfl (by exact sub_) (wUint (b := b) (A := A) (c := c) (bs := [5]) (n := life) (k := 6) (by decide) hl.1 hl.2 (by decide)) ?_
  rintro ⟨A1, c1⟩ -
  refine go_Skc ?_
  exact se_end0 (A1, c1) trivial rfl rfl (by exact sub_)
set_option maxRecDepth 100000 in
theorem fAcc_ok {K : List Fa} {b c g3 : Nat} {A : Option Addr} {id : Id} {tm : Int} {pA sA : Option Addr} {pc sc : Nat} {p s : List Int} {ty : TypeId} (hg : At (blk g3 ty (rpC id tm (.slice pA p.length pc) (.slice sA s.length sc))) K) (ht : 0 ≤ tm ∧ tm ≤ 18446744073709551615)
    (hp : Vw K (fun w => Reads w 1 pA p.length (bytes p))) (hs : Vw K (fun w => Reads w 1 sA s.length (bytes s))) (hpl : p.length ≤ 100000) (hsl : s.length ≤ 100000) :
    Fn Tryz.prog 65 ([Value.pointer (some ⟨b, 0, none⟩)] ++ [Value.pointer (some ⟨g3, 0, none⟩)]).toArray (wrb b A [1].length c :: u8o A c [1] :: K) (Ret (fun _ : Option Addr × Nat => True) (fun _ => .tuple #[]) (fun q => wrb b q.1 (1 :: rcAcc id tm p s).length q.2 :: u8o q.1 q.2 (1 :: rcAcc id tm p s) :: K)) := by
  have hil := id.len
  have h6 : (le tm 6).length = 6 := le_len _ _
  have h4 : (le (p.length : Int) 4).length = 4 := le_len _ _
  refine fn_enter Tryz.func65 rfl _ Tryz.ntmps65 (by simp) [(0, .pointer (some ⟨b, 0, none⟩)), (1, .pointer (some ⟨g3, 0, none⟩))] (args_of (by simp)) ?_
  refine go_Skc ?_
  have hid : Vw K (fun w => Reads w 1 (some ⟨g3, 0, none⟩) 16 (bytes id.l)) := by
    have := Vw.of_blk_mid hg rpC_id
    rwa [id.len] at this
  refine sl_call rfl rfl (by kernel_rfl) rfl (by exact sub_) (wRaw (b := b) (A := A) (c := c) (bs := [1]) (xs := id.l) (m := 16) hid (by decide)) ?_
  rintro ⟨A1, c1⟩ -
  dsimp only
  refine go_Skc ?_
  refine sl_call rfl rfl (by kernel_rfl) rfl (by exact sub_) (wUint (b := b) (A := A1) (c := c1) (bs := [1] ++ id.l) (n := tm) (k := 6) (by decide) ht.1 ht.2 (by simp; omega)) ?_
  rintro ⟨A2, c2⟩ -
  dsimp only
  refine go_Skc ?_
  refine sl_call rfl rfl (by kernel_rfl) rfl (by exact sub_) (wLong (b := b) (A := A2) (c := c2) (bs := [1] ++ id.l ++ le tm 6) (xs := p) hp (by simp; omega)) ?_
  rintro ⟨A3, c3⟩ -
  dsimp only
  refine go_Skc ?_
  refine sl_call rfl rfl (by kernel_rfl) rfl (by exact sub_) (wLong (b := b) (A := A3) (c := c3) (bs := [1] ++ id.l ++ le tm 6 ++ (le p.length 4 ++ p)) (xs := s) hs (by simp; omega)) ?_
  rintro ⟨A4, c4⟩ -
  dsimp only
  refine go_Skc ?_
  rw [show [1] ++ id.l ++ le tm 6 ++ (le p.length 4 ++ p) ++ (le s.length 4 ++ s) = 1 :: rcAcc id tm p s from by simp [rcAcc]]
  exact se_end0 (A4, c4) trivial rfl rfl (by exact sub_)
end Go.Proofs.YtocaabnbmcpjmaaGreatDoor
/- Package store: again$1: what a record's bytes say. Written by wip/tools/mkska.py. -/
namespace Go.Proofs.YtocaabnbmcpjmaaGreatDoor
open Go.RowKit Go.MapKept
attribute [local irreducible] Go.Calls Go.Exit.then Go.Exit.inBlock Go.bodyPost Go.Code.wp Go.wpList takeL recordL hashL recL allL
/-- A record. -/
inductive Rc
  | acc (id : List Int) (t : Int) (p s : List Int)
  | com (id : List Int) (b d : List Int)
  | rej (id : List Int) (c : Int)
  | shut (s : Int)
  | life (n : Int)
section
variable {P : Program} {Q : Exit → Act → World → Prop} {n : Nat} {l : Env} {L : List Fa} {fn : Func} {R : Ending → World → Prop} {c : List PanicEntry}
end
section
variable {n : Nat} {l : Env} {L : List Fa} {fn : Func} {gs gd r : Nat} {v0 : Value} {K : List Fa} {bs : List Int} {F1 F2 : Fa} {c : Int} {s : Value} {rc : Rc} {m : Nat}
end
theorem rpC_set16 {id : Id} {t v : Int} {P S : Value} : SetAt 16 (.int .u64 v) (rpC id t P S) (rpC id v P S) := SetAt.tail (k := 16) (a := bytes id.l) (i := 0) (by rw [bytes_length, id.len]) SetAt.here
theorem rpC_set17 {id : Id} {t : Int} {P S v : Value} : SetAt 17 v (rpC id t P S) (rpC id t v S) := SetAt.tail (k := 16) (a := bytes id.l) (i := 1) (by rw [bytes_length, id.len]) (SetAt.there SetAt.here)
theorem rpC_set18 {id : Id} {t : Int} {P S v : Value} : SetAt 18 v (rpC id t P S) (rpC id t P v) := SetAt.tail (k := 16) (a := bytes id.l) (i := 2) (by rw [bytes_length, id.len]) (SetAt.there (SetAt.there SetAt.here))
end Go.Proofs.YtocaabnbmcpjmaaGreatDoor
/- Package store: again: a record is read, and done. -/
namespace Go.Proofs.YtocaabnbmcpjmaaGreatDoor
open Go.RowKit Go.MapKept
attribute [local irreducible] Go.Calls Go.Exit.then Go.Exit.inBlock Go.bodyPost Go.Code.wp Go.wpList takeL recordL hashL recL allL
abbrev goB (go g : Nat) : Fa := blk go 57 [.pointer (some ⟨g, 0, none⟩)]
end Go.Proofs.YtocaabnbmcpjmaaGreatDoor
