/- Several texts of one claim, one behind the other (Dk6, Je, Jh, Dkt, Jg, Ji, Shl). -/
import Derived.Test.YtocaabnbmcpjmaaGreatB15
import Derived.Test.YtocaabnbmcpjmaaGreatB14
import Derived.Shelf.Sort.Plain
import Derived.Shelf.Slices.In.SortNone
import Derived.Test.YtocaabnbmcpjmaaGreatB10
import Derived.Test.YtocaabnbmcpjmaaGreatB01
set_option linter.unusedVariables false
set_option linter.unusedSimpArgs false
/- A disk: Append. -/
namespace Go.Proofs.YtocaabnbmcpjmaaGreat
open Go.RowKit Go.MapKept
attribute [local irreducible] Go.Calls Go.Exit.then Go.Exit.inBlock Go.bodyPost Go.Code.wp Go.wpList
theorem nth_Dk6 {φ : Prop} (h : φ := by (first | rfl | rfl)) : φ := h
theorem mid_Dk6 {φ : Prop} (h : φ := by (first | exact Mid.all | exact Mid.all | exact Mid.head)) : φ := h
theorem sz_Dk6 {φ : Prop} (h : φ := by (first | rfl | (rfl; first | done | fail))) : φ := h
theorem one_Dk6 {φ : Prop} (h : φ := by (first | assumption | exact first | exact one_bytes _ | exact ff_one | (simp only [List.mem_cons, List.not_mem_nil, or_false, forall_eq_or_imp, forall_eq]; decide) | exact one_bytes _ | (intro v hv; (repeat (rcases List.mem_cons.1 hv with rfl | hv; rfl)); cases hv))) : φ := h
theorem set_Dk6 {φ : Prop} (h : φ := by (first | (fail) | ((repeat (first | exact SetAt.here | apply SetAt.there)); first | done | fail))) : φ := h
theorem cl_Dk6 {φ : Prop} (h : φ := by first | rfl | exact .t | exact .f | exact .t (by omega) | exact .f (by omega) | exact .u | exact .i (by (first | exact .t (by omega) | exact .f (by omega) | exact .u | exact .i (by omega) | exact .v (by omega) | exact .b (by omega) | exact .w | rfl | omega)) | exact .v (by omega) | exact .b (by omega) | exact .q (by omega) | exact .w | exact .b (by exact at_) rfl (by exact nth_Dk6) | exact .w (by exact at_) rfl rfl (by exact sz_Dk6) | exact .s (by exact at_) (by exact mid_Dk6) rfl rfl (by exact sz_Dk6) | exact .z rfl rfl ⟨by kernel_rfl⟩ | exact .b rfl rfl ⟨by kernel_rfl⟩ | exact .a rfl rfl ⟨by kernel_rfl⟩ | exact .o rfl | exact .s | exact .n | exact .p rfl | exact .q rfl | exact .c rfl | exact .d rfl | exact .n rfl rfl (by omega) | exact .a rfl rfl (by omega) | exact .p rfl rfl (by omega) (by omega) | exact .y rfl rfl (by omega) (by omega) | exact .o (by exact at_) (by omega) rfl (by exact nth_Dk6) | exact .m (by exact at_) (by omega) (by exact mid_Dk6) rfl rfl (by exact sz_Dk6) | exact .mlen (by exact at_) rfl | exact .t (by exact at_) rfl rfl (by first | exact True.intro | rfl) (by assumption) | exact .f (by exact at_) rfl rfl (by first | exact True.intro | rfl) (by assumption) rfl | exact .t1 (by exact at_) rfl rfl (by first | exact True.intro | rfl) (by assumption) | exact .f1 (by exact at_) rfl rfl (by first | exact True.intro | rfl) (by assumption) rfl | exact .r rfl rfl (by omega) (by omega) (by exact nth_Dk6) rfl | exact .s rfl (by omega) (by assumption) | exact at_ | assumption | exact .r rfl rfl | exact .h rfl rfl rfl (by omega) | exact .l rfl rfl rfl (by omega) (by omega) | exact .g rfl rfl rfl rfl (by omega) (by omega) | exact .h rfl rfl (toN_ (by omega)) (by omega) | exact .l rfl rfl (toN_ (by omega)) (by omega) (by omega) | exact .g rfl rfl (toN_ (by omega)) (toN_ (by omega)) (by omega) (by omega) | exact .o (by decide) | exact .f (by decide) | exact .n (by omega) (by first | decide | (show _ ≤ ((64 : Nat) : Int); omega)) | (constructor; (repeat (first | exact .t (by omega) | exact .f (by omega) | exact .u | exact .i (by omega) | exact .v (by omega) | exact .b (by omega) | exact .w | rfl | omega)); first | done | fail) | omega | (show _ ≤ ((64 : Nat) : Int); omega)) : φ := h
theorem pv_Dk6 {φ : Prop} (h : φ := by constructor; (repeat exact cl_Dk6); first | done | fail) : φ := h
theorem su_Dk6 {φ ψ : Prop} (k : ψ) (h : Hide ψ → φ := by (intro k; (first | refine sl_pu (PuI.sep (by exact pv_Dk6)) rfl ?_ | refine sl_yes rfl rfl ?_ | refine sl_no rfl rfl rfl ?_ | refine sl_off rfl rfl rfl ?_ | (fail)); exact k.out)) : φ := h ⟨k⟩
theorem sto_Dk6 {φ ψ : Prop} (k : ψ) (h : Hide ψ → φ := by (intro k; (first | refine sl_store rfl (by exact pick_) rfl rfl (by kernel_rfl) (by exact set_Dk6) ?_ | refine sl_store_whole rfl (by exact pick_) rfl (by exact sz_Dk6) (by exact sz_Dk6) (by exact one_Dk6) ?_); exact k.out)) : φ := h ⟨k⟩
theorem go_Dk6 {φ ψ : Prop} (k : ψ) (h : Hide ψ → φ := by (intro k; (repeat (first | refine su_Dk6 ?_ | refine so_ ?_ | refine sto_Dk6 ?_)); exact k.out)) : φ := h ⟨k⟩
set_option maxRecDepth 100000 in
set_option maxHeartbeats 2000000 in
theorem appD_new {K : List Fa} {g m ck : Nat} {lim : Int} {fs : List DF} {s : ByteArray} {B : Option Addr} {cb : Nat} {b : List Int} (hs : s.size ≤ 9223372036854775807) (hname : nameB s = true) (hno : ¬ DHas fs s) (h64 : fs.length < 64) (hl : 0 ≤ lim ∧ lim ≤ 1048576) (hfit : (b.length : Int) + usedN fs ≤ lim) (hb : Vw (dB g m lim :: dM m fs ck :: dS fs :: K) (fun w => Reads w 1 B b.length (bytes b))) :
    Fn Tryz.prog 128 #[.pointer (some ⟨g, 0, none⟩), .string s, .slice B b.length cb] (dB g m lim :: dM m fs ck :: dS fs :: K) (Ret (fun _ : Option Addr × Nat => True) (fun _ => .int .i64 0) (fun q => dB g m lim :: dM m (fs ++ [⟨s, q.1, q.2, b, 0, ck⟩]) (ck + 1) :: dS (fs ++ [⟨s, q.1, q.2, b, 0, ck⟩]) :: K)) := by
  refine fn_enter Tryz.func128 rfl _ Tryz.ntmps128 (by simp) [(0, .pointer (some ⟨g, 0, none⟩)), (1, .string s), (2, .slice B b.length cb)] (args_of (by simp)) ?_
  have hml : (fs.map DF.ent).length = fs.length := List.length_map _
  have hg := dno hno
  refine go_Dk6 ?_
  refine sl_call rfl rfl (by kernel_rfl) rfl Sub.refl (name_ok hs) ?_
  rintro _ -
  rw [hname]
  refine go_Dk6 ?_
  refine sl_call rfl rfl (by kernel_rfl) rfl Sub.refl (has_no (by exact at_) (by exact at_) hno) ?_
  rintro _ -
  refine go_Dk6 ?_
  refine sd_drawn (fun W => AllP W [dB g m lim]) (fun _ => true) (by kernel_rfl) 11 rfl ?_
  refine sd_yes2 0 rfl (by exact gd_) (by kernel_rfl) (by kernel_rfl) (by exact nop_) (PuI.all (by exact pv_Dk6)) rfl (fun w hw => all_ hw) ?_
  refine sd_yes2 1 rfl (by exact gd_) (by kernel_rfl) (by kernel_rfl) (by exact nop_) (PuI.all (by exact pv_Dk6)) rfl (fun w hw => all_ hw) ?_
  refine sd_yes2 2 rfl (by exact gd_) (by kernel_rfl) (by kernel_rfl) (by exact nop_) (PuI.all (by exact pv_Dk6)) rfl (fun w hw => all_ hw) ?_
  refine sd_yes2 3 rfl (by exact gd_) (by kernel_rfl) (by kernel_rfl) (by exact nop_) (PuI.all (by exact pv_Dk6)) rfl (fun w hw => all_ hw) ?_
  refine sd_yes2 4 rfl (by exact gd_) (by kernel_rfl) (by kernel_rfl) (by exact nop_) (PuI.all (by exact pv_Dk6)) rfl (fun w hw => all_ hw) ?_
  refine sd_yes2 5 rfl (by exact gd_) (by kernel_rfl) (by kernel_rfl) (by exact nop_) (PuI.all (by exact pv_Dk6)) rfl (fun w hw => all_ hw) ?_
  refine sd_yes2 6 rfl (by exact gd_) (by kernel_rfl) (by kernel_rfl) (by exact nop_) (PuI.all (by exact pv_Dk6)) rfl (fun w hw => all_ hw) ?_
  refine sd_one 7 (by kernel_rfl) (sa_sl 7 rfl ?_)
  refine sl_call rfl rfl (by kernel_rfl) rfl Sub.refl (used_ok (by exact at_) (by exact at_) (by omega)) ?_
  rintro _ -
  refine sl_nil ?_
  refine se_sd (fun _ w hw => all_ hw) ?_
  refine sd_yes2 8 rfl (by exact gd_) (by kernel_rfl) (by kernel_rfl) (by exact nop_) (PuI.all (by exact pv_Dk6)) rfl (fun w hw => all_ hw) ?_
  refine sd_yes2 9 rfl (by exact gd_) (by kernel_rfl) (by kernel_rfl) (by exact nop_) (PuI.all (by exact pv_Dk6)) rfl (fun w hw => all_ hw) ?_
  refine sd_yes2 10 rfl (by exact gd_) (by kernel_rfl) (by kernel_rfl) (by exact nop_) (PuI.all (by exact pv_Dk6)) rfl (fun w hw => all_ hw) ?_
  refine sd_done (by kernel_rfl) ?_
  refine go_Dk6 ?_
  refine sl_alloc rfl rfl rfl ?_; intro g7
  refine go_Dk6 ?_
  refine sl_call rfl rfl (by kernel_rfl) rfl Sub.refl (clone_ok (A := none) (n := 0) (bs := []) (fun w _ => Reads.nil_ _) (by decide)) ?_
  rintro ⟨A1, c1⟩ -
  refine go_Dk6 ?_
  refine sl_app (A := A1) (k := 0) (c := c1) rfl (by exact pick_) rfl (hb.mono (by exact sub_)) (one_bytes _) rfl Tryz.info5 (by decide) (by decide) rfl (by unfold maxLen; omega) (by omega) ?_
  intro A2 c2
  rw [← bytes_app, List.nil_append, Nat.zero_add]
  refine go_Dk6 ?_
  refine sd_drawn (fun W => AllP W [blk g7 138 [.slice A2 b.length c2, .int .i64 0], dB g m lim]) (fun _ => true) (by kernel_rfl) 7 rfl ?_
  refine sd_yes2 0 rfl (by exact gd_) (by kernel_rfl) (by kernel_rfl) (by exact nop_) (PuI.all (by exact pv_Dk6)) rfl (fun w hw => all_ hw) ?_
  refine sd_yes2 1 rfl (by exact gd_) (by kernel_rfl) (by kernel_rfl) (by exact nop_) (PuI.all (by exact pv_Dk6)) rfl (fun w hw => all_ hw) ?_
  refine sd_yes2 2 rfl (by exact gd_) (by kernel_rfl) (by kernel_rfl) (by exact nop_) (PuI.all (by exact pv_Dk6)) rfl (fun w hw => all_ hw) ?_
  refine sd_yes2 3 rfl (by exact gd_) (by kernel_rfl) (by kernel_rfl) (by exact nop_) (PuI.all (by exact pv_Dk6)) rfl (fun w hw => all_ hw) ?_
  refine sd_yes2 4 rfl (by exact gd_) (by kernel_rfl) (by kernel_rfl) (by exact nop_) (PuI.all (by exact pv_Dk6)) rfl (fun w hw => all_ hw) ?_
  refine sd_yes2 5 rfl (by exact gd_) (by kernel_rfl) (by kernel_rfl) (by exact nop_) (PuI.all (by exact pv_Dk6)) rfl (fun w hw => all_ hw) ?_
  refine sd_one 6 (by kernel_rfl) (sa_sl 6 rfl ?_)
  refine sl_dnew (fs := fs) (f' := ⟨s, A2, c2, b, 0, ck⟩) rfl rfl rfl rfl rfl hno (by exact pick_) rfl rfl ?_
  refine sl_nil ?_
  refine se_sd (fun _ w hw => all_ hw) ?_
  refine sd_done (by kernel_rfl) ?_
  refine go_Dk6 ?_
  refine se_sub (L' := own 5 1 A2 b.length c2 (bytes b) :: dS fs :: dB g m lim :: dM m (fs ++ [⟨s, A2, c2, b, 0, ck⟩]) (ck + 1) :: K) (by exact sub_) ?_
  refine se_ent (ds_add (s := s) (sy := 0) (bn := ck) rfl) ?_
  exact se_ret1 (A2, c2) trivial rfl rfl (by exact sub_)
set_option maxRecDepth 100000 in
set_option maxHeartbeats 2000000 in
theorem appD_yes {K : List Fa} {g m ck : Nat} {lim : Int} {X Y : List DF} {f : DF} {B : Option Addr} {cb : Nat} {b : List Int} (hs : f.s.size ≤ 9223372036854775807) (hname : nameB f.s = true) (hl : 0 ≤ lim ∧ lim ≤ 1048576) (hfit : (b.length : Int) + usedN (X ++ f :: Y) ≤ lim) (hb : Vw (dB g m lim :: dM m (X ++ f :: Y) ck :: dS (X ++ f :: Y) :: K) (fun w => Reads w 1 B b.length (bytes b))) :
    Fn Tryz.prog 128 #[.pointer (some ⟨g, 0, none⟩), .string f.s, .slice B b.length cb] (dB g m lim :: dM m (X ++ f :: Y) ck :: dS (X ++ f :: Y) :: K) (Ret (fun _ : Option Addr × Nat => True) (fun _ => .int .i64 0) (fun q => dB g m lim :: dM m (X ++ ⟨f.s, q.1, q.2, f.l ++ b, f.sy, f.bn⟩ :: Y) ck :: dS (X ++ ⟨f.s, q.1, q.2, f.l ++ b, f.sy, f.bn⟩ :: Y) :: K)) := by
  refine fn_enter Tryz.func128 rfl _ Tryz.ntmps128 (by simp) [(0, .pointer (some ⟨g, 0, none⟩)), (1, .string f.s), (2, .slice B b.length cb)] (args_of (by simp)) ?_
  have hg := dget (mid_mem (X := X) (Y := Y) (f := f))
  unfold DF.val at hg
  have hle := used_le (mid_mem (X := X) (Y := Y) (f := f))
  refine go_Dk6 ?_
  refine sl_call rfl rfl (by kernel_rfl) rfl Sub.refl (name_ok hs) ?_
  rintro _ -
  rw [hname]
  refine go_Dk6 ?_
  refine sl_call rfl rfl (by kernel_rfl) rfl Sub.refl (has_yes (by exact at_) (by exact at_) mid_mem) ?_
  rintro _ -
  refine go_Dk6 ?_
  refine sd_drawn (fun W => AllP W [dB g m lim]) (fun _ => true) (by kernel_rfl) 11 rfl ?_
  refine sd_yes2 0 rfl (by exact gd_) (by kernel_rfl) (by kernel_rfl) (by exact nop_) (PuI.all (by exact pv_Dk6)) rfl (fun w hw => all_ hw) ?_
  refine sd_yes2 1 rfl (by exact gd_) (by kernel_rfl) (by kernel_rfl) (by exact nop_) (PuI.all (by exact pv_Dk6)) rfl (fun w hw => all_ hw) ?_
  refine sd_yes2 2 rfl (by exact gd_) (by kernel_rfl) (by kernel_rfl) (by exact nop_) (PuI.all (by exact pv_Dk6)) rfl (fun w hw => all_ hw) ?_
  refine sd_yes2 3 rfl (by exact gd_) (by kernel_rfl) (by kernel_rfl) (by exact nop_) (PuI.all (by exact pv_Dk6)) rfl (fun w hw => all_ hw) ?_
  refine sd_yes2 4 rfl (by exact gd_) (by kernel_rfl) (by kernel_rfl) (by exact nop_) (PuI.all (by exact pv_Dk6)) rfl (fun w hw => all_ hw) ?_
  refine sd_yes2 5 rfl (by exact gd_) (by kernel_rfl) (by kernel_rfl) (by exact nop_) (PuI.all (by exact pv_Dk6)) rfl (fun w hw => all_ hw) ?_
  refine sd_yes2 6 rfl (by exact gd_) (by kernel_rfl) (by kernel_rfl) (by exact nop_) (PuI.all (by exact pv_Dk6)) rfl (fun w hw => all_ hw) ?_
  refine sd_one 7 (by kernel_rfl) (sa_sl 7 rfl ?_)
  refine sl_call rfl rfl (by kernel_rfl) rfl Sub.refl (used_ok (by exact at_) (by exact at_) (by omega)) ?_
  rintro _ -
  refine sl_nil ?_
  refine se_sd (fun _ w hw => all_ hw) ?_
  refine sd_yes2 8 rfl (by exact gd_) (by kernel_rfl) (by kernel_rfl) (by exact nop_) (PuI.all (by exact pv_Dk6)) rfl (fun w hw => all_ hw) ?_
  refine sd_yes2 9 rfl (by exact gd_) (by kernel_rfl) (by kernel_rfl) (by exact nop_) (PuI.all (by exact pv_Dk6)) rfl (fun w hw => all_ hw) ?_
  refine sd_yes2 10 rfl (by exact gd_) (by kernel_rfl) (by kernel_rfl) (by exact nop_) (PuI.all (by exact pv_Dk6)) rfl (fun w hw => all_ hw) ?_
  refine sd_done (by kernel_rfl) ?_
  refine go_Dk6 ?_
  refine sl_alloc rfl rfl rfl ?_; intro g7
  refine go_Dk6 ?_
  refine sl_call rfl rfl (by kernel_rfl) rfl Sub.refl (clone_ok (ds_get (fs := X ++ f :: Y) (f := f) (by exact at_) mid_mem) (by omega)) ?_
  rintro ⟨A1, c1⟩ -
  refine go_Dk6 ?_
  refine sl_app (A := A1) (k := f.l.length) (c := c1) rfl (by exact pick_) rfl (hb.mono (by exact sub_)) (one_bytes _) rfl Tryz.info5 (by decide) (by decide) rfl (by unfold maxLen; omega) (by omega) ?_
  intro A2 c2
  rw [← bytes_app, ← List.length_append]
  refine go_Dk6 ?_
  refine sd_drawn (fun W => AllP W [blk g7 138 [.slice A2 (f.l ++ b).length c2, .int .i64 f.sy], dB g m lim]) (fun _ => true) (by kernel_rfl) 7 rfl ?_
  refine sd_yes2 0 rfl (by exact gd_) (by kernel_rfl) (by kernel_rfl) (by exact nop_) (PuI.all (by exact pv_Dk6)) rfl (fun w hw => all_ hw) ?_
  refine sd_yes2 1 rfl (by exact gd_) (by kernel_rfl) (by kernel_rfl) (by exact nop_) (PuI.all (by exact pv_Dk6)) rfl (fun w hw => all_ hw) ?_
  refine sd_yes2 2 rfl (by exact gd_) (by kernel_rfl) (by kernel_rfl) (by exact nop_) (PuI.all (by exact pv_Dk6)) rfl (fun w hw => all_ hw) ?_
  refine sd_yes2 3 rfl (by exact gd_) (by kernel_rfl) (by kernel_rfl) (by exact nop_) (PuI.all (by exact pv_Dk6)) rfl (fun w hw => all_ hw) ?_
  refine sd_yes2 4 rfl (by exact gd_) (by kernel_rfl) (by kernel_rfl) (by exact nop_) (PuI.all (by exact pv_Dk6)) rfl (fun w hw => all_ hw) ?_
  refine sd_yes2 5 rfl (by exact gd_) (by kernel_rfl) (by kernel_rfl) (by exact nop_) (PuI.all (by exact pv_Dk6)) rfl (fun w hw => all_ hw) ?_
  refine sd_one 6 (by kernel_rfl) (sa_sl 6 rfl ?_)
  refine sl_dput (f := f) (f' := ⟨f.s, A2, c2, f.l ++ b, f.sy, f.bn⟩) rfl rfl rfl rfl rfl (by exact pick_) rfl rfl ?_
  refine sl_nil ?_
  refine se_sd (fun _ w hw => all_ hw) ?_
  refine sd_done (by kernel_rfl) ?_
  refine go_Dk6 ?_
  refine se_sub (L' := own 5 1 A2 (f.l ++ b).length c2 (bytes (f.l ++ b)) :: dS (X ++ f :: Y) :: dB g m lim :: dM m (X ++ ⟨f.s, A2, c2, f.l ++ b, f.sy, f.bn⟩ :: Y) ck :: K) (by exact sub_) ?_
  refine se_ent (ds_put (s := f.s) (sy := f.sy) (bn := f.bn) rfl) ?_
  exact se_ret1 (A2, c2) trivial rfl rfl (by exact sub_)
end Go.Proofs.YtocaabnbmcpjmaaGreat
/- JournalErrors: its walk. -/
namespace Go.Proofs.YtocaabnbmcpjmaaGreat
open Go.RowKit Go.MapKept
attribute [local irreducible] Go.Calls Go.Exit.then Go.Exit.inBlock Go.bodyPost Go.Code.wp Go.wpList takeL recordL hashL recL allL
def sj : ByteArray := ⟨#[106, 111, 117, 114, 110, 97, 108]⟩
abbrev jB (gj g : Nat) (s : ByteArray) : Fa := blk gj 157 [.pointer (some ⟨g, 0, none⟩), .string s, .int .i64 0]
theorem nohas {s : ByteArray} : ¬ DHas [] s := fun ⟨_, h, _⟩ => by cases h
structure Oj where
  gj : Nat
  R : Option Addr
  c : Nat
theorem many_pos (n : Nat) : 1 ≤ manyL n := by
  unfold manyL
  omega
theorem nth_Je {φ : Prop} (h : φ := by (first | rfl | assumption)) : φ := h
theorem mid_Je {φ : Prop} (h : φ := by (first | exact Mid.all | exact Mid.all | exact Mid.head)) : φ := h
theorem sz_Je {φ : Prop} (h : φ := by (first | rfl | (rfl; first | done | fail))) : φ := h
theorem one_Je {φ : Prop} (h : φ := by (first | assumption | exact first | exact one_bytes _ | exact ff_one | (simp only [List.mem_cons, List.not_mem_nil, or_false, forall_eq_or_imp, forall_eq]; decide) | exact one_bytes _ | (intro v hv; (repeat (rcases List.mem_cons.1 hv with rfl | hv; rfl)); cases hv))) : φ := h
theorem set_Je {φ : Prop} (h : φ := by (first | (fail) | ((repeat (first | exact SetAt.here | apply SetAt.there)); first | done | fail))) : φ := h
theorem cl_Je {φ : Prop} (h : φ := by first | rfl | exact .t | exact .f | exact .t (by omega) | exact .f (by omega) | exact .u | exact .i (by (first | exact .t (by omega) | exact .f (by omega) | exact .u | exact .i (by omega) | exact .v (by omega) | exact .b (by omega) | exact .w | rfl | omega)) | exact .v (by omega) | exact .b (by omega) | exact .q (by omega) | exact .w | exact .b (by exact at_) rfl (by exact nth_Je) | exact .w (by exact at_) rfl rfl (by exact sz_Je) | exact .s (by exact at_) (by exact mid_Je) rfl rfl (by exact sz_Je) | exact .z rfl rfl ⟨by kernel_rfl⟩ | exact .b rfl rfl ⟨by kernel_rfl⟩ | exact .a rfl rfl ⟨by kernel_rfl⟩ | exact .o rfl | exact .s | exact .n | exact .p rfl | exact .q rfl | exact .c rfl | exact .d rfl | exact .n rfl rfl (by omega) | exact .a rfl rfl (by omega) | exact .p rfl rfl (by omega) (by omega) | exact .y rfl rfl (by omega) (by omega) | exact .o (by exact at_) (by omega) rfl (by exact nth_Je) | exact .m (by exact at_) (by omega) (by exact mid_Je) rfl rfl (by exact sz_Je) | exact .mlen (by exact at_) rfl | exact .t (by exact at_) rfl rfl (by first | exact True.intro | rfl) (by assumption) | exact .f (by exact at_) rfl rfl (by first | exact True.intro | rfl) (by assumption) rfl | exact .t1 (by exact at_) rfl rfl (by first | exact True.intro | rfl) (by assumption) | exact .f1 (by exact at_) rfl rfl (by first | exact True.intro | rfl) (by assumption) rfl | exact .tk (by exact at_) rfl (by assumption) (by assumption) | exact .fk (by exact at_) rfl (by assumption) (by assumption) rfl | exact .tk1 (by exact at_) rfl (by assumption) (by assumption) | exact .fk1 (by exact at_) rfl (by assumption) (by assumption) rfl | exact .r rfl rfl (by omega) (by omega) (by exact nth_Je) rfl | exact .s rfl (by omega) (by assumption) | exact at_ | assumption | exact .r rfl rfl | exact .h rfl rfl rfl (by omega) | exact .l rfl rfl rfl (by omega) (by omega) | exact .g rfl rfl rfl rfl (by omega) (by omega) | exact .h rfl rfl (toN_ (by omega)) (by omega) | exact .l rfl rfl (toN_ (by omega)) (by omega) (by omega) | exact .g rfl rfl (toN_ (by omega)) (toN_ (by omega)) (by omega) (by omega) | exact .o (by decide) | exact .f (by decide) | exact .n (by omega) (by first | decide | (show _ ≤ ((64 : Nat) : Int); omega)) | (constructor; (repeat (first | exact .t (by omega) | exact .f (by omega) | exact .u | exact .i (by omega) | exact .v (by omega) | exact .b (by omega) | exact .w | rfl | omega)); first | done | fail) | omega | (show _ ≤ ((64 : Nat) : Int); omega)) : φ := h
theorem pv_Je {φ : Prop} (h : φ := by constructor; (repeat exact cl_Je); first | done | fail) : φ := h
theorem su_Je {φ ψ : Prop} (k : ψ) (h : Hide ψ → φ := by (intro k; (first | refine sl_pu (PuI.sep (by exact pv_Je)) rfl ?_ | refine sl_yes rfl rfl ?_ | refine sl_no rfl rfl rfl ?_ | refine sl_off rfl rfl rfl ?_ | (fail)); exact k.out)) : φ := h ⟨k⟩
theorem sto_Je {φ ψ : Prop} (k : ψ) (h : Hide ψ → φ := by (intro k; (first | refine sl_store rfl (by exact pick_) rfl rfl (by kernel_rfl) (by exact set_Je) ?_ | refine sl_store_whole rfl (by exact pick_) rfl (by exact sz_Je) (by exact sz_Je) (by exact one_Je) ?_); exact k.out)) : φ := h ⟨k⟩
theorem go_Je {φ ψ : Prop} (k : ψ) (h : Hide ψ → φ := by (intro k; (repeat (first | refine su_Je ?_ | refine so_ ?_ | refine sto_Je ?_)); exact k.out)) : φ := h ⟨k⟩
set_option maxRecDepth 100000 in
set_option maxHeartbeats 2000000 in
theorem open_new {K : List Fa} {g m : Nat} {lim : Int} {s : ByteArray} :
    Fn Tryz.prog 42 #[.pointer (some ⟨g, 0, none⟩), .string s] (dB g m lim :: dM m [] 0 :: dS [] :: K) (Ret (fun _ : Oj => True) (fun q => .tuple #[.pointer (some ⟨q.gj, 0, none⟩), .slice q.R 0 q.c, .int .i64 0]) (fun q => jB q.gj g s :: dB g m lim :: dM m [] 0 :: dS [] :: K)) := by
  refine fn_enter Tryz.func42 rfl _ Tryz.ntmps42 (by simp) [(0, .pointer (some ⟨g, 0, none⟩)), (1, .string s)] (args_of (by simp)) ?_
  refine go_Je ?_
  refine sl_call rfl rfl (by kernel_rfl) rfl Sub.refl (readD_no (fs := []) (m := m) (ck := 0) (lim := lim) (by exact at_) (by exact at_) nohas) ?_
  rintro _ -
  refine go_Je ?_
  have hsc := scan_ok (K := dB g m lim :: dM m [] 0 :: dS [] :: K) (A := none) (n := 0) (c := 0) (j0 := 0) (k0 := 0) (bs := []) (out0 := []) ⟨fun w _ => Reads.nil_ _, Nat.le_refl _, by decide, Nat.zero_le _, rfl, fun _ h => by cases h⟩ (by decide) rfl (rec_out (by decide))
  rw [show haltB [] 0 (cutN [] - 0) = false from rfl, ScA_yes] at hsc
  refine sl_call rfl rfl (by kernel_rfl) rfl Sub.refl hsc ?_
  rintro ⟨xs, R, c⟩ ⟨hxs, -⟩
  obtain rfl : xs = [] := List.map_eq_nil_iff.1 hxs
  dsimp only
  refine sl_sub (L' := dB g m lim :: dM m [] 0 :: dS [] :: K) ?_ ?_
  · exact Sub.skip (Sub.skip Sub.refl)
  refine go_Je ?_
  refine sl_pu (pu_build (v := .agg #[.pointer (some ⟨g, 0, none⟩), .string s, .int .i64 0]) rfl (fun W => by kernel_rfl)) rfl ?_
  refine sl_box rfl rfl rfl ?_; intro gj
  refine go_Je ?_
  exact se_ret3 ⟨gj, R, c⟩ trivial rfl rfl rfl rfl rfl (by exact sub_)
end Go.Proofs.YtocaabnbmcpjmaaGreat
/- A journal opened: Open's walk at a file that is there. -/
namespace Go.Proofs.YtocaabnbmcpjmaaGreat
open Go.RowKit Go.MapKept
attribute [local irreducible] Go.Calls Go.Exit.then Go.Exit.inBlock Go.bodyPost Go.Code.wp Go.wpList takeL recordL hashL recL allL
abbrev jC (gj g : Nat) (s : ByteArray) (n : Nat) : Fa := blk gj 157 [.pointer (some ⟨g, 0, none⟩), .string s, .int .i64 n]
structure Ok where
  gj : Nat
  q : SRow
  f : DF
theorem nth_Jh {φ : Prop} (h : φ := by (first | rfl | assumption)) : φ := h
theorem mid_Jh {φ : Prop} (h : φ := by (first | exact Mid.all | exact Mid.all | exact Mid.head)) : φ := h
theorem sz_Jh {φ : Prop} (h : φ := by (first | rfl | (rfl; first | done | fail))) : φ := h
theorem one_Jh {φ : Prop} (h : φ := by (first | assumption | exact first | exact one_bytes _ | exact ff_one | (simp only [List.mem_cons, List.not_mem_nil, or_false, forall_eq_or_imp, forall_eq]; decide) | exact one_bytes _ | (intro v hv; (repeat (rcases List.mem_cons.1 hv with rfl | hv; rfl)); cases hv))) : φ := h
theorem set_Jh {φ : Prop} (h : φ := by (first | (fail) | ((repeat (first | exact SetAt.here | apply SetAt.there)); first | done | fail))) : φ := h
theorem cl_Jh {φ : Prop} (h : φ := by first | rfl | exact .t | exact .f | exact .t (by omega) | exact .f (by omega) | exact .u | exact .i (by (first | exact .t (by omega) | exact .f (by omega) | exact .u | exact .i (by omega) | exact .v (by omega) | exact .b (by omega) | exact .w | rfl | omega)) | exact .v (by omega) | exact .b (by omega) | exact .q (by omega) | exact .w | exact .b (by exact at_) rfl (by exact nth_Jh) | exact .w (by exact at_) rfl rfl (by exact sz_Jh) | exact .s (by exact at_) (by exact mid_Jh) rfl rfl (by exact sz_Jh) | exact .z rfl rfl ⟨by kernel_rfl⟩ | exact .b rfl rfl ⟨by kernel_rfl⟩ | exact .a rfl rfl ⟨by kernel_rfl⟩ | exact .o rfl | exact .s | exact .n | exact .p rfl | exact .q rfl | exact .c rfl | exact .d rfl | exact .n rfl rfl (by omega) | exact .a rfl rfl (by omega) | exact .p rfl rfl (by omega) (by omega) | exact .y rfl rfl (by omega) (by omega) | exact .o (by exact at_) (by omega) rfl (by exact nth_Jh) | exact .m (by exact at_) (by omega) (by exact mid_Jh) rfl rfl (by exact sz_Jh) | exact .mlen (by exact at_) rfl | exact .t (by exact at_) rfl rfl (by first | exact True.intro | rfl) (by assumption) | exact .f (by exact at_) rfl rfl (by first | exact True.intro | rfl) (by assumption) rfl | exact .t1 (by exact at_) rfl rfl (by first | exact True.intro | rfl) (by assumption) | exact .f1 (by exact at_) rfl rfl (by first | exact True.intro | rfl) (by assumption) rfl | exact .r rfl rfl (by omega) (by omega) (by exact nth_Jh) rfl | exact .s rfl (by omega) (by assumption) | exact at_ | assumption | exact .r rfl rfl | exact .h rfl rfl rfl (by omega) | exact .l rfl rfl rfl (by omega) (by omega) | exact .g rfl rfl rfl rfl (by omega) (by omega) | exact .h rfl rfl (toN_ (by omega)) (by omega) | exact .l rfl rfl (toN_ (by omega)) (by omega) (by omega) | exact .g rfl rfl (toN_ (by omega)) (toN_ (by omega)) (by omega) (by omega) | exact .o (by decide) | exact .f (by decide) | exact .n (by omega) (by first | decide | (show _ ≤ ((64 : Nat) : Int); omega)) | (constructor; (repeat (first | exact .t (by omega) | exact .f (by omega) | exact .u | exact .i (by omega) | exact .v (by omega) | exact .b (by omega) | exact .w | rfl | omega)); first | done | fail) | omega | (show _ ≤ ((64 : Nat) : Int); omega)) : φ := h
theorem pv_Jh {φ : Prop} (h : φ := by constructor; (repeat exact cl_Jh); first | done | fail) : φ := h
theorem su_Jh {φ ψ : Prop} (k : ψ) (h : Hide ψ → φ := by (intro k; (first | refine sl_pu (PuI.sep (by exact pv_Jh)) rfl ?_ | refine sl_yes rfl rfl ?_ | refine sl_no rfl rfl rfl ?_ | refine sl_off rfl rfl rfl ?_ | (fail)); exact k.out)) : φ := h ⟨k⟩
theorem sto_Jh {φ ψ : Prop} (k : ψ) (h : Hide ψ → φ := by (intro k; (first | refine sl_store rfl (by exact pick_) rfl rfl (by kernel_rfl) (by exact set_Jh) ?_ | refine sl_store_whole rfl (by exact pick_) rfl (by exact sz_Jh) (by exact sz_Jh) (by exact one_Jh) ?_); exact k.out)) : φ := h ⟨k⟩
theorem go_Jh {φ ψ : Prop} (k : ψ) (h : Hide ψ → φ := by (intro k; (repeat (first | refine su_Jh ?_ | refine so_ ?_ | refine sto_Jh ?_)); exact k.out)) : φ := h ⟨k⟩
set_option maxRecDepth 100000 in
set_option maxHeartbeats 2000000 in
theorem open_halt {K : List Fa} {g m ck j0 k0 : Nat} {lim : Int} {f : DF} {out0 : List (List Int)} (hn : f.l.length ≤ 1048576) (hob : IsBytes f.l) (hc0 : chainL f.l j0 = some (k0, out0)) (he0 : recordL f.l k0 = none) (hh : haltB f.l k0 (cutN f.l - k0) = true) :
    Fn Tryz.prog 42 #[.pointer (some ⟨g, 0, none⟩), .string f.s] (dB g m lim :: dM m [f] ck :: dS [f] :: K) (Ret (fun _ : Unit => True) (fun _ => .tuple #[.pointer none, .slice none 0 0, .int .i64 23]) (fun _ => dB g m lim :: dM m [f] ck :: dS [f] :: K)) := by
  refine fn_enter Tryz.func42 rfl _ Tryz.ntmps42 (by simp) [(0, .pointer (some ⟨g, 0, none⟩)), (1, .string f.s)] (args_of (by simp)) ?_
  refine go_Jh ?_
  refine sl_call rfl rfl (by kernel_rfl) rfl Sub.refl (readD_ok (fs := [f]) (f := f) (m := m) (ck := ck) (lim := lim) (by exact at_) (by exact at_) (by exact at_) (List.mem_singleton.2 rfl) (by omega)) ?_
  rintro ⟨A1, c1⟩ -
  dsimp only
  refine sl_know (fun w hw => (own_len (e := 5) (size := 1) (A := A1) hw (by exact at_)).2) ?_
  rintro ⟨l1, l2⟩
  refine go_Jh ?_
  have hsc := scan_ok (K := u8o A1 c1 f.l :: dB g m lim :: dM m [f] ck :: dS [f] :: K) (A := A1) (n := f.l.length) (c := c1) (bs := f.l) ⟨Vw.of_own (e := 5) .here, l1, by omega, l2, rfl, hob⟩ (by omega) hc0 he0
  rw [hh, ScA_no] at hsc
  refine sl_call rfl rfl (by kernel_rfl) rfl Sub.refl hsc ?_
  rintro _ -
  refine go_Jh ?_
  exact se_ret3 () trivial rfl rfl rfl rfl rfl (by exact sub_)
set_option maxRecDepth 100000 in
set_option maxHeartbeats 2000000 in
theorem open_go {K : List Fa} {g m ck j0 k0 : Nat} {lim : Int} {f : DF} {out0 : List (List Int)} (hn : f.l.length ≤ 1048576) (hob : IsBytes f.l) (hsy : f.sy ≤ f.l.length) (hk0 : k0 * 64 ≤ f.l.length) (hc0 : chainL f.l j0 = some (k0, out0)) (he0 : recordL f.l k0 = none) (hh : haltB f.l k0 (cutN f.l - k0) = false) :
    Fn Tryz.prog 42 #[.pointer (some ⟨g, 0, none⟩), .string f.s] (dB g m lim :: dM m [f] ck :: dS [f] :: K) (Ret (fun p : Ok => (p.q.xs.map Sx.l = out0 ∧ ∀ x ∈ p.q.xs, x.ok) ∧ p.f.s = f.s ∧ p.f.l = f.l.take (k0 * 64) ∧ p.f.sy = if k0 * 64 < f.l.length then k0 * 64 else f.sy) (fun p => .tuple #[.pointer (some ⟨p.gj, 0, none⟩), .slice p.q.R p.q.xs.length p.q.c, .int .i64 0]) (fun p => jC p.gj g f.s k0 :: p.q.row :: p.q.st :: dB g m lim :: dM m [p.f] ck :: dS [p.f] :: K)) := by
  refine fn_enter Tryz.func42 rfl _ Tryz.ntmps42 (by simp) [(0, .pointer (some ⟨g, 0, none⟩)), (1, .string f.s)] (args_of (by simp)) ?_
  refine go_Jh ?_
  refine sl_call rfl rfl (by kernel_rfl) rfl Sub.refl (readD_ok (fs := [f]) (f := f) (m := m) (ck := ck) (lim := lim) (by exact at_) (by exact at_) (by exact at_) (List.mem_singleton.2 rfl) (by omega)) ?_
  rintro ⟨A1, c1⟩ -
  dsimp only
  refine sl_know (fun w hw => (own_len (e := 5) (size := 1) (A := A1) hw (by exact at_)).2) ?_
  rintro ⟨l1, l2⟩
  refine go_Jh ?_
  have hsc := scan_ok (K := u8o A1 c1 f.l :: dB g m lim :: dM m [f] ck :: dS [f] :: K) (A := A1) (n := f.l.length) (c := c1) (bs := f.l) ⟨Vw.of_own (e := 5) .here, l1, by omega, l2, rfl, hob⟩ (by omega) hc0 he0
  rw [hh, ScA_yes] at hsc
  refine sl_call rfl rfl (by kernel_rfl) rfl Sub.refl hsc ?_
  rintro q hq
  by_cases hcut : k0 * 64 < f.l.length
  · rw [if_pos hcut]
    refine go_Jh ?_
    have hct := cutD_ok (K := q.row :: q.st :: K) (g := g) (m := m) (ck := ck) (lim := lim) (k := ((k0 * 64 : Nat) : Int)) (X := []) (Y := []) (f := f) (by omega) hn hsy
    rw [show (k0 : Int) * 64 = ((k0 * 64 : Nat) : Int) by omega]
    refine sl_call rfl rfl (by kernel_rfl) rfl (by exact sub_) hct ?_
    rintro f2 ⟨hs2, hl2, hy2⟩
    rw [Int.toNat_natCast] at hl2 hy2
    rw [← hs2]
    refine go_Jh ?_
    refine sl_call rfl rfl (by kernel_rfl) rfl (by exact sub_) (syncD_ok (K := dS ([] ++ f2 :: []) :: q.row :: q.st :: K) (X := []) (Y := []) (f := f2) (g := g) (m := m) (ck := ck) (lim := lim)) ?_
    rintro _ -
    rw [← ds_sy (X := []) (Y := []) (k := f2.l.length)]
    refine go_Jh ?_
    refine sl_pu (pu_build (v := .agg #[.pointer (some ⟨g, 0, none⟩), .string f2.s, .int .i64 k0]) rfl (fun W => by kernel_rfl)) rfl ?_
    refine sl_box rfl rfl rfl ?_; intro gj
    refine go_Jh ?_
    have hlen2 : f2.l.length = k0 * 64 := by rw [hl2, List.length_take]; omega
    exact se_ret3 ⟨gj, q, { f2 with sy := f2.l.length }⟩ ⟨hq, rfl, hl2, hlen2⟩ rfl rfl rfl rfl rfl (by exact sub_)
  · rw [if_neg hcut]
    refine go_Jh ?_
    refine sl_pu (pu_build (v := .agg #[.pointer (some ⟨g, 0, none⟩), .string f.s, .int .i64 k0]) rfl (fun W => by kernel_rfl)) rfl ?_
    refine sl_box rfl rfl rfl ?_; intro gj
    refine go_Jh ?_
    exact se_ret3 ⟨gj, q, f⟩ ⟨hq, rfl, by rw [List.take_of_length_le (by omega)], rfl⟩ rfl rfl rfl rfl rfl (by exact sub_)
end Go.Proofs.YtocaabnbmcpjmaaGreat
/- A disk: Turn. -/
namespace Go.Proofs.YtocaabnbmcpjmaaGreat
open Go.RowKit Go.MapKept
attribute [local irreducible] Go.Calls Go.Exit.then Go.Exit.inBlock Go.bodyPost Go.Code.wp Go.wpList
/-- A byte with a bit turned. -/
def tbit (x : Int) (k : Nat) : Int := bits .xor .u8 x (IntKind.u8.wrap (1 * 2 ^ (k % 8)))
def turnL (l : List Int) (k : Nat) : List Int := l.set (k / 8) (tbit (l.getD (k / 8) 0) k)
theorem turnL_len {l : List Int} {k : Nat} : (turnL l k).length = l.length := by simp [turnL]
theorem dval_len {s : ByteArray} {A : Option Addr} {c n sy bn : Nat} {l : List Int} (h : l.length = n) : Value.agg #[.slice A n c, .int .i64 sy] = DF.val ⟨s, A, c, l, sy, bn⟩ := by
  subst h
  rfl
theorem nth_Dkt {φ : Prop} (h : φ := by (first | rfl | assumption)) : φ := h
theorem mid_Dkt {φ : Prop} (h : φ := by (first | exact Mid.all | exact Mid.all | exact Mid.head)) : φ := h
theorem sz_Dkt {φ : Prop} (h : φ := by (first | rfl | (rfl; first | done | fail))) : φ := h
theorem one_Dkt {φ : Prop} (h : φ := by (first | assumption | exact first | exact one_bytes _ | exact ff_one | (simp only [List.mem_cons, List.not_mem_nil, or_false, forall_eq_or_imp, forall_eq]; decide) | exact one_bytes _ | (intro v hv; (repeat (rcases List.mem_cons.1 hv with rfl | hv; rfl)); cases hv))) : φ := h
theorem set_Dkt {φ : Prop} (h : φ := by (first | (fail) | ((repeat (first | exact SetAt.here | apply SetAt.there)); first | done | fail))) : φ := h
theorem cl_Dkt {φ : Prop} (h : φ := by first | rfl | exact .t | exact .f | exact .t (by omega) | exact .f (by omega) | exact .u | exact .i (by (first | exact .t (by omega) | exact .f (by omega) | exact .u | exact .i (by omega) | exact .v (by omega) | exact .b (by omega) | exact .w | rfl | omega)) | exact .v (by omega) | exact .b (by omega) | exact .q (by omega) | exact .w | exact .b (by exact at_) rfl (by exact nth_Dkt) | exact .w (by exact at_) rfl rfl (by exact sz_Dkt) | exact .s (by exact at_) (by exact mid_Dkt) rfl rfl (by exact sz_Dkt) | exact .z rfl rfl ⟨by kernel_rfl⟩ | exact .b rfl rfl ⟨by kernel_rfl⟩ | exact .a rfl rfl ⟨by kernel_rfl⟩ | exact .o rfl | exact .s | exact .n | exact .p rfl | exact .q rfl | exact .c rfl | exact .d rfl | exact .n rfl rfl (by omega) | exact .a rfl rfl (by omega) | exact .p rfl rfl (by omega) (by omega) | exact .y rfl rfl (by omega) (by omega) | exact .o (by exact at_) (by omega) rfl (by exact nth_Dkt) | exact .m (by exact at_) (by omega) (by exact mid_Dkt) rfl rfl (by exact sz_Dkt) | exact .mlen (by exact at_) rfl | exact .t (by exact at_) rfl rfl (by first | exact True.intro | rfl) (by assumption) | exact .f (by exact at_) rfl rfl (by first | exact True.intro | rfl) (by assumption) rfl | exact .t1 (by exact at_) rfl rfl (by first | exact True.intro | rfl) (by assumption) | exact .f1 (by exact at_) rfl rfl (by first | exact True.intro | rfl) (by assumption) rfl | exact .r rfl rfl (by omega) (by omega) (by exact nth_Dkt) rfl | exact .s rfl (by omega) (by assumption) | exact at_ | assumption | exact .r rfl rfl | exact .h rfl rfl rfl (by omega) | exact .l rfl rfl rfl (by omega) (by omega) | exact .g rfl rfl rfl rfl (by omega) (by omega) | exact .h rfl rfl (toN_ (by omega)) (by omega) | exact .l rfl rfl (toN_ (by omega)) (by omega) (by omega) | exact .g rfl rfl (toN_ (by omega)) (toN_ (by omega)) (by omega) (by omega) | exact .o (by decide) | exact .f (by decide) | exact .n (by omega) (by first | decide | (show _ ≤ ((64 : Nat) : Int); omega)) | (constructor; (repeat (first | exact .t (by omega) | exact .f (by omega) | exact .u | exact .i (by omega) | exact .v (by omega) | exact .b (by omega) | exact .w | rfl | omega)); first | done | fail) | omega | (show _ ≤ ((64 : Nat) : Int); omega)) : φ := h
theorem pv_Dkt {φ : Prop} (h : φ := by constructor; (repeat exact cl_Dkt); first | done | fail) : φ := h
theorem su_Dkt {φ ψ : Prop} (k : ψ) (h : Hide ψ → φ := by (intro k; (first | refine sl_pu (PuI.sep (by exact pv_Dkt)) rfl ?_ | refine sl_yes rfl rfl ?_ | refine sl_no rfl rfl rfl ?_ | refine sl_off rfl rfl rfl ?_ | (fail)); exact k.out)) : φ := h ⟨k⟩
theorem sto_Dkt {φ ψ : Prop} (k : ψ) (h : Hide ψ → φ := by (intro k; (first | refine sl_store rfl (by exact pick_) rfl rfl (by kernel_rfl) (by exact set_Dkt) ?_ | refine sl_store_whole rfl (by exact pick_) rfl (by exact sz_Dkt) (by exact sz_Dkt) (by exact one_Dkt) ?_); exact k.out)) : φ := h ⟨k⟩
theorem go_Dkt {φ ψ : Prop} (k : ψ) (h : Hide ψ → φ := by (intro k; (repeat (first | refine su_Dkt ?_ | refine so_ ?_ | refine sto_Dkt ?_)); exact k.out)) : φ := h ⟨k⟩
set_option maxRecDepth 100000 in
set_option maxHeartbeats 2000000 in
theorem turnD_ok {K : List Fa} {g m ck k : Nat} {lim : Int} {X Y : List DF} {f : DF} (hk : k < 8 * f.l.length) (hn : f.l.length ≤ 1048576) :
    Fn Tryz.prog 13 #[.pointer (some ⟨g, 0, none⟩), .string f.s, .int .i64 k] (dB g m lim :: dM m (X ++ f :: Y) ck :: dS (X ++ f :: Y) :: K) (Ret (fun _ : Option Addr × Nat => True) (fun _ => .int .i64 0) (fun q => dB g m lim :: dM m (X ++ ⟨f.s, q.1, q.2, turnL f.l k, f.sy, f.bn⟩ :: Y) ck :: dS (X ++ ⟨f.s, q.1, q.2, turnL f.l k, f.sy, f.bn⟩ :: Y) :: K)) := by
  refine fn_enter Tryz.func13 rfl _ Tryz.ntmps13 (by simp) [(0, .pointer (some ⟨g, 0, none⟩)), (1, .string f.s), (2, .int .i64 k)] (args_of (by simp)) ?_
  have hg := dget (mid_mem (X := X) (Y := Y) (f := f))
  unfold DF.val at hg
  refine go_Dkt ?_
  refine sl_call rfl rfl (by kernel_rfl) rfl Sub.refl (has_yes (by exact at_) (by exact at_) mid_mem) ?_
  rintro _ -
  refine go_Dkt ?_
  refine sl_alloc rfl rfl rfl ?_; intro g7
  refine go_Dkt ?_
  refine sl_call rfl rfl (by kernel_rfl) rfl Sub.refl (clone_ok (ds_get (fs := X ++ f :: Y) (f := f) (by exact at_) mid_mem) (by omega)) ?_
  rintro ⟨A1, c1⟩ -
  dsimp only
  refine sl_form (e := 5) (size := 1) (A := A1) (m := f.l.length) (by exact at_) (by omega) ?_
  rintro ga rfl
  have hnx : nth (bytes f.l) (((k : Int) / 8).toNat * 1) = some (.int .u8 (f.l.getD (k / 8) 0)) := by
    rw [nth_eq, Nat.mul_one, show ((k : Int) / 8).toNat = k / 8 by omega]
    simp [bytes, List.getD, show k / 8 < f.l.length by omega]
  refine go_Dkt ?_
  refine sd_drawn (fun W => AllP W [blk g7 138 [.slice (some ⟨ga, 0, none⟩) f.l.length c1, .int .i64 f.sy], own 5 1 (some ⟨ga, 0, none⟩) f.l.length c1 (bytes f.l)]) (fun i => !(List.contains [11] i)) (by kernel_rfl) 12 rfl ?_
  refine sd_yes2 0 rfl (by exact gd_) (by kernel_rfl) (by kernel_rfl) (by exact nop_) (PuI.all (by exact pv_Dkt)) rfl (fun w hw => all_ hw) ?_
  refine sd_yes2 1 rfl (by exact gd_) (by kernel_rfl) (by kernel_rfl) (by exact nop_) (PuI.all (by exact pv_Dkt)) rfl (fun w hw => all_ hw) ?_
  refine sd_yes2 2 rfl (by exact gd_) (by kernel_rfl) (by kernel_rfl) (by exact nop_) (PuI.all (by exact pv_Dkt)) rfl (fun w hw => all_ hw) ?_
  refine sd_yes2 3 rfl (by exact gd_) (by kernel_rfl) (by kernel_rfl) (by exact nop_) (PuI.all (by exact pv_Dkt)) rfl (fun w hw => all_ hw) ?_
  refine sd_yes2 4 rfl (by exact gd_) (by kernel_rfl) (by kernel_rfl) (by exact nop_) (PuI.all (by exact pv_Dkt)) rfl (fun w hw => all_ hw) ?_
  refine sd_yes2 5 rfl (by exact gd_) (by kernel_rfl) (by kernel_rfl) (by exact nop_) (PuI.all (by exact pv_Dkt)) rfl (fun w hw => all_ hw) ?_
  refine sd_yes2 6 rfl (by exact gd_) (by kernel_rfl) (by kernel_rfl) (by exact nop_) (PuI.all (by exact pv_Dkt)) rfl (fun w hw => all_ hw) ?_
  refine sd_yes2 7 rfl (by exact gd_) (by kernel_rfl) (by kernel_rfl) (by exact nop_) (PuI.all (by exact pv_Dkt)) rfl (fun w hw => all_ hw) ?_
  refine sd_yes2 8 rfl (by exact gd_) (by kernel_rfl) (by kernel_rfl) (by exact nop_) (pu_shl rfl rfl (by omega) (by show _ ≤ ((8 : Nat) : Int); omega)) rfl (fun w hw => all_ hw) ?_
  refine sd_yes2 9 rfl (by exact gd_) (by kernel_rfl) (by kernel_rfl) (by exact nop_) (pu_xor rfl rfl) rfl (fun w hw => all_ hw) ?_
  refine sd_yes2 10 rfl (by exact gd_) (by kernel_rfl) (by kernel_rfl) (by exact nop_) (PuI.all (by exact pv_Dkt)) rfl (fun w hw => all_ hw) ?_
  refine sd_one 11 (by kernel_rfl) (sa_sl 11 rfl ?_)
  rw [add_none, show 0 + ((k : Int) / 8).toNat * 1 = k / 8 by omega, show ((k : Int) % 8).toNat = k % 8 by omega]
  refine sl_sto (e := 5) (size := 1) (k := f.l.length) (c := c1) (xs := bytes f.l) rfl (by exact pick_) rfl rfl rfl (by omega) ?_
  rw [bytes_set]
  refine sl_nil ?_
  refine se_sd (fun h => absurd h (by decide)) ?_
  refine sd_done (by kernel_rfl) ?_
  rw [show f.l.set (k / 8) (bits .xor .u8 (f.l.getD (k / 8) 0) (IntKind.u8.wrap (1 * 2 ^ (k % 8)))) = turnL f.l k from rfl]
  refine go_Dkt ?_
  refine sd_drawn (fun W => AllP W [blk g7 138 [.slice (some ⟨ga, 0, none⟩) f.l.length c1, .int .i64 f.sy], dB g m lim]) (fun _ => true) (by kernel_rfl) 7 rfl ?_
  refine sd_yes2 0 rfl (by exact gd_) (by kernel_rfl) (by kernel_rfl) (by exact nop_) (PuI.all (by exact pv_Dkt)) rfl (fun w hw => all_ hw) ?_
  refine sd_yes2 1 rfl (by exact gd_) (by kernel_rfl) (by kernel_rfl) (by exact nop_) (PuI.all (by exact pv_Dkt)) rfl (fun w hw => all_ hw) ?_
  refine sd_yes2 2 rfl (by exact gd_) (by kernel_rfl) (by kernel_rfl) (by exact nop_) (PuI.all (by exact pv_Dkt)) rfl (fun w hw => all_ hw) ?_
  refine sd_yes2 3 rfl (by exact gd_) (by kernel_rfl) (by kernel_rfl) (by exact nop_) (PuI.all (by exact pv_Dkt)) rfl (fun w hw => all_ hw) ?_
  refine sd_yes2 4 rfl (by exact gd_) (by kernel_rfl) (by kernel_rfl) (by exact nop_) (PuI.all (by exact pv_Dkt)) rfl (fun w hw => all_ hw) ?_
  refine sd_yes2 5 rfl (by exact gd_) (by kernel_rfl) (by kernel_rfl) (by exact nop_) (PuI.all (by exact pv_Dkt)) rfl (fun w hw => all_ hw) ?_
  refine sd_one 6 (by kernel_rfl) (sa_sl 6 rfl ?_)
  refine sl_dput (f := f) (f' := ⟨f.s, some ⟨ga, 0, none⟩, c1, turnL f.l k, f.sy, f.bn⟩) rfl rfl (congrArg some (dval_len turnL_len)) rfl rfl (by exact pick_) rfl rfl ?_
  refine sl_nil ?_
  refine se_sd (fun _ w hw => all_ hw) ?_
  refine sd_done (by kernel_rfl) ?_
  refine go_Dkt ?_
  refine se_sub (L' := own 5 1 (some ⟨ga, 0, none⟩) f.l.length c1 (bytes (turnL f.l k)) :: dS (X ++ f :: Y) :: dB g m lim :: dM m (X ++ ⟨f.s, some ⟨ga, 0, none⟩, c1, turnL f.l k, f.sy, f.bn⟩ :: Y) ck :: K) (by exact sub_) ?_
  refine se_ent (ds_put (s := f.s) (sy := f.sy) (bn := f.bn) turnL_len) ?_
  exact se_ret1 (some ⟨ga, 0, none⟩, c1) trivial rfl rfl (by exact sub_)
end Go.Proofs.YtocaabnbmcpjmaaGreat
/- A journal with a bit turned. Plain. -/
namespace Go.Proofs.YtocaabnbmcpjmaaGreat
open Go.RowKit
attribute [local irreducible] takeL recordL hashL cellL
theorem turn_getElem {l : List Int} {k i : Nat} (h : i ≠ k / 8) : (turnL l k)[i]? = l[i]? := by
  unfold turnL
  rw [List.getElem?_set_ne (fun e => h e.symm)]
theorem cut_at {l : List Int} {j i : Nat} : (cutL l j)[i]? = if i < 64 then l[j * 64 + i]? else none := by
  unfold cutL
  rw [List.getElem?_take, List.getElem?_drop]
theorem cells_app (a b : List (List Int)) : cellsA (a ++ b) = cellsA a + cellsA b := by simp [cellsA]
theorem all_app (a : List (List Int)) : ∀ b, ∃ rest, allL (a ++ b) = allL a ++ rest := snoc_ind (P := fun b => ∃ rest, allL (a ++ b) = allL a ++ rest) ⟨[], by simp⟩ (fun l x ⟨rest, h⟩ => ⟨rest ++ recL (cellsA (a ++ l)) x, by rw [← List.append_assoc, allL_next, h, List.append_assoc]⟩)
/-- In which record a cell lies. -/
theorem cell_in {ls : List (List Int)} : ∀ {c : Nat}, c < cellsA ls → ∃ r, ∃ h : r < ls.length, cellsA (ls.take r) ≤ c ∧ c < cellsA (ls.take r) + manyL ls[r].length := by
  refine snoc_ind (P := fun ls => ∀ {c : Nat}, c < cellsA ls → ∃ r, ∃ h : r < ls.length, cellsA (ls.take r) ≤ c ∧ c < cellsA (ls.take r) + manyL ls[r].length) (fun {c} h => by simp [cellsA] at h) (fun l x ih c h => ?_) ls
  rw [cellsA_snoc] at h
  by_cases hc : c < cellsA l
  · obtain ⟨r, hr, h1, h2⟩ := ih hc
    refine ⟨r, by rw [List.length_append]; omega, ?_, ?_⟩
    · rw [List.take_append_of_le_length (by omega)]
      exact h1
    · rw [List.take_append_of_le_length (by omega), List.getElem_append_left hr]
      exact h2
  · refine ⟨l.length, by simp, ?_, ?_⟩
    · rw [List.take_left']
      · omega
      · rfl
    · rw [List.take_left' rfl, List.getElem_append_right (Nat.le_refl _)]
      simpa using h
/-- Every cell of a journal is right. -/
theorem take_all {ls : List (List Int)} {r i : Nat} (hr : r < ls.length) (hi : i < manyL ls[r].length) (hc : cellsA ls < 16777216) : takeL (allL ls) (cellsA (ls.take r) + i) = some (manyL ls[r].length - 1 - i, partL ls[r] i) := by
  have hsp : ls = ls.take r ++ [ls[r]] ++ ls.drop (r + 1) := by
    rw [List.append_assoc, List.singleton_append, ← List.drop_eq_getElem_cons hr, List.take_append_drop]
  obtain ⟨rest, h1⟩ := all_app (ls.take r ++ [ls[r]]) (ls.drop (r + 1))
  rw [← hsp, allL_next] at h1
  have h2 : cellsA ls = cellsA (ls.take r) + manyL ls[r].length + cellsA (ls.drop (r + 1)) := by
    conv => lhs; rw [hsp]
    rw [cells_app, cellsA_snoc]
  rw [h1]
  exact take_rec (allL_len _) hi (by omega)
theorem torn_no {bs : List Int} {a : Nat} : ∀ {n : Nat}, (∀ i, i < n → (takeL bs (a + i)).isSome = true) → tornB bs a n = false
  | 0, _ => rfl
  | n + 1, h => by
    rw [tornB, torn_no (fun i hi => h i (by omega))]
    have := h n (by omega)
    cases hh : takeL bs (a + n) <;> simp_all
theorem halt_no {bs : List Int} {a : Nat} : ∀ {n : Nat}, (∀ i, i < n → (takeL bs (a + i)).isSome = true) → haltB bs a n = false
  | 0, _ => rfl
  | n + 1, h => by
    rw [haltB, halt_no (fun i hi => h i (by omega)), torn_no (fun i hi => h i (by omega))]
    simp
theorem go_none {t : List Int} {k0 many i0 : Nat} {p : Nat → List Int} (h0 : takeL t (k0 + i0) = none) (hi0 : i0 < many) (h : ∀ i, i < i0 → takeL t (k0 + i) = some (many - 1 - i, p i)) : ∀ {left i : Nat} {out : List Int}, i + left + 1 = many → i < i0 → goL t k0 left i out = none
  | 0, i, out, he, hi => by omega
  | left + 1, i, out, he, hi => by
    rw [goL]
    by_cases hc : i + 1 = i0
    · rw [show k0 + 1 + i = k0 + i0 by omega, h0]
    · rw [show k0 + 1 + i = k0 + (i + 1) by omega, h (i + 1) (by omega)]
      dsimp only
      split
      · exact go_none h0 hi0 h (by omega) (by omega)
      · rfl
attribute [local semireducible] recordL in
theorem rec_none {t : List Int} {k0 many i0 : Nat} {p : Nat → List Int} (h0 : takeL t (k0 + i0) = none) (hi0 : i0 < many) (h : ∀ i, i < i0 → takeL t (k0 + i) = some (many - 1 - i, p i)) : recordL t k0 = none := by
  unfold recordL
  by_cases hc : i0 = 0
  · subst hc
    rw [Nat.add_zero] at h0
    rw [h0]
  · have h1 := h 0 (by omega)
    rw [Nat.add_zero] at h1
    rw [h1]
    dsimp only
    split
    · rw [go_none h0 hi0 h (by omega) (by omega)]
      rfl
    · rfl
theorem cut_take {l : List Int} {m j : Nat} (h : (j + 1) * 64 ≤ m) : cutL (l.take m) j = cutL l j := by
  apply List.ext_getElem?
  intro i
  rw [cut_at, cut_at]
  split
  · rw [List.getElem?_take, if_pos (by omega)]
  · rfl
attribute [local semireducible] takeL in
theorem take_take {l : List Int} {m j : Nat} (h : (j + 1) * 64 ≤ m) (hm : m ≤ l.length) : takeL (l.take m) j = takeL l j := by
  have e1 : ¬ (l.take m).length < (j + 1) * 64 := by rw [List.length_take]; omega
  have e2 : ¬ l.length < (j + 1) * 64 := by omega
  unfold takeL
  rw [if_neg e1, if_neg e2, cut_take h]
theorem cells_next {ls : List (List Int)} {r : Nat} (hr : r < ls.length) : cellsA (ls.take (r + 1)) = cellsA (ls.take r) + manyL ls[r].length := by
  rw [List.take_succ_eq_append_getElem hr, cellsA_snoc]
theorem cells_mono {ls : List (List Int)} {a b : Nat} (h : a ≤ b) : cellsA (ls.take a) ≤ cellsA (ls.take b) := by
  have h1 : ls.take b = ls.take a ++ (ls.take b).drop a := by
    have h2 := (List.take_append_drop a (ls.take b)).symm
    rw [List.take_take, Nat.min_eq_left h] at h2
    exact h2
  rw [h1, cells_app]
  omega
/-- How many records are whole in the first m bytes. -/
structure Whole (ls : List (List Int)) (m r : Nat) : Prop where
  hr : r ≤ ls.length
  lo : cellsA (ls.take r) * 64 ≤ m
  hi : r < ls.length → m < cellsA (ls.take (r + 1)) * 64
theorem Whole.le {ls : List (List Int)} {m r a : Nat} (h : Whole ls m r) (h' : cellsA (ls.take a) * 64 ≤ m) (ha : a ≤ ls.length) : a ≤ r := by
  rcases Nat.lt_or_ge r a with hl | hl
  · have h1 := h.hi (by omega)
    have h2 := cells_mono (ls := ls) (a := r + 1) (b := a) (by omega)
    omega
  · exact hl
theorem halt_last {bs : List Int} {a n : Nat} (h : ∀ i, i < n → (takeL bs (a + i)).isSome = true) : haltB bs a (n + 1) = false := by
  rw [haltB, halt_no h, torn_no h]
  simp
structure Cutd (bs : List Int) (k0 : Nat) (out : List (List Int)) (j : Nat) : Prop where
  chain : chainL bs j = some (k0, out)
  ends : recordL bs k0 = none
  halt : haltB bs k0 (cutN bs - k0) = false
/-- A journal cut: the records that are whole. -/
theorem cut_ok {ls : List (List Int)} {m r : Nat} (hl : ∀ x ∈ ls, x.length ≤ 65536) (hc : cellsA ls < 16777216) (hm : m ≤ (allL ls).length) (h : Whole ls m r) : Cutd ((allL ls).take m) (cellsA (ls.take r)) (ls.take r) r ∧ ((allL ls).take m).take (cellsA (ls.take r) * 64) = allL (ls.take r) := by
  have hlen := allL_len ls
  have hlr := allL_len (ls.take r)
  obtain ⟨hr, lo, hi⟩ := h
  obtain ⟨rest, ha⟩ := all_app (ls.take r) (ls.drop r)
  rw [List.take_append_drop] at ha
  have hpre : ((allL ls).take m).take (cellsA (ls.take r) * 64) = allL (ls.take r) := by
    rw [List.take_take, Nat.min_eq_left lo, ha, ← hlr, List.take_left' rfl]
  have hcle := cells_mono (ls := ls) hr
  rw [List.take_length] at hcle
  have hsome : ∀ j, (j + 1) * 64 ≤ m → (takeL ((allL ls).take m) j).isSome = true := fun j hj => by
    obtain ⟨q, hq, q1, q2⟩ := cell_in (ls := ls) (c := j) (by omega)
    rw [take_take hj hm, show j = cellsA (ls.take q) + (j - cellsA (ls.take q)) by omega, take_all hq (by omega) hc]
    rfl
  refine ⟨⟨?_, ?_, ?_⟩, hpre⟩
  · have hch := chain_all (ls.take r) (fun x hx => hl x (List.mem_of_mem_take hx)) (by omega) (((allL ls).take m).drop (cellsA (ls.take r) * 64))
    rw [List.length_take, Nat.min_eq_left hr, ← hpre, List.take_append_drop] at hch
    exact hch
  · by_cases hrl : r < ls.length
    · have h1 := hi hrl
      rw [cells_next hrl] at h1
      refine rec_none (p := partL ls[r]) (i0 := m / 64 - cellsA (ls.take r)) (many := manyL ls[r].length) ?_ (by omega) (fun i hi => ?_)
      · refine take_out ?_
        rw [List.length_take]
        omega
      · rw [take_take (by omega) hm]
        exact take_all hrl (by omega) hc
    · refine rec_out ?_
      rw [List.length_take]
      have : ls.take r = ls := List.take_of_length_le (by omega)
      rw [this]
      omega
  · have hcut : cutN ((allL ls).take m) = (m + 63) / 64 := by
      unfold cutN
      rw [List.length_take, Nat.min_eq_left hm]
    rw [hcut]
    cases hn : (m + 63) / 64 - cellsA (ls.take r) with
    | zero => rfl
    | succ n =>
      exact halt_last fun i hi => hsome _ (by omega)
end Go.Proofs.YtocaabnbmcpjmaaGreat
/- A cell with a bit turned: is it right by its sum? And where a chain of records ends. -/
namespace Go.Proofs.YtocaabnbmcpjmaaGreat
open Go.RowKit Go.MapKept
attribute [local irreducible] Go.Calls Go.Exit.then Go.Exit.inBlock Go.bodyPost Go.Code.wp Go.wpList takeL recordL hashL recL allL
theorem xor_byte (x y : Int) : 0 ≤ bits .xor .u8 x y ∧ bits .xor .u8 x y < 256 := by
  have h : ∀ z : Int, 0 ≤ IntKind.u8.wrap z ∧ IntKind.u8.wrap z < 256 := fun z => by
    rw [IntKind.wrap_u8]
    omega
  unfold bits
  exact h _
theorem tbit_byte {x : Int} (k : Nat) : 0 ≤ tbit x k ∧ tbit x k < 256 := xor_byte x _
theorem turn_bytes {l : List Int} {k : Nat} (h : IsBytes l) : IsBytes (turnL l k) := by
  intro x hx
  unfold turnL at hx
  rcases List.mem_or_eq_of_mem_set hx with hx | hx
  · exact h x hx
  · rw [hx]
    exact tbit_byte k
theorem chain_ex {bs : List Int} (hb : IsBytes bs) : ∀ (n : Nat) {j k : Nat} {out : List (List Int)}, chainL bs j = some (k, out) → k * 64 ≤ bs.length → bs.length / 64 - k ≤ n → ∃ j k out, chainL bs j = some (k, out) ∧ recordL bs k = none ∧ k * 64 ≤ bs.length
  | n, j, k, out, hc, hk, hn => by
    cases hr : recordL bs k with
    | none => exact ⟨j, k, out, hc, hr, hk⟩
    | some p =>
      obtain ⟨x, m⟩ := p
      obtain ⟨h1, _, h2, _⟩ := recordL_some hr hb
      cases n with
      | zero => omega
      | succ n =>
        refine chain_ex hb n (j := j + 1) (k := k + m) (out := out ++ [x]) ?_ h2 (by omega)
        rw [chainL, hc]
        dsimp only
        rw [hr]
theorem LsV.take {K : List Fa} {R : Option Addr} {xs : List Bx} (h : LsV K R xs) {m : Nat} (hm : m ≤ xs.length) : LsV K R (xs.take m) := by
  refine ⟨fun w hw => ?_, fun x hx => h.el x (List.mem_of_mem_take hx)⟩
  have h1 := (h.vw w hw).take (k := m) hm
  rw [Nat.mul_one, ← List.map_take] at h1
  rw [List.length_take, Nat.min_eq_left hm]
  exact h1
end Go.Proofs.YtocaabnbmcpjmaaGreat
/- The shelf's contract of slices.Sort at strings, laid at this program (printed by the kit's lay-plain), and over facts. -/
namespace Go.Proofs.YtocaabnbmcpjmaaGreat
open Go.Shelf Go.Sort Go.RowKit
def lays190_ren : Go.Shelf.Ren := ⟨fun | 190 => 122 | 125 => 143 | 258 => 150 | 128 => 173 | 129 => 174 | 302 => 190 | 303 => 191 | 304 => 192 | 305 => 193 | 306 => 194 | 307 => 195 | 308 => 196 | 309 => 197 | 310 => 198 | 333 => 214 | 329 => 203 | 330 => 204 | 334 => 215 | 335 => 216 | 336 => 217 | 344 => 226 | n => n, fun | 31 => 112 | 9 => 9 | 3 => 3 | 46 => 221 | 0 => 0 | 51 => 26 | 53 => 36 | 4 => 4 | 183 => 239 | 182 => 238 | 131 => 170 | 5 => 5 | 218 => 261 | 222 => 265 | 228 => 279 | 229 => 280 | n => n, fun | n => n⟩
theorem lays190 : Go.Proofs.Lays.n190 Tryz.prog lays190_ren := {
  mixed := by kernel_rfl
  f125 := Tryz.func143.trans (congrArg some (by kernel_rfl))
  f128 := Tryz.func173.trans (congrArg some (by kernel_rfl))
  f129 := Tryz.func174.trans (congrArg some (by kernel_rfl))
  f190 := Tryz.func122.trans (congrArg some (by kernel_rfl))
  f258 := Tryz.func150.trans (congrArg some (by kernel_rfl))
  f302 := Tryz.func190.trans (congrArg some (by kernel_rfl))
  f303 := Tryz.func191.trans (congrArg some (by kernel_rfl))
  f304 := Tryz.func192.trans (congrArg some (by kernel_rfl))
  f305 := Tryz.func193.trans (congrArg some (by kernel_rfl))
  f306 := Tryz.func194.trans (congrArg some (by kernel_rfl))
  f307 := Tryz.func195.trans (congrArg some (by kernel_rfl))
  f308 := Tryz.func196.trans (congrArg some (by kernel_rfl))
  f309 := Tryz.func197.trans (congrArg some (by kernel_rfl))
  f310 := Tryz.func198.trans (congrArg some (by kernel_rfl))
  f329 := Tryz.func203.trans (congrArg some (by kernel_rfl))
  f330 := Tryz.func204.trans (congrArg some (by kernel_rfl))
  f333 := Tryz.func214.trans (congrArg some (by kernel_rfl))
  f334 := Tryz.func215.trans (congrArg some (by kernel_rfl))
  f335 := Tryz.func216.trans (congrArg some (by kernel_rfl))
  f336 := Tryz.func217.trans (congrArg some (by kernel_rfl))
  f344 := Tryz.func226.trans (congrArg some (by kernel_rfl))
  t0 := Tryz.underlying0
  a0 := Tryz.isAgg0
  z0 := Tryz.sizeOf0
  v0 := Tryz.zeroValue0
  t3 := Tryz.underlying3
  a3 := Tryz.isAgg3
  z3 := Tryz.sizeOf3
  v3 := Tryz.zeroValue3
  t4 := Tryz.underlying4
  a4 := Tryz.isAgg4
  z4 := Tryz.sizeOf4
  v4 := Tryz.zeroValue4
  t5 := Tryz.underlying5
  a5 := Tryz.isAgg5
  z5 := Tryz.sizeOf5
  v5 := Tryz.zeroValue5
  t9 := Tryz.underlying9
  a9 := Tryz.isAgg9
  z9 := Tryz.sizeOf9
  v9 := Tryz.zeroValue9
  t31 := Tryz.underlying112
  a31 := Tryz.isAgg112
  z31 := Tryz.sizeOf112
  v31 := Tryz.zeroValue112
  t46 := Tryz.underlying221
  a46 := Tryz.isAgg221
  z46 := Tryz.sizeOf221
  v46 := Tryz.zeroValue221
  t51 := Tryz.underlying26
  a51 := Tryz.isAgg26
  z51 := Tryz.sizeOf26
  v51 := Tryz.zeroValue26
  t53 := Tryz.underlying36
  a53 := Tryz.isAgg36
  z53 := Tryz.sizeOf36
  v53 := Tryz.zeroValue36
  t131 := Tryz.underlying170
  a131 := Tryz.isAgg170
  z131 := Tryz.sizeOf170
  v131 := Tryz.zeroValue170
  t182 := Tryz.underlying238
  a182 := Tryz.isAgg238
  z182 := Tryz.sizeOf238
  v182 := Tryz.zeroValue238
  t183 := Tryz.underlying239
  a183 := Tryz.isAgg239
  z183 := Tryz.sizeOf239
  v183 := Tryz.zeroValue239
  t218 := Tryz.underlying261
  a218 := Tryz.isAgg261
  z218 := Tryz.sizeOf261
  v218 := Tryz.zeroValue261
  t222 := Tryz.underlying265
  a222 := Tryz.isAgg265
  z222 := Tryz.sizeOf265
  v222 := Tryz.zeroValue265
  t228 := Tryz.underlying279
  a228 := Tryz.isAgg279
  z228 := Tryz.sizeOf279
  v228 := Tryz.zeroValue279
  t229 := Tryz.underlying280
  a229 := Tryz.isAgg280
  z229 := Tryz.sizeOf280
  v229 := Tryz.zeroValue280 }
theorem sorts_ok {K : List Fa} {A : Option Addr} {c : Nat} {ss : List (List UInt8)} (hn : ss.length ≤ 1000000) :
    Fn Tryz.prog 122 #[.slice A ss.length c] (own 9 1 A ss.length c (ss.map encStr) :: K) (Ret (fun _ : Unit => True) (fun _ => .tuple #[]) (fun _ => own 9 1 A ss.length c ((ss.mergeSort fun x y => decide (x ≤ y)).map encStr) :: K)) := by
  rcases Nat.eq_zero_or_pos ss.length with h0 | h0
  · obtain rfl : ss = [] := List.eq_nil_of_length_eq_zero h0
    unfold Fn
    intro w hw
    refine (Any.slices_Sort_string_none lays190 A c w).mono ?_
    rintro x w' ⟨rfl, rfl⟩
    refine ⟨(), trivial, rfl, ?_⟩
    simpa using hw
  · unfold Fn
    intro w hw
    obtain ⟨g, cap, hv, _, _⟩ := World.ownsRow.form (show w.ownsRow 0 9 1 (.slice A ss.length c) ss.length (ss.map encStr) from by have := hw.hd; unfold own at this; exact this) h0
    obtain rfl : A = some ⟨g, 0, none⟩ := by injection hv
    have h1 : (ss.map encStr) = ss.toArray.toList.map encStr := by simp
    rw [h1] at hw
    obtain ⟨hH, hg, _, _, hS⟩ := sep_sorted hw
    refine (Any.slices_Sort_string lays190 g 0 c ss w hH hg (by omega)).mono ?_
    rintro x w' ⟨rfl, m, os, rfl⟩
    refine ⟨(), trivial, rfl, ?_⟩
    have h2 := hS (ss.mergeSort fun x y => decide (x ≤ y)).toArray m os (by simp)
    simpa [sortWorld] using h2
end Go.Proofs.YtocaabnbmcpjmaaGreat
