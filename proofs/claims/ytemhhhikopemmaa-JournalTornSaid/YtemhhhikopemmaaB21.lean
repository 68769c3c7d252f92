/- Several texts of one claim, one behind the other (Je, Jh, Dkt). -/
import Derived.Test.YtemhhhikopemmaaB18
import Derived.Test.YtemhhhikopemmaaB15
import Derived.Test.YtemhhhikopemmaaB19
import Derived.Test.YtemhhhikopemmaaB20
/- JournalErrors: its walk. -/
namespace Go.Proofs.Ytemhhhikopemmaa
open Go.RowKit Go.MapKept
attribute [local irreducible] Go.Calls Go.Exit.then Go.Exit.inBlock Go.bodyPost Go.Code.wp Go.wpList takeL recordL hashL recL allL
def sj : ByteArray := ⟨#[106]⟩
abbrev jB (gj g : Nat) (s : ByteArray) : Fa := blk gj 91 [.pointer (some ⟨g, 0, none⟩), .string s, .int .i64 0]
theorem nohas {s : ByteArray} : ¬ DHas [] s := fun ⟨_, h, _⟩ => by cases h
structure Oj where
  gj : Nat
  R : Option Addr
  c : Nat
theorem LyA_long {K : List Fa} {bs : List Int} (h : 65536 < bs.length) : LyA K 0 bs = Ret (fun _ : Unit => True) (fun _ => .tuple #[.slice none 0 0, .int .i64 4]) (fun _ => K) := by
  unfold LyA
  rw [if_neg (by decide), if_pos h]
theorem LyA_zero {K : List Fa} {bs : List Int} (h : bs.length ≤ 65536) : LyA K 0 bs = Ret (fun _ : Option Addr × Nat => True) (fun q => .tuple #[.slice q.1 (recL 0 bs).length q.2, .int .i64 0]) (fun q => u8o q.1 q.2 (recL 0 bs) :: K) := by
  unfold LyA
  rw [if_neg (by decide), if_neg (by omega)]
  rfl
theorem many_pos (n : Nat) : 1 ≤ manyL n := by
  unfold manyL
  omega
theorem nth_Je {φ : Prop} (h : φ := by (first | rfl | assumption)) : φ := h
theorem mid_Je {φ : Prop} (h : φ := by (first | exact Mid.all | exact Mid.all | exact Mid.head)) : φ := h
theorem sz_Je {φ : Prop} (h : φ := by (first | rfl | (rfl; first | done | fail))) : φ := h
theorem one_Je {φ : Prop} (h : φ := by (first | assumption | exact first | exact one_bytes _ | exact ff_one | (simp only [List.mem_cons, List.not_mem_nil, or_false, forall_eq_or_imp, forall_eq]; decide) | exact one_bytes _)) : φ := h
theorem set_Je {φ : Prop} (h : φ := by (first | (fail) | ((repeat (first | exact SetAt.here | apply SetAt.there)); first | done | fail))) : φ := h
theorem cl_Je {φ : Prop} (h : φ := by first | rfl | exact .t | exact .f | exact .t (by omega) | exact .f (by omega) | exact .u | exact .i (by (first | exact .t (by omega) | exact .f (by omega) | exact .u | exact .i (by omega) | exact .v (by omega) | exact .b (by omega) | exact .w | rfl | omega)) | exact .v (by omega) | exact .b (by omega) | exact .q (by omega) | exact .w | exact .b (by exact at_) rfl (by exact nth_Je) | exact .w (by exact at_) rfl rfl (by exact sz_Je) | exact .s (by exact at_) (by exact mid_Je) rfl rfl (by exact sz_Je) | exact .z rfl rfl ⟨by kernel_rfl⟩ | exact .b rfl rfl ⟨by kernel_rfl⟩ | exact .a rfl rfl ⟨by kernel_rfl⟩ | exact .o rfl | exact .s | exact .n | exact .p rfl | exact .q rfl | exact .c rfl | exact .d rfl | exact .n rfl rfl (by omega) | exact .a rfl rfl (by omega) | exact .p rfl rfl (by omega) (by omega) | exact .y rfl rfl (by omega) (by omega) | exact .o (by exact at_) (by omega) rfl (by exact nth_Je) | exact .m (by exact at_) (by omega) (by exact mid_Je) rfl rfl (by exact sz_Je) | exact .mlen (by exact at_) rfl | exact .t (by exact at_) rfl rfl (by first | exact True.intro | rfl) (by assumption) | exact .f (by exact at_) rfl rfl (by first | exact True.intro | rfl) (by assumption) rfl | exact .t1 (by exact at_) rfl rfl (by first | exact True.intro | rfl) (by assumption) | exact .f1 (by exact at_) rfl rfl (by first | exact True.intro | rfl) (by assumption) rfl | exact .r rfl rfl (by omega) (by omega) (by exact nth_Je) rfl | exact .s rfl (by omega) (by assumption) | exact at_ | assumption | exact .r rfl rfl | exact .h rfl rfl rfl (by omega) | exact .l rfl rfl rfl (by omega) (by omega) | exact .g rfl rfl rfl rfl (by omega) (by omega) | exact .h rfl rfl (toN_ (by omega)) (by omega) | exact .l rfl rfl (toN_ (by omega)) (by omega) (by omega) | exact .g rfl rfl (toN_ (by omega)) (toN_ (by omega)) (by omega) (by omega) | exact .o (by decide) | exact .f (by decide) | exact .n (by omega) (by first | decide | (show _ ≤ ((64 : Nat) : Int); omega)) | (constructor; (repeat (first | exact .t (by omega) | exact .f (by omega) | exact .u | exact .i (by omega) | exact .v (by omega) | exact .b (by omega) | exact .w | rfl | omega)); first | done | fail) | omega | (show _ ≤ ((64 : Nat) : Int); omega)) : φ := h
theorem pv_Je {φ : Prop} (h : φ := by constructor; (repeat exact cl_Je); first | done | fail) : φ := h
theorem su_Je {φ ψ : Prop} (k : ψ) (h : Hide ψ → φ := by (intro k; (first | refine sl_pu (PuI.sep (by exact pv_Je)) rfl ?_ | refine sl_yes rfl rfl ?_ | refine sl_no rfl rfl rfl ?_ | refine sl_off rfl rfl rfl ?_ | (fail)); exact k.out)) : φ := h ⟨k⟩
theorem rq_Je {φ ψ : Prop} (k : ψ) (h : Hide ψ → φ := by (intro k; (first | refine wq_pu (PuI.sep (by exact pv_Je)) rfl ?_ | refine wq_yes rfl rfl ?_ | refine wq_no rfl rfl rfl ?_ | refine wq_off rfl rfl rfl ?_ | (fail)); exact k.out)) : φ := h ⟨k⟩
theorem sto_Je {φ ψ : Prop} (k : ψ) (h : Hide ψ → φ := by (intro k; (first | refine sl_store rfl (by exact pick_) rfl rfl (by kernel_rfl) (by exact set_Je) ?_ | refine sl_store_whole rfl (by exact pick_) rfl (by exact sz_Je) (by exact sz_Je) (by exact one_Je) ?_); exact k.out)) : φ := h ⟨k⟩
theorem go_Je {φ ψ : Prop} (k : ψ) (h : Hide ψ → φ := by (intro k; (repeat (first | refine su_Je ?_ | refine so_ ?_ | refine sto_Je ?_)); exact k.out)) : φ := h ⟨k⟩
set_option maxRecDepth 100000 in
theorem loose_no {K : List Fa} {g m ck : Nat} {lim : Int} {fs : List DF} {s : ByteArray} (hB : At (dB g m lim) K) (hM : At (dM m fs ck) K) (hf : ¬ DHas fs s) :
    Fn Try.prog 32 #[.pointer (some ⟨g, 0, none⟩), .string s] K (Ret (fun _ : Unit => True) (fun _ => .int .i64 0) (fun _ => K)) := by
  refine fn_enter Try.func32 rfl _ Try.ntmps32 (by simp) [(0, .pointer (some ⟨g, 0, none⟩)), (1, .string s)] (args_of (by simp)) ?_
  refine go_Je ?_
  refine sl_call rfl rfl (by kernel_rfl) rfl Sub.refl (has_no hB hM hf) ?_
  rintro _ -
  refine go_Je ?_
  exact se_ret1 () trivial rfl rfl (by exact sub_)
set_option maxRecDepth 100000 in
theorem open_nilJ {K : List Fa} {s : ByteArray} : Fn Try.prog 22 #[.pointer none, .string s] K (Ret (fun _ : Unit => True) (fun _ => .tuple #[.pointer none, .slice none 0 0, .int .i64 1]) (fun _ => K)) := by
  refine fn_enter Try.func22 rfl _ Try.ntmps22 (by simp) [(0, .pointer none), (1, .string s)] (args_of (by simp)) ?_
  refine go_Je ?_
  exact se_ret3 () trivial rfl rfl rfl rfl rfl (by exact sub_)
set_option maxRecDepth 100000 in
set_option maxHeartbeats 2000000 in
theorem open_new {K : List Fa} {g m : Nat} {lim : Int} {s : ByteArray} :
    Fn Try.prog 22 #[.pointer (some ⟨g, 0, none⟩), .string s] (dB g m lim :: dM m [] 0 :: dS [] :: K) (Ret (fun _ : Oj => True) (fun q => .tuple #[.pointer (some ⟨q.gj, 0, none⟩), .slice q.R 0 q.c, .int .i64 0]) (fun q => jB q.gj g s :: dB g m lim :: dM m [] 0 :: dS [] :: K)) := by
  refine fn_enter Try.func22 rfl _ Try.ntmps22 (by simp) [(0, .pointer (some ⟨g, 0, none⟩)), (1, .string s)] (args_of (by simp)) ?_
  refine go_Je ?_
  refine sl_call rfl rfl (by kernel_rfl) rfl Sub.refl (readD_no (fs := []) (m := m) (ck := 0) (lim := lim) (by exact at_) (by exact at_) nohas) ?_
  rintro _ -
  refine go_Je ?_
  have hsc := scan_ok (K := dB g m lim :: dM m [] 0 :: dS [] :: K) (A := none) (n := 0) (c := 0) (j0 := 0) (k0 := 0) (bs := []) (out0 := []) ⟨fun w _ => Reads.nil_ _, Nat.le_refl _, by decide, Nat.zero_le _, rfl, fun _ h => by cases h⟩ (by decide) rfl (rec_out (by decide))
  rw [show haltB [] 0 (cutN [] - 0) = false from rfl, ScA_yes] at hsc
  refine sl_call rfl rfl (by kernel_rfl) rfl Sub.refl hsc ?_
  rintro ⟨xs, R, c⟩ ⟨hxs, -⟩
  obtain rfl : xs = [] := List.map_eq_nil_iff.1 hxs
  dsimp only
  refine sl_sub (L' := dB g m lim :: dM m [] 0 :: dS [] :: K) ?_ ?_
  · exact Sub.skip (Sub.skip Sub.refl)
  refine go_Je ?_
  refine sl_pu (pu_build (v := .agg #[.pointer (some ⟨g, 0, none⟩), .string s, .int .i64 0]) rfl (fun W => by kernel_rfl)) rfl ?_
  refine sl_box rfl rfl rfl ?_; intro gj
  refine go_Je ?_
  exact se_ret3 ⟨gj, R, c⟩ trivial rfl rfl rfl rfl rfl (by exact sub_)
set_option maxRecDepth 100000 in
theorem app_nilJ {K : List Fa} {v : Value} : Fn Try.prog 24 #[.pointer none, v] K (Ret (fun _ : Unit => True) (fun _ => .int .i64 1) (fun _ => K)) := by
  refine fn_enter Try.func24 rfl _ Try.ntmps24 (by simp) [(0, .pointer none), (1, v)] (args_of (by simp)) ?_
  refine go_Je ?_
  exact se_ret1 () trivial rfl rfl (by exact sub_)
set_option maxRecDepth 100000 in
theorem sync_nilJ {K : List Fa} : Fn Try.prog 25 #[.pointer none] K (Ret (fun _ : Unit => True) (fun _ => .int .i64 1) (fun _ => K)) := by
  refine fn_enter Try.func25 rfl _ Try.ntmps25 (by simp) [(0, .pointer none)] (args_of (by simp)) ?_
  refine go_Je ?_
  exact se_ret1 () trivial rfl rfl (by exact sub_)
set_option maxRecDepth 100000 in
theorem cells_nilJ {K : List Fa} : Fn Try.prog 26 #[.pointer none] K (Ret (fun _ : Unit => True) (fun _ => .int .i64 0) (fun _ => K)) := by
  refine fn_enter Try.func26 rfl _ Try.ntmps26 (by simp) [(0, .pointer none)] (args_of (by simp)) ?_
  refine go_Je ?_
  exact se_ret1 () trivial rfl rfl (by exact sub_)
set_option maxRecDepth 100000 in
theorem cells_J {K : List Fa} {gj g : Nat} {s : ByteArray} (hj : At (jB gj g s) K) : Fn Try.prog 26 #[.pointer (some ⟨gj, 0, none⟩)] K (Ret (fun _ : Unit => True) (fun _ => .int .i64 0) (fun _ => K)) := by
  refine fn_enter Try.func26 rfl _ Try.ntmps26 (by simp) [(0, .pointer (some ⟨gj, 0, none⟩))] (args_of (by simp)) ?_
  refine go_Je ?_
  exact se_ret1 () trivial rfl rfl (by exact sub_)
set_option maxRecDepth 100000 in
set_option maxHeartbeats 2000000 in
theorem sync_J {K : List Fa} {gj g m : Nat} {lim : Int} {s : ByteArray} (hj : At (jB gj g s) K) (hB : At (dB g m lim) K) (hM : At (dM m [] 0) K) : Fn Try.prog 25 #[.pointer (some ⟨gj, 0, none⟩)] K (Ret (fun _ : Unit => True) (fun _ => .int .i64 0) (fun _ => K)) := by
  refine fn_enter Try.func25 rfl _ Try.ntmps25 (by simp) [(0, .pointer (some ⟨gj, 0, none⟩))] (args_of (by simp)) ?_
  refine go_Je ?_
  refine sd_drawn (fun W => AllP W [jB gj g s]) (fun _ => true) (by kernel_rfl) 10 rfl ?_
  refine sd_yes2 0 rfl (by exact gd_) (by kernel_rfl) (by kernel_rfl) (by exact nop_) (PuI.all (by exact pv_Je)) rfl (fun w hw => all_ hw) ?_
  refine sd_yes2 1 rfl (by exact gd_) (by kernel_rfl) (by kernel_rfl) (by exact nop_) (PuI.all (by exact pv_Je)) rfl (fun w hw => all_ hw) ?_
  refine sd_yes2 2 rfl (by exact gd_) (by kernel_rfl) (by kernel_rfl) (by exact nop_) (PuI.all (by exact pv_Je)) rfl (fun w hw => all_ hw) ?_
  refine sd_yes2 3 rfl (by exact gd_) (by kernel_rfl) (by kernel_rfl) (by exact nop_) (PuI.all (by exact pv_Je)) rfl (fun w hw => all_ hw) ?_
  refine sd_yes2 4 rfl (by exact gd_) (by kernel_rfl) (by kernel_rfl) (by exact nop_) (PuI.all (by exact pv_Je)) rfl (fun w hw => all_ hw) ?_
  refine sd_yes2 5 rfl (by exact gd_) (by kernel_rfl) (by kernel_rfl) (by exact nop_) (PuI.all (by exact pv_Je)) rfl (fun w hw => all_ hw) ?_
  refine sd_yes2 6 rfl (by exact gd_) (by kernel_rfl) (by kernel_rfl) (by exact nop_) (PuI.all (by exact pv_Je)) rfl (fun w hw => all_ hw) ?_
  refine sd_yes2 7 rfl (by exact gd_) (by kernel_rfl) (by kernel_rfl) (by exact nop_) (PuI.all (by exact pv_Je)) rfl (fun w hw => all_ hw) ?_
  refine sd_one 8 (by kernel_rfl) (sa_sl 8 rfl ?_)
  refine sl_call rfl rfl (by kernel_rfl) rfl Sub.refl (loose_no hB hM nohas) ?_
  rintro _ -
  refine sl_nil ?_
  refine se_sd (fun _ w hw => all_ hw) ?_
  refine sd_yes2 9 rfl (by exact gd_) (by kernel_rfl) (by kernel_rfl) (by exact nop_) (PuI.all (by exact pv_Je)) rfl (fun w hw => all_ hw) ?_
  refine sd_done (by kernel_rfl) ?_
  refine go_Je ?_
  exact se_ret1 () trivial rfl rfl (by exact sub_)
set_option maxRecDepth 100000 in
set_option maxHeartbeats 2000000 in
theorem app_long {K : List Fa} {gj g : Nat} {s : ByteArray} {A : Option Addr} {n c : Nat} {bs : List Int} (hj : At (jB gj g s) K) (h : Rd K A n c bs) (hl : 65536 < bs.length) : Fn Try.prog 24 #[.pointer (some ⟨gj, 0, none⟩), .slice A n c] K (Ret (fun _ : Unit => True) (fun _ => .int .i64 4) (fun _ => K)) := by
  refine fn_enter Try.func24 rfl _ Try.ntmps24 (by simp) [(0, .pointer (some ⟨gj, 0, none⟩)), (1, .slice A n c)] (args_of (by simp)) ?_
  have hly := Lay_ok (number := 0) h (by decide)
  rw [LyA_long hl] at hly
  refine go_Je ?_
  refine sl_call rfl rfl (by kernel_rfl) rfl Sub.refl hly ?_
  rintro _ -
  refine go_Je ?_
  exact se_ret1 () trivial rfl rfl (by exact sub_)
set_option maxRecDepth 100000 in
set_option maxHeartbeats 2000000 in
theorem app_full {K : List Fa} {gj g m : Nat} {A : Option Addr} {n c : Nat} {bs : List Int} (hj : At (jB gj g sj) K) (hB : At (dB g m 63) K) (hM : At (dM m [] 0) K) (h : Rd K A n c bs) (hl : bs.length ≤ 200) : Fn Try.prog 24 #[.pointer (some ⟨gj, 0, none⟩), .slice A n c] K (Ret (fun _ : Unit => True) (fun _ => .int .i64 18) (fun _ => K)) := by
  refine fn_enter Try.func24 rfl _ Try.ntmps24 (by simp) [(0, .pointer (some ⟨gj, 0, none⟩)), (1, .slice A n c)] (args_of (by simp)) ?_
  have hly := Lay_ok (number := 0) h (by decide)
  rw [LyA_zero (by omega)] at hly
  have hlen := recL_len (k := 0) (bs := bs)
  have hm1 := many_pos bs.length
  have hm2 : manyL bs.length ≤ 10000 := by unfold manyL; omega
  refine go_Je ?_
  refine sl_call rfl rfl (by kernel_rfl) rfl Sub.refl hly ?_
  rintro ⟨A1, c1⟩ -
  dsimp only
  refine go_Je ?_
  refine sd_drawn (fun W => AllP W [jB gj g sj]) (fun _ => true) (by kernel_rfl) 11 rfl ?_
  refine sd_yes2 0 rfl (by exact gd_) (by kernel_rfl) (by kernel_rfl) (by exact nop_) (PuI.all (by exact pv_Je)) rfl (fun w hw => all_ hw) ?_
  refine sd_yes2 1 rfl (by exact gd_) (by kernel_rfl) (by kernel_rfl) (by exact nop_) (PuI.all (by exact pv_Je)) rfl (fun w hw => all_ hw) ?_
  refine sd_yes2 2 rfl (by exact gd_) (by kernel_rfl) (by kernel_rfl) (by exact nop_) (PuI.all (by exact pv_Je)) rfl (fun w hw => all_ hw) ?_
  refine sd_yes2 3 rfl (by exact gd_) (by kernel_rfl) (by kernel_rfl) (by exact nop_) (PuI.all (by exact pv_Je)) rfl (fun w hw => all_ hw) ?_
  refine sd_yes2 4 rfl (by exact gd_) (by kernel_rfl) (by kernel_rfl) (by exact nop_) (PuI.all (by exact pv_Je)) rfl (fun w hw => all_ hw) ?_
  refine sd_yes2 5 rfl (by exact gd_) (by kernel_rfl) (by kernel_rfl) (by exact nop_) (PuI.all (by exact pv_Je)) rfl (fun w hw => all_ hw) ?_
  refine sd_yes2 6 rfl (by exact gd_) (by kernel_rfl) (by kernel_rfl) (by exact nop_) (PuI.all (by exact pv_Je)) rfl (fun w hw => all_ hw) ?_
  refine sd_yes2 7 rfl (by exact gd_) (by kernel_rfl) (by kernel_rfl) (by exact nop_) (PuI.all (by exact pv_Je)) rfl (fun w hw => all_ hw) ?_
  refine sd_yes2 8 rfl (by exact gd_) (by kernel_rfl) (by kernel_rfl) (by exact nop_) (PuI.all (by exact pv_Je)) rfl (fun w hw => all_ hw) ?_
  refine sd_one 9 (by kernel_rfl) (sa_sl 9 rfl ?_)
  refine sl_call rfl rfl (by kernel_rfl) rfl Sub.refl (appD_full (s := sj) (fs := []) (m := m) (ck := 0) (lim := 63) (.there hB) (.there hM) (by decide) (by decide) (.inr ⟨nohas, by decide⟩) (by decide) (by decide) (by omega) (by simp [usedN]; omega)) ?_
  rintro _ -
  refine sl_nil ?_
  refine se_sd (fun _ w hw => all_ hw) ?_
  refine sd_yes2 10 rfl (by exact gd_) (by kernel_rfl) (by kernel_rfl) (by exact nop_) (PuI.all (by exact pv_Je)) rfl (fun w hw => all_ hw) ?_
  refine sd_done (by kernel_rfl) ?_
  refine go_Je ?_
  exact se_ret1 () trivial rfl rfl (by exact sub_)
set_option maxRecDepth 100000 in
set_option maxHeartbeats 4000000 in
theorem lawErrs_ok {K : List Fa} {o : Nat} {A : Option Addr} {n c : Nat} {bs : List Int} (ho : o ≤ 255) (h : n ≤ 200 → Rd K A n c bs) (hbn : bs.length = n) (hn : n ≤ 9223372036854775807) :
    Fn Try.prog 5 #[.int .u8 o, .slice A n c] K (Ret (fun _ : Unit => True) (fun _ => .bool true) (fun _ => K)) := by
  refine fn_enter Try.func5 rfl _ Try.ntmps5 (by simp) [(0, .int .u8 o), (1, .slice A n c)] (args_of (by simp)) ?_
  refine go_Je ?_
  refine sl_call rfl rfl (by kernel_rfl) rfl Sub.refl awake17 ?_
  rintro _ -
  by_cases h200 : 200 < n
  · refine go_Je ?_
    exact se_ret1 () trivial rfl rfl (by exact sub_)
  have hrd := h (by omega)
  refine go_Je ?_
  rw [show (65537 : Int) + (o : Int) = ((65537 + o : Nat) : Int) by omega]
  refine sl_make (lo := .tmp 23) (i := default) (k := 65537 + o) (c := 65537 + o) (bytes := 1) (size := 1) (z := .int .u8 0) (e := 5) rfl rfl rfl (by kernel_rfl) (Nat.le_refl _) (by omega) (by unfold maxLen; omega) rfl ?_
  intro gz
  rw [made_u8 (65537 + o) (65537 + o) (Nat.le_refl _)]
  have hz : Rd (own 5 1 (some ⟨gz, 0, none⟩) (65537 + o) (65537 + o) (bytes (zs (65537 + o))) :: K) (some ⟨gz, 0, none⟩) (65537 + o) (65537 + o) (zs (65537 + o)) := ⟨Vw.of_own (e := 5) .here, Nat.le_refl _, by omega, by unfold maxLen; omega, zs_len, zs_bytes⟩
  have hly := Lay_ok (number := 0) hz (by decide)
  rw [LyA_long (by rw [zs_len]; omega)] at hly
  refine go_Je ?_
  refine sl_call rfl rfl (by kernel_rfl) rfl Sub.refl hly ?_
  rintro _ -
  refine go_Je ?_
  refine sl_call rfl rfl (by kernel_rfl) rfl Sub.refl open_nilJ ?_
  rintro _ -
  refine go_Je ?_
  refine sl_call rfl rfl (by kernel_rfl) rfl Sub.refl newD_ok ?_
  rintro ⟨g, m⟩ -
  dsimp only
  rw [show limL 63 = 63 by rfl]
  refine go_Je ?_
  refine sl_call rfl rfl (by kernel_rfl) rfl Sub.refl (open_new (s := sj) (g := g) (m := m) (lim := 63)) ?_
  rintro ⟨gj, R, cR⟩ -
  dsimp only
  refine go_Je ?_
  refine sl_call rfl rfl (by kernel_rfl) rfl Sub.refl app_nilJ ?_
  rintro _ -
  refine go_Je ?_
  refine sl_call rfl rfl (by kernel_rfl) rfl Sub.refl sync_nilJ ?_
  rintro _ -
  refine go_Je ?_
  refine sl_call rfl rfl (by kernel_rfl) rfl Sub.refl cells_nilJ ?_
  rintro _ -
  refine go_Je ?_
  refine sl_call rfl rfl (by kernel_rfl) rfl Sub.refl (app_long (gj := gj) (g := g) (s := sj) (by exact at_) (hz.mono (by exact sub_)) (by rw [zs_len]; omega)) ?_
  rintro _ -
  refine go_Je ?_
  refine sl_call rfl rfl (by kernel_rfl) rfl Sub.refl (app_full (gj := gj) (g := g) (m := m) (by exact at_) (by exact at_) (by exact at_) (hrd.mono (by exact sub_)) (by omega)) ?_
  rintro _ -
  refine go_Je ?_
  refine sl_call rfl rfl (by kernel_rfl) rfl Sub.refl (cells_J (gj := gj) (g := g) (s := sj) (by exact at_)) ?_
  rintro _ -
  refine go_Je ?_
  refine sl_call rfl rfl (by kernel_rfl) rfl Sub.refl (sync_J (gj := gj) (g := g) (m := m) (lim := 63) (s := sj) (by exact at_) (by exact at_) (by exact at_)) ?_
  rintro _ -
  refine go_Je ?_
  exact se_ret1 () trivial rfl rfl (by exact sub_)
end Go.Proofs.Ytemhhhikopemmaa
/- A journal opened: Open's walk at a file that is there. -/
namespace Go.Proofs.Ytemhhhikopemmaa
open Go.RowKit Go.MapKept
attribute [local irreducible] Go.Calls Go.Exit.then Go.Exit.inBlock Go.bodyPost Go.Code.wp Go.wpList takeL recordL hashL recL allL
abbrev jC (gj g : Nat) (s : ByteArray) (n : Nat) : Fa := blk gj 91 [.pointer (some ⟨g, 0, none⟩), .string s, .int .i64 n]
structure Ok where
  gj : Nat
  q : SRow
  f : DF
theorem nth_Jh {φ : Prop} (h : φ := by (first | rfl | assumption)) : φ := h
theorem mid_Jh {φ : Prop} (h : φ := by (first | exact Mid.all | exact Mid.all | exact Mid.head)) : φ := h
theorem sz_Jh {φ : Prop} (h : φ := by (first | rfl | (rfl; first | done | fail))) : φ := h
theorem one_Jh {φ : Prop} (h : φ := by (first | assumption | exact first | exact one_bytes _ | exact ff_one | (simp only [List.mem_cons, List.not_mem_nil, or_false, forall_eq_or_imp, forall_eq]; decide) | exact one_bytes _)) : φ := h
theorem set_Jh {φ : Prop} (h : φ := by (first | (fail) | ((repeat (first | exact SetAt.here | apply SetAt.there)); first | done | fail))) : φ := h
theorem cl_Jh {φ : Prop} (h : φ := by first | rfl | exact .t | exact .f | exact .t (by omega) | exact .f (by omega) | exact .u | exact .i (by (first | exact .t (by omega) | exact .f (by omega) | exact .u | exact .i (by omega) | exact .v (by omega) | exact .b (by omega) | exact .w | rfl | omega)) | exact .v (by omega) | exact .b (by omega) | exact .q (by omega) | exact .w | exact .b (by exact at_) rfl (by exact nth_Jh) | exact .w (by exact at_) rfl rfl (by exact sz_Jh) | exact .s (by exact at_) (by exact mid_Jh) rfl rfl (by exact sz_Jh) | exact .z rfl rfl ⟨by kernel_rfl⟩ | exact .b rfl rfl ⟨by kernel_rfl⟩ | exact .a rfl rfl ⟨by kernel_rfl⟩ | exact .o rfl | exact .s | exact .n | exact .p rfl | exact .q rfl | exact .c rfl | exact .d rfl | exact .n rfl rfl (by omega) | exact .a rfl rfl (by omega) | exact .p rfl rfl (by omega) (by omega) | exact .y rfl rfl (by omega) (by omega) | exact .o (by exact at_) (by omega) rfl (by exact nth_Jh) | exact .m (by exact at_) (by omega) (by exact mid_Jh) rfl rfl (by exact sz_Jh) | exact .mlen (by exact at_) rfl | exact .t (by exact at_) rfl rfl (by first | exact True.intro | rfl) (by assumption) | exact .f (by exact at_) rfl rfl (by first | exact True.intro | rfl) (by assumption) rfl | exact .t1 (by exact at_) rfl rfl (by first | exact True.intro | rfl) (by assumption) | exact .f1 (by exact at_) rfl rfl (by first | exact True.intro | rfl) (by assumption) rfl | exact .r rfl rfl (by omega) (by omega) (by exact nth_Jh) rfl | exact .s rfl (by omega) (by assumption) | exact at_ | assumption | exact .r rfl rfl | exact .h rfl rfl rfl (by omega) | exact .l rfl rfl rfl (by omega) (by omega) | exact .g rfl rfl rfl rfl (by omega) (by omega) | exact .h rfl rfl (toN_ (by omega)) (by omega) | exact .l rfl rfl (toN_ (by omega)) (by omega) (by omega) | exact .g rfl rfl (toN_ (by omega)) (toN_ (by omega)) (by omega) (by omega) | exact .o (by decide) | exact .f (by decide) | exact .n (by omega) (by first | decide | (show _ ≤ ((64 : Nat) : Int); omega)) | (constructor; (repeat (first | exact .t (by omega) | exact .f (by omega) | exact .u | exact .i (by omega) | exact .v (by omega) | exact .b (by omega) | exact .w | rfl | omega)); first | done | fail) | omega | (show _ ≤ ((64 : Nat) : Int); omega)) : φ := h
theorem pv_Jh {φ : Prop} (h : φ := by constructor; (repeat exact cl_Jh); first | done | fail) : φ := h
theorem su_Jh {φ ψ : Prop} (k : ψ) (h : Hide ψ → φ := by (intro k; (first | refine sl_pu (PuI.sep (by exact pv_Jh)) rfl ?_ | refine sl_yes rfl rfl ?_ | refine sl_no rfl rfl rfl ?_ | refine sl_off rfl rfl rfl ?_ | (fail)); exact k.out)) : φ := h ⟨k⟩
theorem rq_Jh {φ ψ : Prop} (k : ψ) (h : Hide ψ → φ := by (intro k; (first | refine wq_pu (PuI.sep (by exact pv_Jh)) rfl ?_ | refine wq_yes rfl rfl ?_ | refine wq_no rfl rfl rfl ?_ | refine wq_off rfl rfl rfl ?_ | (fail)); exact k.out)) : φ := h ⟨k⟩
theorem sto_Jh {φ ψ : Prop} (k : ψ) (h : Hide ψ → φ := by (intro k; (first | refine sl_store rfl (by exact pick_) rfl rfl (by kernel_rfl) (by exact set_Jh) ?_ | refine sl_store_whole rfl (by exact pick_) rfl (by exact sz_Jh) (by exact sz_Jh) (by exact one_Jh) ?_); exact k.out)) : φ := h ⟨k⟩
theorem go_Jh {φ ψ : Prop} (k : ψ) (h : Hide ψ → φ := by (intro k; (repeat (first | refine su_Jh ?_ | refine so_ ?_ | refine sto_Jh ?_)); exact k.out)) : φ := h ⟨k⟩
set_option maxRecDepth 100000 in
set_option maxHeartbeats 2000000 in
theorem open_halt {K : List Fa} {g m ck j0 k0 : Nat} {lim : Int} {f : DF} {out0 : List (List Int)} (hn : f.l.length ≤ 1048576) (hob : IsBytes f.l) (hc0 : chainL f.l j0 = some (k0, out0)) (he0 : recordL f.l k0 = none) (hh : haltB f.l k0 (cutN f.l - k0) = true) :
    Fn Try.prog 22 #[.pointer (some ⟨g, 0, none⟩), .string f.s] (dB g m lim :: dM m [f] ck :: dS [f] :: K) (Ret (fun _ : Unit => True) (fun _ => .tuple #[.pointer none, .slice none 0 0, .int .i64 23]) (fun _ => dB g m lim :: dM m [f] ck :: dS [f] :: K)) := by
  refine fn_enter Try.func22 rfl _ Try.ntmps22 (by simp) [(0, .pointer (some ⟨g, 0, none⟩)), (1, .string f.s)] (args_of (by simp)) ?_
  refine go_Jh ?_
  refine sl_call rfl rfl (by kernel_rfl) rfl Sub.refl (readD_ok (fs := [f]) (f := f) (m := m) (ck := ck) (lim := lim) (by exact at_) (by exact at_) (by exact at_) (List.mem_singleton.2 rfl) (by omega)) ?_
  rintro ⟨A1, c1⟩ -
  dsimp only
  refine sl_know (fun w hw => (own_len (e := 5) (size := 1) (A := A1) hw (by exact at_)).2) ?_
  rintro ⟨l1, l2⟩
  refine go_Jh ?_
  have hsc := scan_ok (K := u8o A1 c1 f.l :: dB g m lim :: dM m [f] ck :: dS [f] :: K) (A := A1) (n := f.l.length) (c := c1) (bs := f.l) ⟨Vw.of_own (e := 5) .here, l1, by omega, l2, rfl, hob⟩ (by omega) hc0 he0
  rw [hh, ScA_no] at hsc
  refine sl_call rfl rfl (by kernel_rfl) rfl Sub.refl hsc ?_
  rintro _ -
  refine go_Jh ?_
  exact se_ret3 () trivial rfl rfl rfl rfl rfl (by exact sub_)
set_option maxRecDepth 100000 in
set_option maxHeartbeats 2000000 in
theorem open_go {K : List Fa} {g m ck j0 k0 : Nat} {lim : Int} {f : DF} {out0 : List (List Int)} (hn : f.l.length ≤ 1048576) (hob : IsBytes f.l) (hsy : f.sy ≤ f.l.length) (hk0 : k0 * 64 ≤ f.l.length) (hc0 : chainL f.l j0 = some (k0, out0)) (he0 : recordL f.l k0 = none) (hh : haltB f.l k0 (cutN f.l - k0) = false) :
    Fn Try.prog 22 #[.pointer (some ⟨g, 0, none⟩), .string f.s] (dB g m lim :: dM m [f] ck :: dS [f] :: K) (Ret (fun p : Ok => (p.q.xs.map Sx.l = out0 ∧ ∀ x ∈ p.q.xs, x.ok) ∧ p.f.s = f.s ∧ p.f.l = f.l.take (k0 * 64) ∧ p.f.sy = if k0 * 64 < f.l.length then k0 * 64 else f.sy) (fun p => .tuple #[.pointer (some ⟨p.gj, 0, none⟩), .slice p.q.R p.q.xs.length p.q.c, .int .i64 0]) (fun p => jC p.gj g f.s k0 :: p.q.row :: p.q.st :: dB g m lim :: dM m [p.f] ck :: dS [p.f] :: K)) := by
  refine fn_enter Try.func22 rfl _ Try.ntmps22 (by simp) [(0, .pointer (some ⟨g, 0, none⟩)), (1, .string f.s)] (args_of (by simp)) ?_
  refine go_Jh ?_
  refine sl_call rfl rfl (by kernel_rfl) rfl Sub.refl (readD_ok (fs := [f]) (f := f) (m := m) (ck := ck) (lim := lim) (by exact at_) (by exact at_) (by exact at_) (List.mem_singleton.2 rfl) (by omega)) ?_
  rintro ⟨A1, c1⟩ -
  dsimp only
  refine sl_know (fun w hw => (own_len (e := 5) (size := 1) (A := A1) hw (by exact at_)).2) ?_
  rintro ⟨l1, l2⟩
  refine go_Jh ?_
  have hsc := scan_ok (K := u8o A1 c1 f.l :: dB g m lim :: dM m [f] ck :: dS [f] :: K) (A := A1) (n := f.l.length) (c := c1) (bs := f.l) ⟨Vw.of_own (e := 5) .here, l1, by omega, l2, rfl, hob⟩ (by omega) hc0 he0
  rw [hh, ScA_yes] at hsc
  refine sl_call rfl rfl (by kernel_rfl) rfl Sub.refl hsc ?_
  rintro q hq
  by_cases hcut : k0 * 64 < f.l.length
  · rw [if_pos hcut]
    refine go_Jh ?_
    have hct := cutD_ok (K := q.row :: q.st :: K) (g := g) (m := m) (ck := ck) (lim := lim) (k := ((k0 * 64 : Nat) : Int)) (X := []) (Y := []) (f := f) (by omega) hn hsy
    rw [show (k0 : Int) * 64 = ((k0 * 64 : Nat) : Int) by omega]
    refine sl_call rfl rfl (by kernel_rfl) rfl (by exact sub_) hct ?_
    rintro f2 ⟨hs2, hl2, hy2⟩
    rw [Int.toNat_natCast] at hl2 hy2
    rw [← hs2]
    refine go_Jh ?_
    refine sl_call rfl rfl (by kernel_rfl) rfl (by exact sub_) (syncD_ok (K := dS ([] ++ f2 :: []) :: q.row :: q.st :: K) (X := []) (Y := []) (f := f2) (g := g) (m := m) (ck := ck) (lim := lim)) ?_
    rintro _ -
    rw [← ds_sy (X := []) (Y := []) (k := f2.l.length)]
    refine go_Jh ?_
    refine sl_pu (pu_build (v := .agg #[.pointer (some ⟨g, 0, none⟩), .string f2.s, .int .i64 k0]) rfl (fun W => by kernel_rfl)) rfl ?_
    refine sl_box rfl rfl rfl ?_; intro gj
    refine go_Jh ?_
    have hlen2 : f2.l.length = k0 * 64 := by rw [hl2, List.length_take]; omega
    exact se_ret3 ⟨gj, q, { f2 with sy := f2.l.length }⟩ ⟨hq, rfl, hl2, hlen2⟩ rfl rfl rfl rfl rfl (by exact sub_)
  · rw [if_neg hcut]
    refine go_Jh ?_
    refine sl_pu (pu_build (v := .agg #[.pointer (some ⟨g, 0, none⟩), .string f.s, .int .i64 k0]) rfl (fun W => by kernel_rfl)) rfl ?_
    refine sl_box rfl rfl rfl ?_; intro gj
    refine go_Jh ?_
    exact se_ret3 ⟨gj, q, f⟩ ⟨hq, rfl, by rw [List.take_of_length_le (by omega)], rfl⟩ rfl rfl rfl rfl rfl (by exact sub_)
end Go.Proofs.Ytemhhhikopemmaa
/- A disk: Turn. -/
namespace Go.Proofs.Ytemhhhikopemmaa
open Go.RowKit Go.MapKept
attribute [local irreducible] Go.Calls Go.Exit.then Go.Exit.inBlock Go.bodyPost Go.Code.wp Go.wpList
/-- A byte with a bit turned. -/
def tbit (x : Int) (k : Nat) : Int := bits .xor .u8 x (IntKind.u8.wrap (1 * 2 ^ (k % 8)))
def turnL (l : List Int) (k : Nat) : List Int := l.set (k / 8) (tbit (l.getD (k / 8) 0) k)
theorem turnL_len {l : List Int} {k : Nat} : (turnL l k).length = l.length := by simp [turnL]
theorem dval_len {s : ByteArray} {A : Option Addr} {c n sy bn : Nat} {l : List Int} (h : l.length = n) : Value.agg #[.slice A n c, .int .i64 sy] = DF.val ⟨s, A, c, l, sy, bn⟩ := by
  subst h
  rfl
theorem nth_Dkt {φ : Prop} (h : φ := by (first | rfl | assumption)) : φ := h
theorem mid_Dkt {φ : Prop} (h : φ := by (first | exact Mid.all | exact Mid.all | exact Mid.head)) : φ := h
theorem sz_Dkt {φ : Prop} (h : φ := by (first | rfl | (rfl; first | done | fail))) : φ := h
theorem one_Dkt {φ : Prop} (h : φ := by (first | assumption | exact first | exact one_bytes _ | exact ff_one | (simp only [List.mem_cons, List.not_mem_nil, or_false, forall_eq_or_imp, forall_eq]; decide) | exact one_bytes _)) : φ := h
theorem set_Dkt {φ : Prop} (h : φ := by (first | (fail) | ((repeat (first | exact SetAt.here | apply SetAt.there)); first | done | fail))) : φ := h
theorem cl_Dkt {φ : Prop} (h : φ := by first | rfl | exact .t | exact .f | exact .t (by omega) | exact .f (by omega) | exact .u | exact .i (by (first | exact .t (by omega) | exact .f (by omega) | exact .u | exact .i (by omega) | exact .v (by omega) | exact .b (by omega) | exact .w | rfl | omega)) | exact .v (by omega) | exact .b (by omega) | exact .q (by omega) | exact .w | exact .b (by exact at_) rfl (by exact nth_Dkt) | exact .w (by exact at_) rfl rfl (by exact sz_Dkt) | exact .s (by exact at_) (by exact mid_Dkt) rfl rfl (by exact sz_Dkt) | exact .z rfl rfl ⟨by kernel_rfl⟩ | exact .b rfl rfl ⟨by kernel_rfl⟩ | exact .a rfl rfl ⟨by kernel_rfl⟩ | exact .o rfl | exact .s | exact .n | exact .p rfl | exact .q rfl | exact .c rfl | exact .d rfl | exact .n rfl rfl (by omega) | exact .a rfl rfl (by omega) | exact .p rfl rfl (by omega) (by omega) | exact .y rfl rfl (by omega) (by omega) | exact .o (by exact at_) (by omega) rfl (by exact nth_Dkt) | exact .m (by exact at_) (by omega) (by exact mid_Dkt) rfl rfl (by exact sz_Dkt) | exact .mlen (by exact at_) rfl | exact .t (by exact at_) rfl rfl (by first | exact True.intro | rfl) (by assumption) | exact .f (by exact at_) rfl rfl (by first | exact True.intro | rfl) (by assumption) rfl | exact .t1 (by exact at_) rfl rfl (by first | exact True.intro | rfl) (by assumption) | exact .f1 (by exact at_) rfl rfl (by first | exact True.intro | rfl) (by assumption) rfl | exact .r rfl rfl (by omega) (by omega) (by exact nth_Dkt) rfl | exact .s rfl (by omega) (by assumption) | exact at_ | assumption | exact .r rfl rfl | exact .h rfl rfl rfl (by omega) | exact .l rfl rfl rfl (by omega) (by omega) | exact .g rfl rfl rfl rfl (by omega) (by omega) | exact .h rfl rfl (toN_ (by omega)) (by omega) | exact .l rfl rfl (toN_ (by omega)) (by omega) (by omega) | exact .g rfl rfl (toN_ (by omega)) (toN_ (by omega)) (by omega) (by omega) | exact .o (by decide) | exact .f (by decide) | exact .n (by omega) (by first | decide | (show _ ≤ ((64 : Nat) : Int); omega)) | (constructor; (repeat (first | exact .t (by omega) | exact .f (by omega) | exact .u | exact .i (by omega) | exact .v (by omega) | exact .b (by omega) | exact .w | rfl | omega)); first | done | fail) | omega | (show _ ≤ ((64 : Nat) : Int); omega)) : φ := h
theorem pv_Dkt {φ : Prop} (h : φ := by constructor; (repeat exact cl_Dkt); first | done | fail) : φ := h
theorem su_Dkt {φ ψ : Prop} (k : ψ) (h : Hide ψ → φ := by (intro k; (first | refine sl_pu (PuI.sep (by exact pv_Dkt)) rfl ?_ | refine sl_yes rfl rfl ?_ | refine sl_no rfl rfl rfl ?_ | refine sl_off rfl rfl rfl ?_ | (fail)); exact k.out)) : φ := h ⟨k⟩
theorem rq_Dkt {φ ψ : Prop} (k : ψ) (h : Hide ψ → φ := by (intro k; (first | refine wq_pu (PuI.sep (by exact pv_Dkt)) rfl ?_ | refine wq_yes rfl rfl ?_ | refine wq_no rfl rfl rfl ?_ | refine wq_off rfl rfl rfl ?_ | (fail)); exact k.out)) : φ := h ⟨k⟩
theorem sto_Dkt {φ ψ : Prop} (k : ψ) (h : Hide ψ → φ := by (intro k; (first | refine sl_store rfl (by exact pick_) rfl rfl (by kernel_rfl) (by exact set_Dkt) ?_ | refine sl_store_whole rfl (by exact pick_) rfl (by exact sz_Dkt) (by exact sz_Dkt) (by exact one_Dkt) ?_); exact k.out)) : φ := h ⟨k⟩
theorem go_Dkt {φ ψ : Prop} (k : ψ) (h : Hide ψ → φ := by (intro k; (repeat (first | refine su_Dkt ?_ | refine so_ ?_ | refine sto_Dkt ?_)); exact k.out)) : φ := h ⟨k⟩
set_option maxRecDepth 100000 in
set_option maxHeartbeats 2000000 in
theorem turnD_range {K : List Fa} {g m ck : Nat} {lim k : Int} {fs : List DF} {f : DF} (hB : At (dB g m lim) K) (hM : At (dM m fs ck) K) (hf : f ∈ fs) (hk : k < 0 ∨ 8 * (f.l.length : Int) ≤ k) (hn : f.l.length ≤ 1048576) :
    Fn Try.prog 21 #[.pointer (some ⟨g, 0, none⟩), .string f.s, .int .i64 k] K (Ret (fun _ : Unit => True) (fun _ => .int .i64 6) (fun _ => K)) := by
  refine fn_enter Try.func21 rfl _ Try.ntmps21 (by simp) [(0, .pointer (some ⟨g, 0, none⟩)), (1, .string f.s), (2, .int .i64 k)] (args_of (by simp)) ?_
  have hg := dget hf
  unfold DF.val at hg
  refine go_Dkt ?_
  refine sl_call rfl rfl (by kernel_rfl) rfl Sub.refl (has_yes hB hM hf) ?_
  rintro _ -
  refine go_Dkt ?_
  refine sl_alloc rfl rfl rfl ?_; intro g7
  rcases (show k < 0 ∨ 0 ≤ k by omega) with h0 | h0
  · refine go_Dkt ?_
    exact se_ret1 () trivial rfl rfl (by exact sub_)
  · have h1 : 8 * (f.l.length : Int) ≤ k := by omega
    refine go_Dkt ?_
    exact se_ret1 () trivial rfl rfl (by exact sub_)
set_option maxRecDepth 100000 in
set_option maxHeartbeats 2000000 in
theorem turnD_ok {K : List Fa} {g m ck k : Nat} {lim : Int} {X Y : List DF} {f : DF} (hk : k < 8 * f.l.length) (hn : f.l.length ≤ 1048576) :
    Fn Try.prog 21 #[.pointer (some ⟨g, 0, none⟩), .string f.s, .int .i64 k] (dB g m lim :: dM m (X ++ f :: Y) ck :: dS (X ++ f :: Y) :: K) (Ret (fun _ : Option Addr × Nat => True) (fun _ => .int .i64 0) (fun q => dB g m lim :: dM m (X ++ ⟨f.s, q.1, q.2, turnL f.l k, f.sy, f.bn⟩ :: Y) ck :: dS (X ++ ⟨f.s, q.1, q.2, turnL f.l k, f.sy, f.bn⟩ :: Y) :: K)) := by
  refine fn_enter Try.func21 rfl _ Try.ntmps21 (by simp) [(0, .pointer (some ⟨g, 0, none⟩)), (1, .string f.s), (2, .int .i64 k)] (args_of (by simp)) ?_
  have hg := dget (mid_mem (X := X) (Y := Y) (f := f))
  unfold DF.val at hg
  refine go_Dkt ?_
  refine sl_call rfl rfl (by kernel_rfl) rfl Sub.refl (has_yes (by exact at_) (by exact at_) mid_mem) ?_
  rintro _ -
  refine go_Dkt ?_
  refine sl_alloc rfl rfl rfl ?_; intro g7
  refine go_Dkt ?_
  refine sl_call rfl rfl (by kernel_rfl) rfl Sub.refl (clone_ok (ds_get (fs := X ++ f :: Y) (f := f) (by exact at_) mid_mem) (by omega)) ?_
  rintro ⟨A1, c1⟩ -
  dsimp only
  refine sl_form (e := 5) (size := 1) (A := A1) (m := f.l.length) (by exact at_) (by omega) ?_
  rintro ga rfl
  have hnx : nth (bytes f.l) (((k : Int) / 8).toNat * 1) = some (.int .u8 (f.l.getD (k / 8) 0)) := by
    rw [nth_eq, Nat.mul_one, show ((k : Int) / 8).toNat = k / 8 by omega]
    simp [bytes, List.getD, show k / 8 < f.l.length by omega]
  refine go_Dkt ?_
  refine sd_drawn (fun W => AllP W [blk g7 88 [.slice (some ⟨ga, 0, none⟩) f.l.length c1, .int .i64 f.sy], own 5 1 (some ⟨ga, 0, none⟩) f.l.length c1 (bytes f.l)]) (fun i => !(List.contains [11] i)) (by kernel_rfl) 12 rfl ?_
  refine sd_yes2 0 rfl (by exact gd_) (by kernel_rfl) (by kernel_rfl) (by exact nop_) (PuI.all (by exact pv_Dkt)) rfl (fun w hw => all_ hw) ?_
  refine sd_yes2 1 rfl (by exact gd_) (by kernel_rfl) (by kernel_rfl) (by exact nop_) (PuI.all (by exact pv_Dkt)) rfl (fun w hw => all_ hw) ?_
  refine sd_yes2 2 rfl (by exact gd_) (by kernel_rfl) (by kernel_rfl) (by exact nop_) (PuI.all (by exact pv_Dkt)) rfl (fun w hw => all_ hw) ?_
  refine sd_yes2 3 rfl (by exact gd_) (by kernel_rfl) (by kernel_rfl) (by exact nop_) (PuI.all (by exact pv_Dkt)) rfl (fun w hw => all_ hw) ?_
  refine sd_yes2 4 rfl (by exact gd_) (by kernel_rfl) (by kernel_rfl) (by exact nop_) (PuI.all (by exact pv_Dkt)) rfl (fun w hw => all_ hw) ?_
  refine sd_yes2 5 rfl (by exact gd_) (by kernel_rfl) (by kernel_rfl) (by exact nop_) (PuI.all (by exact pv_Dkt)) rfl (fun w hw => all_ hw) ?_
  refine sd_yes2 6 rfl (by exact gd_) (by kernel_rfl) (by kernel_rfl) (by exact nop_) (PuI.all (by exact pv_Dkt)) rfl (fun w hw => all_ hw) ?_
  refine sd_yes2 7 rfl (by exact gd_) (by kernel_rfl) (by kernel_rfl) (by exact nop_) (PuI.all (by exact pv_Dkt)) rfl (fun w hw => all_ hw) ?_
  refine sd_yes2 8 rfl (by exact gd_) (by kernel_rfl) (by kernel_rfl) (by exact nop_) (pu_shl rfl rfl (by omega) (by show _ ≤ ((8 : Nat) : Int); omega)) rfl (fun w hw => all_ hw) ?_
  refine sd_yes2 9 rfl (by exact gd_) (by kernel_rfl) (by kernel_rfl) (by exact nop_) (pu_xor rfl rfl) rfl (fun w hw => all_ hw) ?_
  refine sd_yes2 10 rfl (by exact gd_) (by kernel_rfl) (by kernel_rfl) (by exact nop_) (PuI.all (by exact pv_Dkt)) rfl (fun w hw => all_ hw) ?_
  refine sd_one 11 (by kernel_rfl) (sa_sl 11 rfl ?_)
  rw [add_none, show 0 + ((k : Int) / 8).toNat * 1 = k / 8 by omega, show ((k : Int) % 8).toNat = k % 8 by omega]
  refine sl_sto (e := 5) (size := 1) (k := f.l.length) (c := c1) (xs := bytes f.l) rfl (by exact pick_) rfl rfl rfl (by omega) ?_
  rw [bytes_set]
  refine sl_nil ?_
  refine se_sd (fun h => absurd h (by decide)) ?_
  refine sd_done (by kernel_rfl) ?_
  rw [show f.l.set (k / 8) (bits .xor .u8 (f.l.getD (k / 8) 0) (IntKind.u8.wrap (1 * 2 ^ (k % 8)))) = turnL f.l k from rfl]
  refine go_Dkt ?_
  refine sd_drawn (fun W => AllP W [blk g7 88 [.slice (some ⟨ga, 0, none⟩) f.l.length c1, .int .i64 f.sy], dB g m lim]) (fun _ => true) (by kernel_rfl) 7 rfl ?_
  refine sd_yes2 0 rfl (by exact gd_) (by kernel_rfl) (by kernel_rfl) (by exact nop_) (PuI.all (by exact pv_Dkt)) rfl (fun w hw => all_ hw) ?_
  refine sd_yes2 1 rfl (by exact gd_) (by kernel_rfl) (by kernel_rfl) (by exact nop_) (PuI.all (by exact pv_Dkt)) rfl (fun w hw => all_ hw) ?_
  refine sd_yes2 2 rfl (by exact gd_) (by kernel_rfl) (by kernel_rfl) (by exact nop_) (PuI.all (by exact pv_Dkt)) rfl (fun w hw => all_ hw) ?_
  refine sd_yes2 3 rfl (by exact gd_) (by kernel_rfl) (by kernel_rfl) (by exact nop_) (PuI.all (by exact pv_Dkt)) rfl (fun w hw => all_ hw) ?_
  refine sd_yes2 4 rfl (by exact gd_) (by kernel_rfl) (by kernel_rfl) (by exact nop_) (PuI.all (by exact pv_Dkt)) rfl (fun w hw => all_ hw) ?_
  refine sd_yes2 5 rfl (by exact gd_) (by kernel_rfl) (by kernel_rfl) (by exact nop_) (PuI.all (by exact pv_Dkt)) rfl (fun w hw => all_ hw) ?_
  refine sd_one 6 (by kernel_rfl) (sa_sl 6 rfl ?_)
  refine sl_dput (f := f) (f' := ⟨f.s, some ⟨ga, 0, none⟩, c1, turnL f.l k, f.sy, f.bn⟩) rfl rfl (congrArg some (dval_len turnL_len)) rfl rfl (by exact pick_) rfl rfl ?_
  refine sl_nil ?_
  refine se_sd (fun _ w hw => all_ hw) ?_
  refine sd_done (by kernel_rfl) ?_
  refine go_Dkt ?_
  refine se_sub (L' := own 5 1 (some ⟨ga, 0, none⟩) f.l.length c1 (bytes (turnL f.l k)) :: dS (X ++ f :: Y) :: dB g m lim :: dM m (X ++ ⟨f.s, some ⟨ga, 0, none⟩, c1, turnL f.l k, f.sy, f.bn⟩ :: Y) ck :: K) (by exact sub_) ?_
  refine se_ent (ds_put (s := f.s) (sy := f.sy) (bn := f.bn) turnL_len) ?_
  exact se_ret1 (some ⟨ga, 0, none⟩, c1) trivial rfl rfl (by exact sub_)
end Go.Proofs.Ytemhhhikopemmaa
