/- Package bucket: Fits, Get, Rules; the nil book. -/
import Derived.Test.YtdmeofobljjpfaaGg
namespace Go.Proofs.Ytdmeofobljjpfaa
open Go.RowKit Go.MapKept
attribute [local irreducible] Go.Calls Go.Exit.then Go.Exit.inBlock Go.bodyPost Go.Code.wp Go.wpList
attribute [local irreducible] hashL ofId
abbrev bzL : List Value := [.int .u64 0, .slice none 0 0, .int .i64 0, .int .u8 0, .int .u8 0, .int .u8 0, .int .u8 0, .int .u8 0, .int .u8 0, .int .u8 0, .int .u8 0, .int .u8 0, .int .u8 0, .int .u8 0, .int .u8 0, .int .u8 0, .int .u8 0, .int .u8 0, .int .u8 0, .bool false]
theorem bs_get {L : List Fa} {fs : List BK} {b : BK} (h : At (bS fs) L) (hf : b ∈ fs) : Vw L (fun w => Reads w 2 b.A b.l.length (rows eC b.l)) := fun w hw => Reads.of_own (own_PK (ks_get (M := BM) h hf w hw))
theorem nth_Gh {φ : Prop} (h : φ := by (first | rfl | first | exact bkC_n0 | exact bkC_n1 | exact bkC_n2 | exact bkC_n19' | exact tc_n0 | exact tc_n1)) : φ := h
theorem mid_Gh {φ : Prop} (h : φ := by (first | first | exact boC_mt | exact boC_mr | exact bkC_mid | exact Ta.mid _ | exact tc_mid | exact Mid.all | exact Mid.all | exact Mid.head)) : φ := h
theorem sz_Gh {φ : Prop} (h : φ := by (first | rfl | ((try simp only [bkC_len tc_len, tc_len, BK.len, bytes_length, Id.len]); (first | done | rfl); first | done | fail))) : φ := h
theorem one_Gh {φ : Prop} (h : φ := by (first | assumption | exact first | exact BK.one _ | exact bkC_one tc_one | exact tc_one | exact Ta.one _ | exact Rl.one _ | exact one_bytes _ | (simp only [List.mem_cons, List.not_mem_nil, or_false, forall_eq_or_imp, forall_eq]; decide) | exact one_bytes _)) : φ := h
theorem set_Gh {φ : Prop} (h : φ := by (first | (first | exact tc_set0 | exact bkC_set19 tc_len) | ((repeat (first | exact SetAt.here | apply SetAt.there)); first | done | fail))) : φ := h
theorem cl_Gh {φ : Prop} (h : φ := by first | rfl | exact .t | exact .f | exact .t (by omega) | exact .f (by omega) | exact .u | exact .i (by (first | exact .t (by omega) | exact .f (by omega) | exact .u | exact .i (by omega) | exact .v (by omega) | exact .b (by omega) | exact .w | rfl | omega)) | exact .v (by omega) | exact .b (by omega) | exact .q (by omega) | exact .w | exact .b (by exact at_) rfl (by exact nth_Gh) | exact .w (by exact at_) rfl rfl (by exact sz_Gh) | exact .s (by exact at_) (by exact mid_Gh) rfl rfl (by exact sz_Gh) | exact .z rfl rfl ⟨by kernel_rfl⟩ | exact .b rfl rfl ⟨by kernel_rfl⟩ | exact .a rfl rfl ⟨by kernel_rfl⟩ | exact .o rfl | exact .s | exact .n | exact .p rfl | exact .q rfl | exact .c rfl | exact .d rfl | exact .n rfl rfl (by omega) | exact .a rfl rfl (by omega) | exact .p rfl rfl (by omega) (by omega) | exact .y rfl rfl (by omega) (by omega) | exact .o (by exact at_) (by omega) rfl (by exact nth_Gh) | exact .m (by exact at_) (by omega) (by exact mid_Gh) rfl rfl (by exact sz_Gh) | exact .mlen (by exact at_) rfl | exact .t (by exact at_) rfl rfl (by first | exact True.intro | rfl) (by assumption) | exact .f (by exact at_) rfl rfl (by first | exact True.intro | rfl) (by assumption) rfl | exact .t1 (by exact at_) rfl rfl (by first | exact True.intro | rfl) (by assumption) | exact .f1 (by exact at_) rfl rfl (by first | exact True.intro | rfl) (by assumption) rfl | exact .r rfl rfl (by omega) (by omega) (by exact nth_Gh) rfl | exact .s rfl (by omega) (by assumption) | exact at_ | assumption | exact .r rfl rfl | exact .h rfl rfl rfl (by omega) | exact .l rfl rfl rfl (by omega) (by omega) | exact .g rfl rfl rfl rfl (by omega) (by omega) | exact .h rfl rfl (toN_ (by omega)) (by omega) | exact .l rfl rfl (toN_ (by omega)) (by omega) (by omega) | exact .g rfl rfl (toN_ (by omega)) (toN_ (by omega)) (by omega) (by omega) | exact .o (by decide) | exact .f (by decide) | exact .n (by omega) (by first | decide | (show _ ≤ ((64 : Nat) : Int); omega)) | (constructor; (repeat (first | exact .t (by omega) | exact .f (by omega) | exact .u | exact .i (by omega) | exact .v (by omega) | exact .b (by omega) | exact .w | rfl | omega)); first | done | fail) | omega | (show _ ≤ ((64 : Nat) : Int); omega)) : φ := h
theorem pv_Gh {φ : Prop} (h : φ := by constructor; (repeat exact cl_Gh); first | done | fail) : φ := h
theorem su_Gh {φ ψ : Prop} (k : ψ) (h : Hide ψ → φ := by (intro k; (first | refine sl_pu (PuI.sep (by exact pv_Gh)) rfl ?_ | refine sl_yes rfl rfl ?_ | refine sl_no rfl rfl rfl ?_ | refine sl_off rfl rfl rfl ?_ | (fail)); exact k.out)) : φ := h ⟨k⟩
theorem rq_Gh {φ ψ : Prop} (k : ψ) (h : Hide ψ → φ := by (intro k; (first | refine wq_pu (PuI.sep (by exact pv_Gh)) rfl ?_ | refine wq_yes rfl rfl ?_ | refine wq_no rfl rfl rfl ?_ | refine wq_off rfl rfl rfl ?_ | (fail)); exact k.out)) : φ := h ⟨k⟩
theorem sto_Gh {φ ψ : Prop} (k : ψ) (h : Hide ψ → φ := by (intro k; (first | refine sl_store rfl (by exact pick_) rfl rfl (by kernel_rfl) (by exact set_Gh) ?_ | refine sl_store_whole rfl (by exact pick_) rfl (by exact sz_Gh) (by exact sz_Gh) (by exact one_Gh) ?_); exact k.out)) : φ := h ⟨k⟩
theorem go_Gh {φ ψ : Prop} (k : ψ) (h : Hide ψ → φ := by (intro k; (repeat (first | refine su_Gh ?_ | refine so_ ?_ | refine sto_Gh ?_)); exact k.out)) : φ := h ⟨k⟩
set_option maxRecDepth 100000 in
set_option maxHeartbeats 4000000 in
theorem fits_ok {K : List Fa} {g m ck : Nat} {t : Ta} {r : Rl} {fs : List BK} {now : Int} (hB : At (bB g t r m) K) (hM : At (bM m fs ck) K) (hw : 0 ≤ r.w) (h : 0 ≤ now ∧ now ≤ 18446744073709551615) :
    Fn Try.prog 17 #[.pointer (some ⟨g, 0, none⟩), .int .u64 now] K (Ret (fun _ : Unit => True) (fun _ => .int .i64 (fitsE r fs now)) (fun _ => K)) := by
  refine fn_enter Try.func17 rfl _ Try.ntmps17 (by simp) [(0, .pointer (some ⟨g, 0, none⟩)), (1, .int .u64 now)] (args_of (by simp)) ?_
  by_cases h1 : 1099511627776 < now
  · rw [show fitsE r fs now = 15 by unfold fitsE; rw [if_pos h1]]
    refine go_Gh ?_
    exact se_ret1 () trivial rfl rfl (by exact sub_)
  have hml : ((fs.map BM.ent).length : Int) = fs.length := by rw [List.length_map]
  cases hf : bfind fs (stN r.w now) with
  | none =>
    have hno := bno hf
    rw [show fitsE r fs now = if fs.length = 32 then 5 else if r.mx ≤ 0 then 18 else 0 by unfold fitsE; rw [if_neg h1, hf]]
    refine go_Gh ?_
    refine sc_join (α := Nat) (fun g5 => [(0, .pointer (some ⟨g, 0, none⟩)), (5, .pointer (some ⟨g5, 0, none⟩)), (6, .bool false)]) (fun g5 => blk g5 60 bzL :: K) (fun _ => True) ?_ ?_
    · refine sd_drawn (fun W => AllP W [bB g t r m, bM m fs ck]) (fun _ => true) (by kernel_rfl) 17 rfl ?_
      refine sd_yes2 0 rfl (by exact gd_) (by kernel_rfl) (by kernel_rfl) (by exact nop_) (PuI.all (by exact pv_Gh)) rfl (fun w hw => all_ hw) ?_
      refine sd_yes2 1 rfl (by exact gd_) (by kernel_rfl) (by kernel_rfl) (by exact nop_) (PuI.all (by exact pv_Gh)) rfl (fun w hw => all_ hw) ?_
      refine sd_yes2 2 rfl (by exact gd_) (by kernel_rfl) (by kernel_rfl) (by exact nop_) (PuI.all (by exact pv_Gh)) rfl (fun w hw => all_ hw) ?_
      refine sd_yes2 3 rfl (by exact gd_) (by kernel_rfl) (by kernel_rfl) (by exact nop_) (PuI.all (by exact pv_Gh)) rfl (fun w hw => all_ hw) ?_
      refine sd_yes2 4 rfl (by exact gd_) (by kernel_rfl) (by kernel_rfl) (by exact nop_) (PuI.all (by exact pv_Gh)) rfl (fun w hw => all_ hw) ?_
      refine sd_yes2 5 rfl (by exact gd_) (by kernel_rfl) (by kernel_rfl) (by exact nop_) (PuI.all (by exact pv_Gh)) rfl (fun w hw => all_ hw) ?_
      refine sd_yes2 6 rfl (by exact gd_) (by kernel_rfl) (by kernel_rfl) (by exact nop_) (PuI.all (by exact pv_Gh)) rfl (fun w hw => all_ hw) ?_
      refine sd_yes2 7 rfl (by exact gd_) (by kernel_rfl) (by kernel_rfl) (by exact nop_) (PuI.all (by exact pv_Gh)) rfl (fun w hw => all_ hw) ?_
      refine sd_yes2 8 rfl (by exact gd_) (by kernel_rfl) (by kernel_rfl) (by exact nop_) (PuI.all (by exact pv_Gh)) rfl (fun w hw => all_ hw) ?_
      refine sd_two 9 14 (by kernel_rfl) (sa_sl 9 rfl ?_) (sa_sl 14 rfl ?_)
      · refine sl_call rfl rfl (by kernel_rfl) rfl (by exact sub_) (start_ok hw h) ?_
        rintro _ -
        refine sl_nil ?_
        refine se_sd (fun _ w hw => all_ hw) ?_
        refine sd_two 10 14 (by kernel_rfl) (sa_sl 10 rfl ?_) (sa_sl 14 rfl ?_)
        · repeat refine su_Gh ?_
          refine sl_nil ?_
          refine se_sd (fun _ w hw => all_ hw) ?_
          refine sd_yes2 11 rfl (by exact gd_) (by kernel_rfl) (by kernel_rfl) (by exact nop_) (PuI.all (by exact pv_Gh)) rfl (fun w hw => all_ hw) ?_
          refine sd_yes2 12 rfl (by exact gd_) (by kernel_rfl) (by kernel_rfl) (by exact nop_) (PuI.all (by exact pv_Gh)) rfl (fun w hw => all_ hw) ?_
          refine sd_yes2 13 rfl (by exact gd_) (by kernel_rfl) (by kernel_rfl) (by exact nop_) (PuI.all (by exact pv_Gh)) rfl (fun w hw => all_ hw) ?_
          refine sd_one 14 (by kernel_rfl) (sa_sl 14 rfl ?_)
          refine sl_alloc rfl rfl rfl ?_; intro g5
          refine sl_nil ?_
          refine se_sd (fun _ w hw => all_ hw) ?_
          refine sd_one 15 (by kernel_rfl) (sa_sl 15 rfl ?_)
          refine sto_Gh ?_
          refine sl_nil ?_
          refine se_sd (fun _ w hw => all_ hw) ?_
          refine sd_yes2 16 rfl (by exact gd_) (by kernel_rfl) (by kernel_rfl) (by exact nop_) (PuI.all (by exact pv_Gh)) rfl (fun w hw => all_ hw) ?_
          refine sd_done (by kernel_rfl) ?_
          exact se_mid g5 (by exact has_) (by exact sub_) trivial
        · refine sl_alloc rfl rfl rfl ?_; intro g5
          refine sl_nil ?_
          refine se_sd (fun _ w hw => all_ hw) ?_
          refine sd_one 10 (by kernel_rfl) (sa_sl 10 rfl ?_)
          repeat refine su_Gh ?_
          refine sl_nil ?_
          refine se_sd (fun _ w hw => all_ hw) ?_
          refine sd_yes2 11 rfl (by exact gd_) (by kernel_rfl) (by kernel_rfl) (by exact nop_) (PuI.all (by exact pv_Gh)) rfl (fun w hw => all_ hw) ?_
          refine sd_yes2 12 rfl (by exact gd_) (by kernel_rfl) (by kernel_rfl) (by exact nop_) (PuI.all (by exact pv_Gh)) rfl (fun w hw => all_ hw) ?_
          refine sd_yes2 13 rfl (by exact gd_) (by kernel_rfl) (by kernel_rfl) (by exact nop_) (PuI.all (by exact pv_Gh)) rfl (fun w hw => all_ hw) ?_
          refine sd_one 15 (by kernel_rfl) (sa_sl 15 rfl ?_)
          refine sto_Gh ?_
          refine sl_nil ?_
          refine se_sd (fun _ w hw => all_ hw) ?_
          refine sd_yes2 16 rfl (by exact gd_) (by kernel_rfl) (by kernel_rfl) (by exact nop_) (PuI.all (by exact pv_Gh)) rfl (fun w hw => all_ hw) ?_
          refine sd_done (by kernel_rfl) ?_
          exact se_mid g5 (by exact has_) (by exact sub_) trivial
      · refine sl_alloc rfl rfl rfl ?_; intro g5
        refine sl_nil ?_
        refine se_sd (fun _ w hw => all_ hw) ?_
        refine sd_one 9 (by kernel_rfl) (sa_sl 9 rfl ?_)
        refine sl_call rfl rfl (by kernel_rfl) rfl (by exact sub_) (start_ok hw h) ?_
        rintro _ -
        refine sl_nil ?_
        refine se_sd (fun _ w hw => all_ hw) ?_
        refine sd_one 10 (by kernel_rfl) (sa_sl 10 rfl ?_)
        repeat refine su_Gh ?_
        refine sl_nil ?_
        refine se_sd (fun _ w hw => all_ hw) ?_
        refine sd_yes2 11 rfl (by exact gd_) (by kernel_rfl) (by kernel_rfl) (by exact nop_) (PuI.all (by exact pv_Gh)) rfl (fun w hw => all_ hw) ?_
        refine sd_yes2 12 rfl (by exact gd_) (by kernel_rfl) (by kernel_rfl) (by exact nop_) (PuI.all (by exact pv_Gh)) rfl (fun w hw => all_ hw) ?_
        refine sd_yes2 13 rfl (by exact gd_) (by kernel_rfl) (by kernel_rfl) (by exact nop_) (PuI.all (by exact pv_Gh)) rfl (fun w hw => all_ hw) ?_
        refine sd_one 15 (by kernel_rfl) (sa_sl 15 rfl ?_)
        refine sto_Gh ?_
        refine sl_nil ?_
        refine se_sd (fun _ w hw => all_ hw) ?_
        refine sd_yes2 16 rfl (by exact gd_) (by kernel_rfl) (by kernel_rfl) (by exact nop_) (PuI.all (by exact pv_Gh)) rfl (fun w hw => all_ hw) ?_
        refine sd_done (by kernel_rfl) ?_
        exact se_mid g5 (by exact has_) (by exact sub_) trivial
    rintro g5 -
    by_cases h2 : fs.length = 32
    · rw [if_pos h2]
      have h3 : ((fs.map BM.ent).length : Int) = 32 := by rw [hml, h2]; rfl
      refine go_Gh ?_
      exact se_ret1 () trivial rfl rfl (by exact sub_)
    rw [if_neg h2]
    have h3 : ((fs.map BM.ent).length : Int) ≠ 32 := by rw [hml]; omega
    by_cases h4 : r.mx ≤ 0
    · rw [if_pos h4]
      refine go_Gh ?_
      ((refine sq_region (by kernel_rfl) (by kernel_rfl) ?_; (repeat refine rq_Gh ?_); refine sq_end ?_))
      refine go_Gh ?_
      exact se_ret1 () trivial rfl rfl (by exact sub_)
    · rw [if_neg h4]
      refine go_Gh ?_
      ((refine sq_region (by kernel_rfl) (by kernel_rfl) ?_; (repeat refine rq_Gh ?_); refine sq_end ?_))
      refine go_Gh ?_
      exact se_ret1 () trivial rfl rfl (by exact sub_)
  | some b =>
    obtain ⟨hb, hbs⟩ := bfind_some hf
    have hg := bget hb
    rw [hbs] at hg
    rw [show fitsE r fs now = if b.cl then 16 else if r.mx ≤ b.m then 18 else 0 by unfold fitsE; rw [if_neg h1, hf]]
    refine go_Gh ?_
    refine sc_join (α := Nat) (fun g5 => [(0, .pointer (some ⟨g, 0, none⟩)), (5, .pointer (some ⟨g5, 0, none⟩)), (6, .bool true)]) (fun g5 => blk g5 60 (bkC (stN r.w now) (tc b.A b.l.length b.c b.m b.k) b.cl) :: K) (fun _ => True) ?_ ?_
    · refine sd_drawn (fun W => AllP W [bB g t r m, bM m fs ck]) (fun _ => true) (by kernel_rfl) 17 rfl ?_
      refine sd_yes2 0 rfl (by exact gd_) (by kernel_rfl) (by kernel_rfl) (by exact nop_) (PuI.all (by exact pv_Gh)) rfl (fun w hw => all_ hw) ?_
      refine sd_yes2 1 rfl (by exact gd_) (by kernel_rfl) (by kernel_rfl) (by exact nop_) (PuI.all (by exact pv_Gh)) rfl (fun w hw => all_ hw) ?_
      refine sd_yes2 2 rfl (by exact gd_) (by kernel_rfl) (by kernel_rfl) (by exact nop_) (PuI.all (by exact pv_Gh)) rfl (fun w hw => all_ hw) ?_
      refine sd_yes2 3 rfl (by exact gd_) (by kernel_rfl) (by kernel_rfl) (by exact nop_) (PuI.all (by exact pv_Gh)) rfl (fun w hw => all_ hw) ?_
      refine sd_yes2 4 rfl (by exact gd_) (by kernel_rfl) (by kernel_rfl) (by exact nop_) (PuI.all (by exact pv_Gh)) rfl (fun w hw => all_ hw) ?_
      refine sd_yes2 5 rfl (by exact gd_) (by kernel_rfl) (by kernel_rfl) (by exact nop_) (PuI.all (by exact pv_Gh)) rfl (fun w hw => all_ hw) ?_
      refine sd_yes2 6 rfl (by exact gd_) (by kernel_rfl) (by kernel_rfl) (by exact nop_) (PuI.all (by exact pv_Gh)) rfl (fun w hw => all_ hw) ?_
      refine sd_yes2 7 rfl (by exact gd_) (by kernel_rfl) (by kernel_rfl) (by exact nop_) (PuI.all (by exact pv_Gh)) rfl (fun w hw => all_ hw) ?_
      refine sd_yes2 8 rfl (by exact gd_) (by kernel_rfl) (by kernel_rfl) (by exact nop_) (PuI.all (by exact pv_Gh)) rfl (fun w hw => all_ hw) ?_
      refine sd_two 9 14 (by kernel_rfl) (sa_sl 9 rfl ?_) (sa_sl 14 rfl ?_)
      · refine sl_call rfl rfl (by kernel_rfl) rfl (by exact sub_) (start_ok hw h) ?_
        rintro _ -
        refine sl_nil ?_
        refine se_sd (fun _ w hw => all_ hw) ?_
        refine sd_two 10 14 (by kernel_rfl) (sa_sl 10 rfl ?_) (sa_sl 14 rfl ?_)
        · repeat refine su_Gh ?_
          refine sl_nil ?_
          refine se_sd (fun _ w hw => all_ hw) ?_
          refine sd_yes2 11 rfl (by exact gd_) (by kernel_rfl) (by kernel_rfl) (by exact nop_) (PuI.all (by exact pv_Gh)) rfl (fun w hw => all_ hw) ?_
          refine sd_yes2 12 rfl (by exact gd_) (by kernel_rfl) (by kernel_rfl) (by exact nop_) (PuI.all (by exact pv_Gh)) rfl (fun w hw => all_ hw) ?_
          refine sd_yes2 13 rfl (by exact gd_) (by kernel_rfl) (by kernel_rfl) (by exact nop_) (PuI.all (by exact pv_Gh)) rfl (fun w hw => all_ hw) ?_
          refine sd_one 14 (by kernel_rfl) (sa_sl 14 rfl ?_)
          refine sl_alloc rfl rfl rfl ?_; intro g5
          refine sl_nil ?_
          refine se_sd (fun _ w hw => all_ hw) ?_
          refine sd_one 15 (by kernel_rfl) (sa_sl 15 rfl ?_)
          refine sto_Gh ?_
          refine sl_nil ?_
          refine se_sd (fun _ w hw => all_ hw) ?_
          refine sd_yes2 16 rfl (by exact gd_) (by kernel_rfl) (by kernel_rfl) (by exact nop_) (PuI.all (by exact pv_Gh)) rfl (fun w hw => all_ hw) ?_
          refine sd_done (by kernel_rfl) ?_
          exact se_mid g5 (by exact has_) (by exact sub_) trivial
        · refine sl_alloc rfl rfl rfl ?_; intro g5
          refine sl_nil ?_
          refine se_sd (fun _ w hw => all_ hw) ?_
          refine sd_one 10 (by kernel_rfl) (sa_sl 10 rfl ?_)
          repeat refine su_Gh ?_
          refine sl_nil ?_
          refine se_sd (fun _ w hw => all_ hw) ?_
          refine sd_yes2 11 rfl (by exact gd_) (by kernel_rfl) (by kernel_rfl) (by exact nop_) (PuI.all (by exact pv_Gh)) rfl (fun w hw => all_ hw) ?_
          refine sd_yes2 12 rfl (by exact gd_) (by kernel_rfl) (by kernel_rfl) (by exact nop_) (PuI.all (by exact pv_Gh)) rfl (fun w hw => all_ hw) ?_
          refine sd_yes2 13 rfl (by exact gd_) (by kernel_rfl) (by kernel_rfl) (by exact nop_) (PuI.all (by exact pv_Gh)) rfl (fun w hw => all_ hw) ?_
          refine sd_one 15 (by kernel_rfl) (sa_sl 15 rfl ?_)
          refine sto_Gh ?_
          refine sl_nil ?_
          refine se_sd (fun _ w hw => all_ hw) ?_
          refine sd_yes2 16 rfl (by exact gd_) (by kernel_rfl) (by kernel_rfl) (by exact nop_) (PuI.all (by exact pv_Gh)) rfl (fun w hw => all_ hw) ?_
          refine sd_done (by kernel_rfl) ?_
          exact se_mid g5 (by exact has_) (by exact sub_) trivial
      · refine sl_alloc rfl rfl rfl ?_; intro g5
        refine sl_nil ?_
        refine se_sd (fun _ w hw => all_ hw) ?_
        refine sd_one 9 (by kernel_rfl) (sa_sl 9 rfl ?_)
        refine sl_call rfl rfl (by kernel_rfl) rfl (by exact sub_) (start_ok hw h) ?_
        rintro _ -
        refine sl_nil ?_
        refine se_sd (fun _ w hw => all_ hw) ?_
        refine sd_one 10 (by kernel_rfl) (sa_sl 10 rfl ?_)
        repeat refine su_Gh ?_
        refine sl_nil ?_
        refine se_sd (fun _ w hw => all_ hw) ?_
        refine sd_yes2 11 rfl (by exact gd_) (by kernel_rfl) (by kernel_rfl) (by exact nop_) (PuI.all (by exact pv_Gh)) rfl (fun w hw => all_ hw) ?_
        refine sd_yes2 12 rfl (by exact gd_) (by kernel_rfl) (by kernel_rfl) (by exact nop_) (PuI.all (by exact pv_Gh)) rfl (fun w hw => all_ hw) ?_
        refine sd_yes2 13 rfl (by exact gd_) (by kernel_rfl) (by kernel_rfl) (by exact nop_) (PuI.all (by exact pv_Gh)) rfl (fun w hw => all_ hw) ?_
        refine sd_one 15 (by kernel_rfl) (sa_sl 15 rfl ?_)
        refine sto_Gh ?_
        refine sl_nil ?_
        refine se_sd (fun _ w hw => all_ hw) ?_
        refine sd_yes2 16 rfl (by exact gd_) (by kernel_rfl) (by kernel_rfl) (by exact nop_) (PuI.all (by exact pv_Gh)) rfl (fun w hw => all_ hw) ?_
        refine sd_done (by kernel_rfl) ?_
        exact se_mid g5 (by exact has_) (by exact sub_) trivial
    rintro g5 -
    cases hc : b.cl with
    | true =>
      rw [if_pos rfl]
      refine go_Gh ?_
      exact se_ret1 () trivial rfl rfl (by exact sub_)
    | false =>
      rw [if_neg (by decide)]
      by_cases h4 : r.mx ≤ b.m
      · rw [if_pos h4]
        refine go_Gh ?_
        ((refine sq_region (by kernel_rfl) (by kernel_rfl) ?_; (repeat refine rq_Gh ?_); refine sq_end ?_))
        refine go_Gh ?_
        exact se_ret1 () trivial rfl rfl (by exact sub_)
      · rw [if_neg h4]
        refine go_Gh ?_
        ((refine sq_region (by kernel_rfl) (by kernel_rfl) ?_; (repeat refine rq_Gh ?_); refine sq_end ?_))
        refine go_Gh ?_
        exact se_ret1 () trivial rfl rfl (by exact sub_)
set_option maxRecDepth 100000 in
theorem fits_nil {K : List Fa} {now : Int} : Fn Try.prog 17 #[.pointer none, .int .u64 now] K (Ret (fun _ : Unit => True) (fun _ => .int .i64 1) (fun _ => K)) := by
  refine fn_enter Try.func17 rfl _ Try.ntmps17 (by simp) [(0, .pointer none), (1, .int .u64 now)] (args_of (by simp)) ?_
  refine go_Gh ?_
  exact se_ret1 () trivial rfl rfl (by exact sub_)
set_option maxRecDepth 100000 in
set_option maxHeartbeats 4000000 in
theorem bgetC_ok {K : List Fa} {g m ck : Nat} {t : Ta} {r : Rl} {fs : List BK} {b : BK} (hB : At (bB g t r m) K) (hM : At (bM m fs ck) K) (hS : At (bS fs) K) (hb : b ∈ fs) (hn : b.l.length ≤ 1000000) :
    Fn Try.prog 15 #[.pointer (some ⟨g, 0, none⟩), .int .u64 b.st] K (Ret (fun _ : Option Addr × Nat => True) (fun q => .tuple #[.agg (bkC b.st (tc q.1 b.l.length q.2 b.m b.k) b.cl).toArray, .bool true]) (fun q => eo q.1 b.l.length q.2 b.l :: K)) := by
  refine fn_enter Try.func15 rfl _ Try.ntmps15 (by simp) [(0, .pointer (some ⟨g, 0, none⟩)), (1, .int .u64 b.st)] (args_of (by simp)) ?_
  have hg := bget hb
  have hr := bs_get hS hb
  refine go_Gh ?_
  refine sl_alloc rfl rfl rfl ?_; intro g1
  refine go_Gh ?_
  refine sl_alloc rfl rfl rfl ?_; intro g2
  refine go_Gh ?_
  refine sl_call rfl rfl (by kernel_rfl) rfl (by exact sub_) (copied_ok (hr.mono (by exact sub_)) hn) ?_; rintro ⟨A2, c2⟩ -
  refine go_Gh ?_
  refine sl_store_mid (cl := tc A2 b.l.length c2 b.m b.k) rfl (by exact pick_) rfl (by rw [tc_len]; rfl) (by rw [tc_len, bkC_len tc_len]; decide) tc_one ?_
  rw [bkC_put tc_len tc_len]
  refine go_Gh ?_
  exact se_ret_ct (A2, c2) trivial rfl rfl (by exact at_) rfl rfl (by rw [bkC_len tc_len]; rfl) rfl rfl (by exact sub_)
set_option maxRecDepth 100000 in
set_option maxHeartbeats 4000000 in
theorem bgetC_no {K : List Fa} {g m ck : Nat} {t : Ta} {r : Rl} {fs : List BK} {s : Int} (hB : At (bB g t r m) K) (hM : At (bM m fs ck) K) (hb : ∀ b ∈ fs, b.st ≠ s) :
    Fn Try.prog 15 #[.pointer (some ⟨g, 0, none⟩), .int .u64 s] K (Ret (fun _ : Option Addr × Nat => True) (fun q => .tuple #[.agg (bkC 0 (tc q.1 0 q.2 0 zId) false).toArray, .bool false]) (fun q => eo q.1 0 q.2 [] :: K)) := by
  refine fn_enter Try.func15 rfl _ Try.ntmps15 (by simp) [(0, .pointer (some ⟨g, 0, none⟩)), (1, .int .u64 s)] (args_of (by simp)) ?_
  have hno : MNo (fs.map BM.ent) (.int .u64 s) := kno (M := BM) fun b hb' e => by
    have e' : Value.int .u64 b.st = .int .u64 s := e
    injection e' with _ e'
    exact hb b hb' e'
  have hz : Vw K (fun w => Reads w 2 none 0 (rows eC [])) := fun w hw => ⟨rfl, fun h => absurd h (by decide)⟩
  refine go_Gh ?_
  refine sl_alloc rfl rfl rfl ?_; intro g1
  refine go_Gh ?_
  refine sl_alloc rfl rfl rfl ?_; intro g2
  refine go_Gh ?_
  rw [bz_eq]
  refine go_Gh ?_
  refine sl_call rfl rfl (by kernel_rfl) rfl (by exact sub_) (copied_ok (c := 0) (m := 0) (k := zId) (hz.mono (by exact sub_)) (by decide)) ?_; rintro ⟨A2, c2⟩ -
  refine go_Gh ?_
  refine sl_store_mid (cl := tc A2 0 c2 0 zId) rfl (by exact pick_) rfl (by rw [tc_len]; rfl) (by rw [tc_len, bkC_len tc_len]; decide) tc_one ?_
  rw [bkC_put tc_len tc_len]
  refine go_Gh ?_
  exact se_ret_ct (A2, c2) trivial rfl rfl (by exact at_) rfl rfl (by rw [bkC_len tc_len]; rfl) rfl rfl (by exact sub_)
set_option maxRecDepth 100000 in
theorem bget_nil {K : List Fa} {now : Int} : Fn Try.prog 15 #[.pointer none, .int .u64 now] K (Ret (fun _ : Unit => True) (fun _ => .tuple #[.agg bzL.toArray, .bool false]) (fun _ => K)) := by
  refine fn_enter Try.func15 rfl _ Try.ntmps15 (by simp) [(0, .pointer none), (1, .int .u64 now)] (args_of (by simp)) ?_
  refine go_Gh ?_
  refine sl_alloc rfl rfl rfl ?_; intro g1
  refine go_Gh ?_
  refine sl_pu (pu_build (v := .agg bzL.toArray) rfl (fun W => by kernel_rfl)) rfl ?_
  refine go_Gh ?_
  exact se_ret_ct () trivial rfl rfl (by exact at_) rfl rfl rfl rfl rfl (by exact sub_)
set_option maxRecDepth 100000 in
theorem rules_ok {K : List Fa} {g m : Nat} {t : Ta} {r : Rl} (hB : At (bB g t r m) K) : Fn Try.prog 19 #[.pointer (some ⟨g, 0, none⟩)] K (Ret (fun _ : Unit => True) (fun _ => .agg r.c.toArray) (fun _ => K)) := by
  refine fn_enter Try.func19 rfl _ Try.ntmps19 (by simp) [(0, .pointer (some ⟨g, 0, none⟩))] (args_of (by simp)) ?_
  refine go_Gh ?_
  refine sl_alloc rfl rfl rfl ?_; intro g1
  refine go_Gh ?_
  exact se_ret_c () trivial rfl rfl (by exact at_) rfl rfl rfl rfl (by exact sub_)
set_option maxRecDepth 100000 in
theorem rules_nil {K : List Fa} : Fn Try.prog 19 #[.pointer none] K (Ret (fun _ : Unit => True) (fun _ => .agg (Rl.c ⟨0, 0, 0⟩).toArray) (fun _ => K)) := by
  refine fn_enter Try.func19 rfl _ Try.ntmps19 (by simp) [(0, .pointer none)] (args_of (by simp)) ?_
  refine go_Gh ?_
  refine sl_alloc rfl rfl rfl ?_; intro g1
  refine go_Gh ?_
  refine sl_pu (pu_build (v := .agg (Rl.c ⟨0, 0, 0⟩).toArray) rfl (fun W => by kernel_rfl)) rfl ?_
  refine go_Gh ?_
  exact se_ret_c () trivial rfl rfl (by exact at_) rfl rfl rfl rfl (by exact sub_)
end Go.Proofs.Ytdmeofobljjpfaa
