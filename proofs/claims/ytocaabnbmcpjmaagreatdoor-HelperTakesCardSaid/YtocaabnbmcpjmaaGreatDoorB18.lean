/- Several texts of one claim, one behind the other (Gh, Sks, Gi, Ea, Gl, Skt, Sku, Skx, Skl). -/
import Derived.Test.YtocaabnbmcpjmaaGreatDoorB16
import Derived.Test.YtocaabnbmcpjmaaGreatDoorB17
import Derived.Test.YtocaabnbmcpjmaaGreatDoorB14
import Derived.Test.YtocaabnbmcpjmaaGreatDoorB03
import Derived.Test.YtocaabnbmcpjmaaGreatDoorB05
import Derived.Test.YtocaabnbmcpjmaaGreatDoorB09
set_option linter.unusedVariables false
set_option linter.unusedSimpArgs false
/- Package bucket: Fits, Get, Rules; the nil book. -/
namespace Go.Proofs.YtocaabnbmcpjmaaGreatDoor
open Go.RowKit Go.MapKept
attribute [local irreducible] Go.Calls Go.Exit.then Go.Exit.inBlock Go.bodyPost Go.Code.wp Go.wpList
attribute [local irreducible] hashL ofId
abbrev bzL : List Value := [.int .u64 0, .slice none 0 0, .int .i64 0, .int .u8 0, .int .u8 0, .int .u8 0, .int .u8 0, .int .u8 0, .int .u8 0, .int .u8 0, .int .u8 0, .int .u8 0, .int .u8 0, .int .u8 0, .int .u8 0, .int .u8 0, .int .u8 0, .int .u8 0, .int .u8 0, .bool false]
theorem nth_Gh {φ : Prop} (h : φ := by (first | rfl | first | exact bkC_n0 | exact bkC_n1 | exact bkC_n2 | exact bkC_n19' | exact tc_n0 | exact tc_n1)) : φ := h
theorem mid_Gh {φ : Prop} (h : φ := by (first | first | exact boC_mt | exact boC_mr | exact bkC_mid | exact Ta.mid _ | exact tc_mid | exact Mid.all | exact Mid.all | exact Mid.head)) : φ := h
theorem sz_Gh {φ : Prop} (h : φ := by (first | rfl | ((try simp only [bkC_len tc_len, tc_len, BK.len, bytes_length, Id.len]); (first | done | rfl); first | done | fail))) : φ := h
theorem one_Gh {φ : Prop} (h : φ := by (first | assumption | exact first | exact BK.one _ | exact bkC_one tc_one | exact tc_one | exact Ta.one _ | exact Rl.one _ | exact one_bytes _ | (simp only [List.mem_cons, List.not_mem_nil, or_false, forall_eq_or_imp, forall_eq]; decide) | exact one_bytes _ | (intro v hv; (repeat (rcases List.mem_cons.1 hv with rfl | hv; rfl)); cases hv))) : φ := h
theorem set_Gh {φ : Prop} (h : φ := by (first | (first | exact tc_set0 | exact bkC_set19 tc_len) | ((repeat (first | exact SetAt.here | apply SetAt.there)); first | done | fail))) : φ := h
theorem cl_Gh {φ : Prop} (h : φ := by first | rfl | exact .t | exact .f | exact .t (by omega) | exact .f (by omega) | exact .u | exact .i (by (first | exact .t (by omega) | exact .f (by omega) | exact .u | exact .i (by omega) | exact .v (by omega) | exact .b (by omega) | exact .w | rfl | omega)) | exact .v (by omega) | exact .b (by omega) | exact .q (by omega) | exact .w | exact .b (by exact at_) rfl (by exact nth_Gh) | exact .w (by exact at_) rfl rfl (by exact sz_Gh) | exact .s (by exact at_) (by exact mid_Gh) rfl rfl (by exact sz_Gh) | exact .z rfl rfl ⟨by kernel_rfl⟩ | exact .b rfl rfl ⟨by kernel_rfl⟩ | exact .a rfl rfl ⟨by kernel_rfl⟩ | exact .o rfl | exact .s | exact .n | exact .p rfl | exact .q rfl | exact .c rfl | exact .d rfl | exact .n rfl rfl (by omega) | exact .a rfl rfl (by omega) | exact .p rfl rfl (by omega) (by omega) | exact .y rfl rfl (by omega) (by omega) | exact .o (by exact at_) (by omega) rfl (by exact nth_Gh) | exact .m (by exact at_) (by omega) (by exact mid_Gh) rfl rfl (by exact sz_Gh) | exact .mlen (by exact at_) rfl | exact .t (by exact at_) rfl rfl (by first | exact True.intro | rfl) (by assumption) | exact .f (by exact at_) rfl rfl (by first | exact True.intro | rfl) (by assumption) rfl | exact .t1 (by exact at_) rfl rfl (by first | exact True.intro | rfl) (by assumption) | exact .f1 (by exact at_) rfl rfl (by first | exact True.intro | rfl) (by assumption) rfl | exact .tk (by exact at_) rfl (by assumption) (by assumption) | exact .fk (by exact at_) rfl (by assumption) (by assumption) rfl | exact .tk1 (by exact at_) rfl (by assumption) (by assumption) | exact .fk1 (by exact at_) rfl (by assumption) (by assumption) rfl | exact .r rfl rfl (by omega) (by omega) (by exact nth_Gh) rfl | exact .s rfl (by omega) (by assumption) | exact at_ | assumption | exact .r rfl rfl | exact .h rfl rfl rfl (by omega) | exact .l rfl rfl rfl (by omega) (by omega) | exact .g rfl rfl rfl rfl (by omega) (by omega) | exact .h rfl rfl (toN_ (by omega)) (by omega) | exact .l rfl rfl (toN_ (by omega)) (by omega) (by omega) | exact .g rfl rfl (toN_ (by omega)) (toN_ (by omega)) (by omega) (by omega) | exact .o (by decide) | exact .f (by decide) | exact .n (by omega) (by first | decide | (show _ ≤ ((64 : Nat) : Int); omega)) | (constructor; (repeat (first | exact .t (by omega) | exact .f (by omega) | exact .u | exact .i (by omega) | exact .v (by omega) | exact .b (by omega) | exact .w | rfl | omega)); first | done | fail) | omega | (show _ ≤ ((64 : Nat) : Int); omega)) : φ := h
theorem pv_Gh {φ : Prop} (h : φ := by constructor; (repeat exact cl_Gh); first | done | fail) : φ := h
theorem su_Gh {φ ψ : Prop} (k : ψ) (h : Hide ψ → φ := by (intro k; (first | refine sl_pu (PuI.sep (by exact pv_Gh)) rfl ?_ | refine sl_yes rfl rfl ?_ | refine sl_no rfl rfl rfl ?_ | refine sl_off rfl rfl rfl ?_ | (fail)); exact k.out)) : φ := h ⟨k⟩
theorem rq_Gh {φ ψ : Prop} (k : ψ) (h : Hide ψ → φ := by (intro k; (first | refine wq_pu (PuI.sep (by exact pv_Gh)) rfl ?_ | refine wq_yes rfl rfl ?_ | refine wq_no rfl rfl rfl ?_ | refine wq_off rfl rfl rfl ?_ | (fail)); exact k.out)) : φ := h ⟨k⟩
theorem sto_Gh {φ ψ : Prop} (k : ψ) (h : Hide ψ → φ := by (intro k; (first | refine sl_store rfl (by exact pick_) rfl rfl (by kernel_rfl) (by exact set_Gh) ?_ | refine sl_store_whole rfl (by exact pick_) rfl (by exact sz_Gh) (by exact sz_Gh) (by exact one_Gh) ?_); exact k.out)) : φ := h ⟨k⟩
theorem go_Gh {φ ψ : Prop} (k : ψ) (h : Hide ψ → φ := by (intro k; (repeat (first | refine su_Gh ?_ | refine so_ ?_ | refine sto_Gh ?_)); exact k.out)) : φ := h ⟨k⟩
set_option maxRecDepth 100000 in
set_option maxHeartbeats 4000000 in
theorem fits_ok {K : List Fa} {g m ck : Nat} {t : Ta} {r : Rl} {fs : List BK} {now : Int} (hB : At (bB g t r m) K) (hM : At (bM m fs ck) K) (hw : 0 ≤ r.w) (h : 0 ≤ now ∧ now ≤ 18446744073709551615) :
    Fn Tryz.prog 63 #[.pointer (some ⟨g, 0, none⟩), .int .u64 now] K (Ret (fun _ : Unit => True) (fun _ => .int .i64 (fitsE r fs now)) (fun _ => K)) := by
  refine fn_enter Tryz.func63 rfl _ Tryz.ntmps63 (by simp) [(0, .pointer (some ⟨g, 0, none⟩)), (1, .int .u64 now)] (args_of (by simp)) ?_
  by_cases h1 : 1099511627776 < now
  · rw [show fitsE r fs now = 15 by unfold fitsE; rw [if_pos h1]]
    refine go_Gh ?_
    exact se_ret1 () trivial rfl rfl (by exact sub_)
  have hml : ((fs.map BM.ent).length : Int) = fs.length := by rw [List.length_map]
  cases hf : bfind fs (stN r.w now) with
  | none =>
    have hno := bno hf
    rw [show fitsE r fs now = if fs.length = 32 then 5 else if r.mx ≤ 0 then 18 else 0 by unfold fitsE; rw [if_neg h1, hf]]
    refine go_Gh ?_
    refine sc_join (α := Nat) (fun g5 => [(0, .pointer (some ⟨g, 0, none⟩)), (5, .pointer (some ⟨g5, 0, none⟩)), (6, .bool false)]) (fun g5 => blk g5 152 bzL :: K) (fun _ => True) ?_ ?_
    · refine sd_drawn (fun W => AllP W [bB g t r m, bM m fs ck]) (fun _ => true) (by kernel_rfl) 17 rfl ?_
      refine sd_yes2 0 rfl (by exact gd_) (by kernel_rfl) (by kernel_rfl) (by exact nop_) (PuI.all (by exact pv_Gh)) rfl (fun w hw => all_ hw) ?_
      refine sd_yes2 1 rfl (by exact gd_) (by kernel_rfl) (by kernel_rfl) (by exact nop_) (PuI.all (by exact pv_Gh)) rfl (fun w hw => all_ hw) ?_
      refine sd_yes2 2 rfl (by exact gd_) (by kernel_rfl) (by kernel_rfl) (by exact nop_) (PuI.all (by exact pv_Gh)) rfl (fun w hw => all_ hw) ?_
      refine sd_yes2 3 rfl (by exact gd_) (by kernel_rfl) (by kernel_rfl) (by exact nop_) (PuI.all (by exact pv_Gh)) rfl (fun w hw => all_ hw) ?_
      refine sd_yes2 4 rfl (by exact gd_) (by kernel_rfl) (by kernel_rfl) (by exact nop_) (PuI.all (by exact pv_Gh)) rfl (fun w hw => all_ hw) ?_
      refine sd_yes2 5 rfl (by exact gd_) (by kernel_rfl) (by kernel_rfl) (by exact nop_) (PuI.all (by exact pv_Gh)) rfl (fun w hw => all_ hw) ?_
      refine sd_yes2 6 rfl (by exact gd_) (by kernel_rfl) (by kernel_rfl) (by exact nop_) (PuI.all (by exact pv_Gh)) rfl (fun w hw => all_ hw) ?_
      refine sd_yes2 7 rfl (by exact gd_) (by kernel_rfl) (by kernel_rfl) (by exact nop_) (PuI.all (by exact pv_Gh)) rfl (fun w hw => all_ hw) ?_
      refine sd_yes2 8 rfl (by exact gd_) (by kernel_rfl) (by kernel_rfl) (by exact nop_) (PuI.all (by exact pv_Gh)) rfl (fun w hw => all_ hw) ?_
      refine sd_two 9 14 (by kernel_rfl) (sa_sl 9 rfl ?_) (sa_sl 14 rfl ?_)
      · refine sl_call rfl rfl (by kernel_rfl) rfl (by exact sub_) (start_ok hw h) ?_
        rintro _ -
        refine sl_nil ?_
        refine se_sd (fun _ w hw => all_ hw) ?_
        refine sd_two 10 14 (by kernel_rfl) (sa_sl 10 rfl ?_) (sa_sl 14 rfl ?_)
        · repeat refine su_Gh ?_
          refine sl_nil ?_
          refine se_sd (fun _ w hw => all_ hw) ?_
          refine sd_yes2 11 rfl (by exact gd_) (by kernel_rfl) (by kernel_rfl) (by exact nop_) (PuI.all (by exact pv_Gh)) rfl (fun w hw => all_ hw) ?_
          refine sd_yes2 12 rfl (by exact gd_) (by kernel_rfl) (by kernel_rfl) (by exact nop_) (PuI.all (by exact pv_Gh)) rfl (fun w hw => all_ hw) ?_
          refine sd_yes2 13 rfl (by exact gd_) (by kernel_rfl) (by kernel_rfl) (by exact nop_) (PuI.all (by exact pv_Gh)) rfl (fun w hw => all_ hw) ?_
          refine sd_one 14 (by kernel_rfl) (sa_sl 14 rfl ?_)
          refine sl_alloc rfl rfl rfl ?_; intro g5
          refine sl_nil ?_
          refine se_sd (fun _ w hw => all_ hw) ?_
          refine sd_one 15 (by kernel_rfl) (sa_sl 15 rfl ?_)
          refine sto_Gh ?_
          refine sl_nil ?_
          refine se_sd (fun _ w hw => all_ hw) ?_
          refine sd_yes2 16 rfl (by exact gd_) (by kernel_rfl) (by kernel_rfl) (by exact nop_) (PuI.all (by exact pv_Gh)) rfl (fun w hw => all_ hw) ?_
          refine sd_done (by kernel_rfl) ?_
          exact se_mid g5 (by exact has_) (by exact sub_) trivial
        · refine sl_alloc rfl rfl rfl ?_; intro g5
          refine sl_nil ?_
          refine se_sd (fun _ w hw => all_ hw) ?_
          refine sd_one 10 (by kernel_rfl) (sa_sl 10 rfl ?_)
          repeat refine su_Gh ?_
          refine sl_nil ?_
          refine se_sd (fun _ w hw => all_ hw) ?_
          refine sd_yes2 11 rfl (by exact gd_) (by kernel_rfl) (by kernel_rfl) (by exact nop_) (PuI.all (by exact pv_Gh)) rfl (fun w hw => all_ hw) ?_
          refine sd_yes2 12 rfl (by exact gd_) (by kernel_rfl) (by kernel_rfl) (by exact nop_) (PuI.all (by exact pv_Gh)) rfl (fun w hw => all_ hw) ?_
          refine sd_yes2 13 rfl (by exact gd_) (by kernel_rfl) (by kernel_rfl) (by exact nop_) (PuI.all (by exact pv_Gh)) rfl (fun w hw => all_ hw) ?_
          refine sd_one 15 (by kernel_rfl) (sa_sl 15 rfl ?_)
          refine sto_Gh ?_
          refine sl_nil ?_
          refine se_sd (fun _ w hw => all_ hw) ?_
          refine sd_yes2 16 rfl (by exact gd_) (by kernel_rfl) (by kernel_rfl) (by exact nop_) (PuI.all (by exact pv_Gh)) rfl (fun w hw => all_ hw) ?_
          refine sd_done (by kernel_rfl) ?_
          exact se_mid g5 (by exact has_) (by exact sub_) trivial
      · refine sl_alloc rfl rfl rfl ?_; intro g5
        refine sl_nil ?_
        refine se_sd (fun _ w hw => all_ hw) ?_
        refine sd_one 9 (by kernel_rfl) (sa_sl 9 rfl ?_)
        refine sl_call rfl rfl (by kernel_rfl) rfl (by exact sub_) (start_ok hw h) ?_
        rintro _ -
        refine sl_nil ?_
        refine se_sd (fun _ w hw => all_ hw) ?_
        refine sd_one 10 (by kernel_rfl) (sa_sl 10 rfl ?_)
        repeat refine su_Gh ?_
        refine sl_nil ?_
        refine se_sd (fun _ w hw => all_ hw) ?_
        refine sd_yes2 11 rfl (by exact gd_) (by kernel_rfl) (by kernel_rfl) (by exact nop_) (PuI.all (by exact pv_Gh)) rfl (fun w hw => all_ hw) ?_
        refine sd_yes2 12 rfl (by exact gd_) (by kernel_rfl) (by kernel_rfl) (by exact nop_) (PuI.all (by exact pv_Gh)) rfl (fun w hw => all_ hw) ?_
        refine sd_yes2 13 rfl (by exact gd_) (by kernel_rfl) (by kernel_rfl) (by exact nop_) (PuI.all (by exact pv_Gh)) rfl (fun w hw => all_ hw) ?_
        refine sd_one 15 (by kernel_rfl) (sa_sl 15 rfl ?_)
        refine sto_Gh ?_
        refine sl_nil ?_
        refine se_sd (fun _ w hw => all_ hw) ?_
        refine sd_yes2 16 rfl (by exact gd_) (by kernel_rfl) (by kernel_rfl) (by exact nop_) (PuI.all (by exact pv_Gh)) rfl (fun w hw => all_ hw) ?_
        refine sd_done (by kernel_rfl) ?_
        exact se_mid g5 (by exact has_) (by exact sub_) trivial
    rintro g5 -
    by_cases h2 : fs.length = 32
    · rw [if_pos h2]
      have h3 : ((fs.map BM.ent).length : Int) = 32 := by rw [hml, h2]; rfl
      refine go_Gh ?_
      exact se_ret1 () trivial rfl rfl (by exact sub_)
    rw [if_neg h2]
    have h3 : ((fs.map BM.ent).length : Int) ≠ 32 := by rw [hml]; omega
    by_cases h4 : r.mx ≤ 0
    · rw [if_pos h4]
      refine go_Gh ?_
      ((refine sq_region (by kernel_rfl) (by kernel_rfl) ?_; (repeat refine rq_Gh ?_); refine sq_end ?_))
      refine go_Gh ?_
      exact se_ret1 () trivial rfl rfl (by exact sub_)
    · rw [if_neg h4]
      refine go_Gh ?_
      ((refine sq_region (by kernel_rfl) (by kernel_rfl) ?_; (repeat refine rq_Gh ?_); refine sq_end ?_))
      refine go_Gh ?_
      exact se_ret1 () trivial rfl rfl (by exact sub_)
  | some b =>
    obtain ⟨hb, hbs⟩ := bfind_some hf
    have hg := bget hb
    rw [hbs] at hg
    rw [show fitsE r fs now = if b.cl then 16 else if r.mx ≤ b.m then 18 else 0 by unfold fitsE; rw [if_neg h1, hf]]
    refine go_Gh ?_
    refine sc_join (α := Nat) (fun g5 => [(0, .pointer (some ⟨g, 0, none⟩)), (5, .pointer (some ⟨g5, 0, none⟩)), (6, .bool true)]) (fun g5 => blk g5 152 (bkC (stN r.w now) (tc b.A b.l.length b.c b.m b.k) b.cl) :: K) (fun _ => True) ?_ ?_
    · refine sd_drawn (fun W => AllP W [bB g t r m, bM m fs ck]) (fun _ => true) (by kernel_rfl) 17 rfl ?_
      refine sd_yes2 0 rfl (by exact gd_) (by kernel_rfl) (by kernel_rfl) (by exact nop_) (PuI.all (by exact pv_Gh)) rfl (fun w hw => all_ hw) ?_
      refine sd_yes2 1 rfl (by exact gd_) (by kernel_rfl) (by kernel_rfl) (by exact nop_) (PuI.all (by exact pv_Gh)) rfl (fun w hw => all_ hw) ?_
      refine sd_yes2 2 rfl (by exact gd_) (by kernel_rfl) (by kernel_rfl) (by exact nop_) (PuI.all (by exact pv_Gh)) rfl (fun w hw => all_ hw) ?_
      refine sd_yes2 3 rfl (by exact gd_) (by kernel_rfl) (by kernel_rfl) (by exact nop_) (PuI.all (by exact pv_Gh)) rfl (fun w hw => all_ hw) ?_
      refine sd_yes2 4 rfl (by exact gd_) (by kernel_rfl) (by kernel_rfl) (by exact nop_) (PuI.all (by exact pv_Gh)) rfl (fun w hw => all_ hw) ?_
      refine sd_yes2 5 rfl (by exact gd_) (by kernel_rfl) (by kernel_rfl) (by exact nop_) (PuI.all (by exact pv_Gh)) rfl (fun w hw => all_ hw) ?_
      refine sd_yes2 6 rfl (by exact gd_) (by kernel_rfl) (by kernel_rfl) (by exact nop_) (PuI.all (by exact pv_Gh)) rfl (fun w hw => all_ hw) ?_
      refine sd_yes2 7 rfl (by exact gd_) (by kernel_rfl) (by kernel_rfl) (by exact nop_) (PuI.all (by exact pv_Gh)) rfl (fun w hw => all_ hw) ?_
      refine sd_yes2 8 rfl (by exact gd_) (by kernel_rfl) (by kernel_rfl) (by exact nop_) (PuI.all (by exact pv_Gh)) rfl (fun w hw => all_ hw) ?_
      refine sd_two 9 14 (by kernel_rfl) (sa_sl 9 rfl ?_) (sa_sl 14 rfl ?_)
      · refine sl_call rfl rfl (by kernel_rfl) rfl (by exact sub_) (start_ok hw h) ?_
        rintro _ -
        refine sl_nil ?_
        refine se_sd (fun _ w hw => all_ hw) ?_
        refine sd_two 10 14 (by kernel_rfl) (sa_sl 10 rfl ?_) (sa_sl 14 rfl ?_)
        · repeat refine su_Gh ?_
          refine sl_nil ?_
          refine se_sd (fun _ w hw => all_ hw) ?_
          refine sd_yes2 11 rfl (by exact gd_) (by kernel_rfl) (by kernel_rfl) (by exact nop_) (PuI.all (by exact pv_Gh)) rfl (fun w hw => all_ hw) ?_
          refine sd_yes2 12 rfl (by exact gd_) (by kernel_rfl) (by kernel_rfl) (by exact nop_) (PuI.all (by exact pv_Gh)) rfl (fun w hw => all_ hw) ?_
          refine sd_yes2 13 rfl (by exact gd_) (by kernel_rfl) (by kernel_rfl) (by exact nop_) (PuI.all (by exact pv_Gh)) rfl (fun w hw => all_ hw) ?_
          refine sd_one 14 (by kernel_rfl) (sa_sl 14 rfl ?_)
          refine sl_alloc rfl rfl rfl ?_; intro g5
          refine sl_nil ?_
          refine se_sd (fun _ w hw => all_ hw) ?_
          refine sd_one 15 (by kernel_rfl) (sa_sl 15 rfl ?_)
          refine sto_Gh ?_
          refine sl_nil ?_
          refine se_sd (fun _ w hw => all_ hw) ?_
          refine sd_yes2 16 rfl (by exact gd_) (by kernel_rfl) (by kernel_rfl) (by exact nop_) (PuI.all (by exact pv_Gh)) rfl (fun w hw => all_ hw) ?_
          refine sd_done (by kernel_rfl) ?_
          exact se_mid g5 (by exact has_) (by exact sub_) trivial
        · refine sl_alloc rfl rfl rfl ?_; intro g5
          refine sl_nil ?_
          refine se_sd (fun _ w hw => all_ hw) ?_
          refine sd_one 10 (by kernel_rfl) (sa_sl 10 rfl ?_)
          repeat refine su_Gh ?_
          refine sl_nil ?_
          refine se_sd (fun _ w hw => all_ hw) ?_
          refine sd_yes2 11 rfl (by exact gd_) (by kernel_rfl) (by kernel_rfl) (by exact nop_) (PuI.all (by exact pv_Gh)) rfl (fun w hw => all_ hw) ?_
          refine sd_yes2 12 rfl (by exact gd_) (by kernel_rfl) (by kernel_rfl) (by exact nop_) (PuI.all (by exact pv_Gh)) rfl (fun w hw => all_ hw) ?_
          refine sd_yes2 13 rfl (by exact gd_) (by kernel_rfl) (by kernel_rfl) (by exact nop_) (PuI.all (by exact pv_Gh)) rfl (fun w hw => all_ hw) ?_
          refine sd_one 15 (by kernel_rfl) (sa_sl 15 rfl ?_)
          refine sto_Gh ?_
          refine sl_nil ?_
          refine se_sd (fun _ w hw => all_ hw) ?_
          refine sd_yes2 16 rfl (by exact gd_) (by kernel_rfl) (by kernel_rfl) (by exact nop_) (PuI.all (by exact pv_Gh)) rfl (fun w hw => all_ hw) ?_
          refine sd_done (by kernel_rfl) ?_
          exact se_mid g5 (by exact has_) (by exact sub_) trivial
      · refine sl_alloc rfl rfl rfl ?_; intro g5
        refine sl_nil ?_
        refine se_sd (fun _ w hw => all_ hw) ?_
        refine sd_one 9 (by kernel_rfl) (sa_sl 9 rfl ?_)
        refine sl_call rfl rfl (by kernel_rfl) rfl (by exact sub_) (start_ok hw h) ?_
        rintro _ -
        refine sl_nil ?_
        refine se_sd (fun _ w hw => all_ hw) ?_
        refine sd_one 10 (by kernel_rfl) (sa_sl 10 rfl ?_)
        repeat refine su_Gh ?_
        refine sl_nil ?_
        refine se_sd (fun _ w hw => all_ hw) ?_
        refine sd_yes2 11 rfl (by exact gd_) (by kernel_rfl) (by kernel_rfl) (by exact nop_) (PuI.all (by exact pv_Gh)) rfl (fun w hw => all_ hw) ?_
        refine sd_yes2 12 rfl (by exact gd_) (by kernel_rfl) (by kernel_rfl) (by exact nop_) (PuI.all (by exact pv_Gh)) rfl (fun w hw => all_ hw) ?_
        refine sd_yes2 13 rfl (by exact gd_) (by kernel_rfl) (by kernel_rfl) (by exact nop_) (PuI.all (by exact pv_Gh)) rfl (fun w hw => all_ hw) ?_
        refine sd_one 15 (by kernel_rfl) (sa_sl 15 rfl ?_)
        refine sto_Gh ?_
        refine sl_nil ?_
        refine se_sd (fun _ w hw => all_ hw) ?_
        refine sd_yes2 16 rfl (by exact gd_) (by kernel_rfl) (by kernel_rfl) (by exact nop_) (PuI.all (by exact pv_Gh)) rfl (fun w hw => all_ hw) ?_
        refine sd_done (by kernel_rfl) ?_
        exact se_mid g5 (by exact has_) (by exact sub_) trivial
    rintro g5 -
    cases hc : b.cl with
    | true =>
      rw [if_pos rfl]
      refine go_Gh ?_
      exact se_ret1 () trivial rfl rfl (by exact sub_)
    | false =>
      rw [if_neg (by decide)]
      by_cases h4 : r.mx ≤ b.m
      · rw [if_pos h4]
        refine go_Gh ?_
        ((refine sq_region (by kernel_rfl) (by kernel_rfl) ?_; (repeat refine rq_Gh ?_); refine sq_end ?_))
        refine go_Gh ?_
        exact se_ret1 () trivial rfl rfl (by exact sub_)
      · rw [if_neg h4]
        refine go_Gh ?_
        ((refine sq_region (by kernel_rfl) (by kernel_rfl) ?_; (repeat refine rq_Gh ?_); refine sq_end ?_))
        refine go_Gh ?_
        exact se_ret1 () trivial rfl rfl (by exact sub_)
end Go.Proofs.YtocaabnbmcpjmaaGreatDoor
/- Package store: Accept. -/
namespace Go.Proofs.YtocaabnbmcpjmaaGreatDoor
open Go.RowKit Go.MapKept
attribute [local irreducible] Go.Calls Go.Exit.then Go.Exit.inBlock Go.bodyPost Go.Code.wp Go.wpList takeL recordL hashL recL allL
/-- What Accept answers. -/
def accE (r : Rl) (lim : Int) (q : StM) (id : Id) (tm : Int) (np ns : Nat) : Int :=
  if hasI q.ss id then 14 else if 16384 < np ∨ 16384 < ns then 4 else if lim - q.ss.length < 1 then 18 else fitsE r q.fs tm
theorem accE_zero {r : Rl} {lim : Int} {q : StM} {id : Id} {tm : Int} {np ns : Nat} (h : accE r lim q id tm np ns = 0) : hasI q.ss id = false ∧ np ≤ 16384 ∧ ns ≤ 16384 ∧ (q.ss.length : Int) < lim ∧ fitsE r q.fs tm = 0 ∧ tm ≤ 1099511627776 := by
  unfold accE at h
  split at h
  · cases h
  · rename_i h1
    split at h
    · cases h
    · split at h
      · cases h
      · refine ⟨by simpa using h1, by omega, by omega, by omega, h, ?_⟩
        unfold fitsE at h
        split at h
        · cases h
        · omega
theorem accE_add {r : Rl} {lim : Int} {q : StM} {id : Id} {tm : Int} {np ns : Nat} (ht : 0 ≤ tm ∧ tm ≤ 18446744073709551615) (h : accE r lim q id tm np ns = 0) : addI lim q.ss ⟨id, tm, 30, ht, by decide⟩ = (0, insAt q.ss ⟨id, tm, 30, ht, by decide⟩) := by
  obtain ⟨h1, h2, h3, h4, h5, h6⟩ := accE_zero h
  unfold addI
  rw [if_neg (by dsimp only; omega), if_neg (by rw [h1]; decide), if_neg (by omega)]
theorem nth_Sks {φ : Prop} (h : φ := by (first | rfl | first | rfl | exact rpC_n16 | exact rpC_n17 | exact rpC_n18 | exact stC9_n9)) : φ := h
theorem mid_Sks {φ : Prop} (h : φ := by (first | first | exact rpC_id | exact stC9_mid | exact stC9_ci | exact Mid.all | exact Mid.all | exact Mid.head)) : φ := h
theorem sz_Sks {φ : Prop} (h : φ := by (first | rfl | ((try simp only [rpC_len, bytes_length, Id.len, Seen.len]); (first | done | rfl); first | done | fail))) : φ := h
theorem one_Sks {φ : Prop} (h : φ := by (first | assumption | exact first | exact one_bytes _ | exact rpC_one rfl rfl | exact Seen.one _ | (simp only [List.mem_cons, List.not_mem_nil, or_false, forall_eq_or_imp, forall_eq]; decide) | exact one_bytes _ | (intro v hv; (repeat (rcases List.mem_cons.1 hv with rfl | hv; rfl)); cases hv))) : φ := h
theorem set_Sks {φ : Prop} (h : φ := by (first | (first | exact rpC_set16 | exact rpC_set17 | exact rpC_set18) | ((repeat (first | exact SetAt.here | apply SetAt.there)); first | done | fail))) : φ := h
theorem cl_Sks {φ : Prop} (h : φ := by first | rfl | exact .t | exact .f | exact .t (by omega) | exact .f (by omega) | exact .u | exact .i (by (first | exact .t (by omega) | exact .f (by omega) | exact .u | exact .i (by omega) | exact .v (by omega) | exact .b (by omega) | exact .w | rfl | omega)) | exact .v (by omega) | exact .b (by omega) | exact .q (by omega) | exact .w | exact .b (by exact at_) rfl (by exact nth_Sks) | exact .w (by exact at_) rfl rfl (by exact sz_Sks) | exact .s (by exact at_) (by exact mid_Sks) rfl rfl (by exact sz_Sks) | exact .z rfl rfl ⟨by kernel_rfl⟩ | exact .b rfl rfl ⟨by kernel_rfl⟩ | exact .a rfl rfl ⟨by kernel_rfl⟩ | exact .o rfl | exact .s | exact .n | exact .p rfl | exact .q rfl | exact .c rfl | exact .d rfl | exact .n rfl rfl (by omega) | exact .a rfl rfl (by omega) | exact .p rfl rfl (by omega) (by omega) | exact .y rfl rfl (by omega) (by omega) | exact .o (by exact at_) (by omega) rfl (by exact nth_Sks) | exact .m (by exact at_) (by omega) (by exact mid_Sks) rfl rfl (by exact sz_Sks) | exact .mlen (by exact at_) rfl | exact .t (by exact at_) rfl rfl (by first | exact True.intro | rfl) (by assumption) | exact .f (by exact at_) rfl rfl (by first | exact True.intro | rfl) (by assumption) rfl | exact .t1 (by exact at_) rfl rfl (by first | exact True.intro | rfl) (by assumption) | exact .f1 (by exact at_) rfl rfl (by first | exact True.intro | rfl) (by assumption) rfl | exact .tk (by exact at_) rfl (by assumption) (by assumption) | exact .fk (by exact at_) rfl (by assumption) (by assumption) rfl | exact .tk1 (by exact at_) rfl (by assumption) (by assumption) | exact .fk1 (by exact at_) rfl (by assumption) (by assumption) rfl | exact .r rfl rfl (by omega) (by omega) (by exact nth_Sks) rfl | exact .s rfl (by omega) (by assumption) | exact at_ | assumption | exact .r rfl rfl | exact .h rfl rfl rfl (by omega) | exact .l rfl rfl rfl (by omega) (by omega) | exact .g rfl rfl rfl rfl (by omega) (by omega) | exact .h rfl rfl (toN_ (by omega)) (by omega) | exact .l rfl rfl (toN_ (by omega)) (by omega) (by omega) | exact .g rfl rfl (toN_ (by omega)) (toN_ (by omega)) (by omega) (by omega) | exact .o (by decide) | exact .f (by decide) | exact .n (by omega) (by first | decide | (show _ ≤ ((64 : Nat) : Int); omega)) | (constructor; (repeat (first | exact .t (by omega) | exact .f (by omega) | exact .u | exact .i (by omega) | exact .v (by omega) | exact .b (by omega) | exact .w | rfl | omega)); first | done | fail) | omega | (show _ ≤ ((64 : Nat) : Int); omega)) : φ := h
theorem pv_Sks {φ : Prop} (h : φ := by constructor; (repeat exact cl_Sks); first | done | fail) : φ := h
theorem su_Sks {φ ψ : Prop} (k : ψ) (h : Hide ψ → φ := by (intro k; (first | refine sl_pu (PuI.sep (by exact pv_Sks)) rfl ?_ | refine sl_yes rfl rfl ?_ | refine sl_no rfl rfl rfl ?_ | refine sl_off rfl rfl rfl ?_ | (fail)); exact k.out)) : φ := h ⟨k⟩
theorem sto_Sks {φ ψ : Prop} (k : ψ) (h : Hide ψ → φ := by (intro k; (first | refine sl_store rfl (by exact pick_) rfl rfl (by kernel_rfl) (by exact set_Sks) ?_ | refine sl_store_whole rfl (by exact pick_) rfl (by exact sz_Sks) (by exact sz_Sks) (by exact one_Sks) ?_); exact k.out)) : φ := h ⟨k⟩
theorem go_Sks {φ ψ : Prop} (k : ψ) (h : Hide ψ → φ := by (intro k; (repeat (first | refine su_Sks ?_ | refine so_ ?_ | refine sto_Sks ?_)); exact k.out)) : φ := h ⟨k⟩
/-- A report taken up. -/
structure AcR where
  q : StM
  f : DF
  ck : Nat
def saP (e : Int) (lim tm : Int) (ht : 0 ≤ tm ∧ tm ≤ 18446744073709551615) (q : StM) (id : Id) (p s : List Int) (ls : List (List Int)) (σ : Nat) : Option AcR → Prop
  | none => e ≠ 0
  | some z => e = 0 ∧ JFl (ls ++ [1 :: rcAcc id tm p s]) σ z.f ∧ ∃ A1 c1 pA pc sA sc, z.q = q.acc lim ⟨id, tm, 30, ht, by decide⟩ A1 c1 ⟨id, tm, pA, pc, p, sA, sc, s, q.cw⟩
def saH (g gd md : Nat) (t : Ta) (r : Rl) (lim limd tm : Int) (q : StM) (id : Id) (p s : List Int) (ls : List (List Int)) (fs : List DF) (ckd : Nat) (K : List Fa) : Option AcR → List Fa
  | none => sF g t r lim q (jC q.gj gd sj (cellsA ls) :: dB gd md limd :: dM md fs ckd :: dS fs :: K)
  | some z => sF g t r lim z.q (jC z.q.gj gd sj (cellsA (ls ++ [1 :: rcAcc id tm p s])) :: dB gd md limd :: dM md [z.f] z.ck :: dS [z.f] :: K)
set_option maxRecDepth 100000 in
set_option maxHeartbeats 8000000 in
theorem sAccept_ok {K : List Fa} {g gd md σ ckd : Nat} {t : Ta} {r : Rl} {lim limd tm : Int} {q : StM} {ls : List (List Int)} {fs : List DF} {id : Id} {pA sA : Option Addr} {p s : List Int} {pc sc : Nat} (hrw : 0 ≤ r.w) (hlm : 0 ≤ lim ∧ lim ≤ 256) (ht : 0 ≤ tm ∧ tm ≤ 18446744073709551615) (hs : Srt q.ss) (hn : q.ss.length ≤ 1000000)
    (hno : hasI q.ss id = false → wfind q.ws id = none) (hpv : Vw K (fun w => Reads w 1 pA p.length (bytes p))) (hsv : Vw K (fun w => Reads w 1 sA s.length (bytes s)))
    (hJ : accE r lim q id tm p.length s.length = 0 → JSt ls fs ckd σ ∧ IsBytes (1 :: rcAcc id tm p s) ∧ (1 :: rcAcc id tm p s).length ≤ 5000 ∧ cellsA ls ≤ 16000 ∧ (((cellsA ls + manyL (1 :: rcAcc id tm p s).length) * 64 : Nat) : Int) ≤ limd ∧ limd ≤ 1048576) :
    Fn Tryz.prog 31 #[.pointer (some ⟨g, 0, none⟩), .agg (rpC id tm (.slice pA p.length pc) (.slice sA s.length sc)).toArray] (sF g t r lim q (jC q.gj gd sj (cellsA ls) :: dB gd md limd :: dM md fs ckd :: dS fs :: K))
      (Ret (saP (accE r lim q id tm p.length s.length) lim tm ht q id p s ls σ) (fun _ => .int .i64 (accE r lim q id tm p.length s.length)) (saH g gd md t r lim limd tm q id p s ls fs ckd K)) := by
  refine fn_enter Tryz.func31 rfl _ Tryz.ntmps31 (by simp) [(0, .pointer (some ⟨g, 0, none⟩)), (1, .agg (rpC id tm (.slice pA p.length pc) (.slice sA s.length sc)).toArray)] (args_of (by simp)) ?_
  refine go_Sks ?_
  refine sl_box rfl rfl rfl ?_; intro g3
  refine go_Sks ?_
  obtain ⟨K1, hK1⟩ : ∃ K1, K1 = jC q.gj gd sj (cellsA ls) :: dB gd md limd :: dM md fs ckd :: dS fs :: K := ⟨_, rfl⟩
  rw [← hK1]
  refine sc_join (α := Nat) (fun _ => [(0, .pointer (some ⟨g, 0, none⟩)), (3, .pointer (some ⟨g3, 0, none⟩)), (6, .bool (hasI q.ss id))]) (fun _ => blk g3 108 (rpC id tm (.slice pA p.length pc) (.slice sA s.length sc)) :: sF g t r lim q K1) (fun _ => True) ?_ ?_
  · refine sd_drawn (fun W => AllP W [sB g t q.gj q.gi q.gb q.mw q.ms q.life, blk g3 108 (rpC id tm (.slice pA p.length pc) (.slice sA s.length sc))]) (fun _ => true) (by kernel_rfl) 13 rfl ?_
    refine sd_yes2 0 rfl (by exact gd_) (by kernel_rfl) (by kernel_rfl) (by exact nop_) (PuI.all (by exact pv_Sks)) rfl (fun w hw => all_ hw) ?_
    refine sd_yes2 1 rfl (by exact gd_) (by kernel_rfl) (by kernel_rfl) (by exact nop_) (PuI.all (by exact pv_Sks)) rfl (fun w hw => all_ hw) ?_
    refine sd_yes2 2 rfl (by exact gd_) (by kernel_rfl) (by kernel_rfl) (by exact nop_) (PuI.all (by exact pv_Sks)) rfl (fun w hw => all_ hw) ?_
    refine sd_yes2 3 rfl (by exact gd_) (by kernel_rfl) (by kernel_rfl) (by exact nop_) (PuI.all (by exact pv_Sks)) rfl (fun w hw => all_ hw) ?_
    refine sd_yes2 4 rfl (by exact gd_) (by kernel_rfl) (by kernel_rfl) (by exact nop_) (PuI.all (by exact pv_Sks)) rfl (fun w hw => all_ hw) ?_
    refine sd_yes2 5 rfl (by exact gd_) (by kernel_rfl) (by kernel_rfl) (by exact nop_) (PuI.all (by exact pv_Sks)) rfl (fun w hw => all_ hw) ?_
    refine sd_two 6 10 (by kernel_rfl) (sa_sl 6 rfl ?_) (sa_sl 10 rfl ?_)
    · refine sl_call rfl rfl (by kernel_rfl) rfl (by exact Sub.cons (by exact pick_) (Sub.cons (by exact pick_) Sub.refl)) (get_ok (x := q.gi) (A := q.iA) (c := q.ic) (lim := lim) (ss := q.ss) id hs hn) ?_
      rintro _ -
      refine sl_nil ?_
      refine se_sd (fun _ w hw => all_ hw) ?_
      refine sd_yes2 7 rfl (by exact gd_) (by kernel_rfl) (by kernel_rfl) (by exact nop_) (PuI.all (by exact pv_Sks)) rfl (fun w hw => all_ hw) ?_
      refine sd_yes2 8 rfl (by exact gd_) (by kernel_rfl) (by kernel_rfl) (by exact nop_) (PuI.all (by exact pv_Sks)) rfl (fun w hw => all_ hw) ?_
      refine sd_yes2 9 rfl (by exact gd_) (by kernel_rfl) (by kernel_rfl) (by exact nop_) (PuI.all (by exact pv_Sks)) rfl (fun w hw => all_ hw) ?_
      refine sd_one 10 (by kernel_rfl) (sa_sl 10 rfl ?_)
      refine sl_alloc rfl rfl rfl ?_; intro g5
      refine sl_nil ?_
      refine se_sd (fun _ w hw => all_ hw) ?_
      refine sd_one 11 (by kernel_rfl) (sa_sl 11 rfl ?_)
      refine sl_store_whole (cl := (gotI q.ss id).cells) rfl (by exact pick_) rfl (by rw [Seen.len]; rfl) (by rw [Seen.len]; rfl) (Seen.one _) ?_
      refine sl_nil ?_
      refine se_sd (fun _ w hw => all_ hw) ?_
      refine sd_yes2 12 rfl (by exact gd_) (by kernel_rfl) (by kernel_rfl) (by exact nop_) (PuI.all (by exact pv_Sks)) rfl (fun w hw => all_ hw) ?_
      refine sd_done (by kernel_rfl) ?_
      exact se_mid 0 (by exact has_) (by exact sub_) trivial
    · refine sl_alloc rfl rfl rfl ?_; intro g5
      refine sl_nil ?_
      refine se_sd (fun _ w hw => all_ hw) ?_
      refine sd_one 6 (by kernel_rfl) (sa_sl 6 rfl ?_)
      refine sl_call rfl rfl (by kernel_rfl) rfl (by exact Sub.cons (by exact pick_) (Sub.cons (by exact pick_) Sub.refl)) (get_ok (x := q.gi) (A := q.iA) (c := q.ic) (lim := lim) (ss := q.ss) id hs hn) ?_
      rintro _ -
      refine sl_nil ?_
      refine se_sd (fun _ w hw => all_ hw) ?_
      refine sd_yes2 7 rfl (by exact gd_) (by kernel_rfl) (by kernel_rfl) (by exact nop_) (PuI.all (by exact pv_Sks)) rfl (fun w hw => all_ hw) ?_
      refine sd_yes2 8 rfl (by exact gd_) (by kernel_rfl) (by kernel_rfl) (by exact nop_) (PuI.all (by exact pv_Sks)) rfl (fun w hw => all_ hw) ?_
      refine sd_yes2 9 rfl (by exact gd_) (by kernel_rfl) (by kernel_rfl) (by exact nop_) (PuI.all (by exact pv_Sks)) rfl (fun w hw => all_ hw) ?_
      refine sd_one 11 (by kernel_rfl) (sa_sl 11 rfl ?_)
      refine sl_store_whole (cl := (gotI q.ss id).cells) rfl (by exact pick_) rfl (by rw [Seen.len]; rfl) (by rw [Seen.len]; rfl) (Seen.one _) ?_
      refine sl_nil ?_
      refine se_sd (fun _ w hw => all_ hw) ?_
      refine sd_yes2 12 rfl (by exact gd_) (by kernel_rfl) (by kernel_rfl) (by exact nop_) (PuI.all (by exact pv_Sks)) rfl (fun w hw => all_ hw) ?_
      refine sd_done (by kernel_rfl) ?_
      exact se_mid 0 (by exact has_) (by exact sub_) trivial
  rintro _ -
  cases hh : hasI q.ss id with
  | true =>
    rw [show accE r lim q id tm p.length s.length = 14 by unfold accE; rw [if_pos hh]]
    refine go_Sks ?_
    exact se_ret1 none (show (_ : Int) ≠ 0 from by decide) rfl rfl (by rw [hK1]; exact sub_)
  | false =>
    by_cases hl : 16384 < p.length ∨ 16384 < s.length
    · rw [show accE r lim q id tm p.length s.length = 4 by unfold accE; rw [if_neg (by rw [hh]; decide), if_pos hl]]
      by_cases hl1 : 16384 < p.length
      · refine go_Sks ?_
        exact se_ret1 none (show (_ : Int) ≠ 0 from by decide) rfl rfl (by rw [hK1]; exact sub_)
      · have hl2 : 16384 < s.length := by omega
        refine go_Sks ?_
        exact se_ret1 none (show (_ : Int) ≠ 0 from by decide) rfl rfl (by rw [hK1]; exact sub_)
    · have hl1 : ¬ 16384 < p.length := by omega
      have hl2 : ¬ 16384 < s.length := by omega
      by_cases h8 : lim - q.ss.length < 1
      · rw [show accE r lim q id tm p.length s.length = 18 by unfold accE; rw [if_neg (by rw [hh]; decide), if_neg hl, if_pos h8]]
        refine go_Sks ?_
        refine sl_call rfl rfl (by kernel_rfl) rfl (by exact Sub.cons (by exact pick_) Sub.refl) (room_ok (x := q.gi) (A := q.iA) (c := q.ic) (n := q.ss.length) hlm hn) ?_
        rintro _ -
        refine go_Sks ?_
        exact se_ret1 none (show (_ : Int) ≠ 0 from by decide) rfl rfl (by rw [hK1]; exact sub_)
      · rw [show accE r lim q id tm p.length s.length = fitsE r q.fs tm by unfold accE; rw [if_neg (by rw [hh]; decide), if_neg hl, if_neg h8]] at hJ ⊢
        refine go_Sks ?_
        refine sl_call rfl rfl (by kernel_rfl) rfl (by exact Sub.cons (by exact pick_) Sub.refl) (room_ok (x := q.gi) (A := q.iA) (c := q.ic) (n := q.ss.length) hlm hn) ?_
        rintro _ -
        refine go_Sks ?_
        refine sc_join (α := Nat) (fun _ => [(0, .pointer (some ⟨g, 0, none⟩)), (3, .pointer (some ⟨g3, 0, none⟩)), (7, .int .i64 (fitsE r q.fs tm))]) (fun _ => blk g3 108 (rpC id tm (.slice pA p.length pc) (.slice sA s.length sc)) :: sF g t r lim q K1) (fun _ => True) ?_ ?_
        · refine sd_drawn (fun W => AllP W [sB g t q.gj q.gi q.gb q.mw q.ms q.life, blk g3 108 (rpC id tm (.slice pA p.length pc) (.slice sA s.length sc))]) (fun _ => true) (by kernel_rfl) 8 rfl ?_
          refine sd_yes2 0 rfl (by exact gd_) (by kernel_rfl) (by kernel_rfl) (by exact nop_) (PuI.all (by exact pv_Sks)) rfl (fun w hw => all_ hw) ?_
          refine sd_yes2 1 rfl (by exact gd_) (by kernel_rfl) (by kernel_rfl) (by exact nop_) (PuI.all (by exact pv_Sks)) rfl (fun w hw => all_ hw) ?_
          refine sd_yes2 2 rfl (by exact gd_) (by kernel_rfl) (by kernel_rfl) (by exact nop_) (PuI.all (by exact pv_Sks)) rfl (fun w hw => all_ hw) ?_
          refine sd_yes2 3 rfl (by exact gd_) (by kernel_rfl) (by kernel_rfl) (by exact nop_) (PuI.all (by exact pv_Sks)) rfl (fun w hw => all_ hw) ?_
          refine sd_yes2 4 rfl (by exact gd_) (by kernel_rfl) (by kernel_rfl) (by exact nop_) (PuI.all (by exact pv_Sks)) rfl (fun w hw => all_ hw) ?_
          refine sd_yes2 5 rfl (by exact gd_) (by kernel_rfl) (by kernel_rfl) (by exact nop_) (PuI.all (by exact pv_Sks)) rfl (fun w hw => all_ hw) ?_
          refine sd_one 6 (by kernel_rfl) (sa_sl 6 rfl ?_)
          refine sl_call rfl rfl (by kernel_rfl) rfl Sub.refl (fits_ok (g := q.gb) (m := q.mb) (ck := q.cb) (t := t) (r := r) (fs := q.fs) (now := tm) (by exact at_) (by exact at_) hrw ht) ?_
          rintro _ -
          refine sl_nil ?_
          refine se_sd (fun _ w hw => all_ hw) ?_
          refine sd_yes2 7 rfl (by exact gd_) (by kernel_rfl) (by kernel_rfl) (by exact nop_) (PuI.all (by exact pv_Sks)) rfl (fun w hw => all_ hw) ?_
          refine sd_done (by kernel_rfl) ?_
          exact se_mid 0 (by exact has_) (by exact sub_) trivial
        rintro _ -
        by_cases hf : fitsE r q.fs tm = 0
        · obtain ⟨hJ1, hJ2, hJ3, hJ4, hJ5, hJ6⟩ := hJ hf
          have haE : accE r lim q id tm p.length s.length = 0 := by unfold accE; rw [if_neg (by rw [hh]; decide), if_neg hl, if_neg h8, hf]
          have haI := accE_add ht haE
          rw [hf]
          refine go_Sks ?_
          subst hK1
          refine sc_join (α := (Option Addr × Nat) × (Option Addr × Nat)) (fun _ => [(0, .pointer (some ⟨g, 0, none⟩)), (3, .pointer (some ⟨g3, 0, none⟩))])
            (fun z => blk g3 108 (rpC id tm (.slice z.1.1 p.length z.1.2) (.slice z.2.1 s.length z.2.2)) :: u8o z.1.1 z.1.2 p :: u8o z.2.1 z.2.2 s :: sF g t r lim q (jC q.gj gd sj (cellsA ls) :: dB gd md limd :: dM md fs ckd :: dS fs :: K)) (fun _ => True) ?_ ?_
          · refine sd_drawn (fun W => AllP W []) (fun _ => true) (by kernel_rfl) 10 rfl ?_
            refine sd_yes2 0 rfl (by exact gd_) (by kernel_rfl) (by kernel_rfl) (by exact nop_) (PuI.all (by exact pv_Sks)) rfl (fun w hw => all_ hw) ?_
            refine sd_yes2 3 rfl (by exact gd_) (by kernel_rfl) (by kernel_rfl) (by exact nop_) (PuI.all (by exact pv_Sks)) rfl (fun w hw => all_ hw) ?_
            refine sd_two 1 4 (by kernel_rfl) (sa_sl 1 rfl ?_) (sa_sl 4 rfl ?_)
            · repeat refine su_Sks ?_
              refine sl_nil ?_
              refine se_sd (fun _ w hw => all_ hw) ?_
              refine sd_two 2 4 (by kernel_rfl) (sa_sl 2 rfl ?_) (sa_sl 4 rfl ?_)
              · refine sl_call rfl rfl (by kernel_rfl) rfl Sub.refl (clone_ok (hpv.mono (by exact sub_)) (by omega)) ?_
                rintro ⟨A1, c1⟩ -
                refine sl_nil ?_
                refine se_sd (fun _ w hw => all_ hw) ?_
                refine sd_one 4 (by kernel_rfl) (sa_sl 4 rfl ?_)
                repeat refine su_Sks ?_
                refine sl_nil ?_
                refine se_sd (fun _ w hw => all_ hw) ?_
                refine sd_one 5 (by kernel_rfl) (sa_sl 5 rfl ?_)
                refine sl_call rfl rfl (by kernel_rfl) rfl Sub.refl (clone_ok (hsv.mono (by exact sub_)) (by omega)) ?_
                rintro ⟨A2, c2⟩ -
                refine sl_nil ?_
                refine se_sd (fun _ w hw => all_ hw) ?_
                refine sd_yes2 6 rfl (by exact gd_) (by kernel_rfl) (by kernel_rfl) (by exact nop_) (PuI.all (by exact pv_Sks)) rfl (fun w hw => all_ hw) ?_
                refine sd_one 7 (by kernel_rfl) (sa_sl 7 rfl ?_)
                refine sto_Sks ?_
                refine sl_nil ?_
                refine se_sd (fun _ w hw => all_ hw) ?_
                refine sd_yes2 8 rfl (by exact gd_) (by kernel_rfl) (by kernel_rfl) (by exact nop_) (PuI.all (by exact pv_Sks)) rfl (fun w hw => all_ hw) ?_
                refine sd_one 9 (by kernel_rfl) (sa_sl 9 rfl ?_)
                refine sto_Sks ?_
                refine sl_nil ?_
                refine se_sd (fun _ w hw => all_ hw) ?_
                refine sd_done (by kernel_rfl) ?_
                exact se_mid ((A1, c1), (A2, c2)) (by exact has_) (by exact sub_) trivial
              · repeat refine su_Sks ?_
                refine sl_nil ?_
                refine se_sd (fun _ w hw => all_ hw) ?_
                refine sd_one 2 (by kernel_rfl) (sa_sl 2 rfl ?_)
                refine sl_call rfl rfl (by kernel_rfl) rfl Sub.refl (clone_ok (hpv.mono (by exact sub_)) (by omega)) ?_
                rintro ⟨A1, c1⟩ -
                refine sl_nil ?_
                refine se_sd (fun _ w hw => all_ hw) ?_
                refine sd_one 5 (by kernel_rfl) (sa_sl 5 rfl ?_)
                refine sl_call rfl rfl (by kernel_rfl) rfl Sub.refl (clone_ok (hsv.mono (by exact sub_)) (by omega)) ?_
                rintro ⟨A2, c2⟩ -
                refine sl_nil ?_
                refine se_sd (fun _ w hw => all_ hw) ?_
                refine sd_yes2 6 rfl (by exact gd_) (by kernel_rfl) (by kernel_rfl) (by exact nop_) (PuI.all (by exact pv_Sks)) rfl (fun w hw => all_ hw) ?_
                refine sd_one 7 (by kernel_rfl) (sa_sl 7 rfl ?_)
                refine sto_Sks ?_
                refine sl_nil ?_
                refine se_sd (fun _ w hw => all_ hw) ?_
                refine sd_yes2 8 rfl (by exact gd_) (by kernel_rfl) (by kernel_rfl) (by exact nop_) (PuI.all (by exact pv_Sks)) rfl (fun w hw => all_ hw) ?_
                refine sd_one 9 (by kernel_rfl) (sa_sl 9 rfl ?_)
                refine sto_Sks ?_
                refine sl_nil ?_
                refine se_sd (fun _ w hw => all_ hw) ?_
                refine sd_done (by kernel_rfl) ?_
                exact se_mid ((A1, c1), (A2, c2)) (by exact has_) (by exact sub_) trivial
            · repeat refine su_Sks ?_
              refine sl_nil ?_
              refine se_sd (fun _ w hw => all_ hw) ?_
              refine sd_one 1 (by kernel_rfl) (sa_sl 1 rfl ?_)
              repeat refine su_Sks ?_
              refine sl_nil ?_
              refine se_sd (fun _ w hw => all_ hw) ?_
              refine sd_one 2 (by kernel_rfl) (sa_sl 2 rfl ?_)
              refine sl_call rfl rfl (by kernel_rfl) rfl Sub.refl (clone_ok (hpv.mono (by exact sub_)) (by omega)) ?_
              rintro ⟨A1, c1⟩ -
              refine sl_nil ?_
              refine se_sd (fun _ w hw => all_ hw) ?_
              refine sd_one 5 (by kernel_rfl) (sa_sl 5 rfl ?_)
              refine sl_call rfl rfl (by kernel_rfl) rfl Sub.refl (clone_ok (hsv.mono (by exact sub_)) (by omega)) ?_
              rintro ⟨A2, c2⟩ -
              refine sl_nil ?_
              refine se_sd (fun _ w hw => all_ hw) ?_
              refine sd_yes2 6 rfl (by exact gd_) (by kernel_rfl) (by kernel_rfl) (by exact nop_) (PuI.all (by exact pv_Sks)) rfl (fun w hw => all_ hw) ?_
              refine sd_one 7 (by kernel_rfl) (sa_sl 7 rfl ?_)
              refine sto_Sks ?_
              refine sl_nil ?_
              refine se_sd (fun _ w hw => all_ hw) ?_
              refine sd_yes2 8 rfl (by exact gd_) (by kernel_rfl) (by kernel_rfl) (by exact nop_) (PuI.all (by exact pv_Sks)) rfl (fun w hw => all_ hw) ?_
              refine sd_one 9 (by kernel_rfl) (sa_sl 9 rfl ?_)
              refine sto_Sks ?_
              refine sl_nil ?_
              refine se_sd (fun _ w hw => all_ hw) ?_
              refine sd_done (by kernel_rfl) ?_
              exact se_mid ((A1, c1), (A2, c2)) (by exact has_) (by exact sub_) trivial
          rintro ⟨⟨A1, c1⟩, ⟨A2, c2⟩⟩ -
          dsimp only
          refine go_Sks ?_
          refine sl_call rfl rfl (by kernel_rfl) rfl (by exact sub_) (note_ok (K := blk g3 108 (rpC id tm (.slice A1 p.length c1) (.slice A2 s.length c2)) :: u8o A1 c1 p :: u8o A2 c2 s :: ixb q.gi q.iA q.ss.length q.ic lim :: ixo q.iA q.ic q.ss :: bB q.gb t r q.mb :: bM q.mb q.fs q.cb :: bS q.fs :: wM q.mw q.ws q.cw :: wS q.ws :: dMm q.ms q.sd q.cs :: dSs q.sd :: K)
            (g := g) (gj := q.gj) (gi := q.gi) (gb := q.gb) (mw := q.mw) (ms := q.ms) (gd := gd) (md := md) (t := t) (life := q.life) (lim := limd) (kind := 1) (f := 65) (caps := [.pointer (some ⟨g3, 0, none⟩)]) (bs := rcAcc id tm p s)
            (by kernel_rfl) hJ1 hJ2 hJ3 hJ4 hJ5 hJ6 (fun b A c => fAcc_ok (by exact at_) ht (Vw.of_own (e := 5) (A := A1) (c := c1) (by exact at_)) (Vw.of_own (e := 5) (A := A2) (c := c2) (by exact at_)) (by omega) (by omega))) ?_
          rintro ⟨f, ck2⟩ hf2
          dsimp only at hf2 ⊢
          have hsa := saccept_ok (K := blk g3 108 (rpC id tm (.slice A1 p.length c1) (.slice A2 s.length c2)) :: bB q.gb t r q.mb :: bM q.mb q.fs q.cb :: bS q.fs :: dMm q.ms q.sd q.cs :: dSs q.sd :: jC q.gj gd sj (cellsA (ls ++ [1 :: rcAcc id tm p s])) :: dB gd md limd :: dM md [f] ck2 :: dS [f] :: K) (g := g) (gj := q.gj) (gi := q.gi) (gb := q.gb) (mw := q.mw) (ms := q.ms) (t := t) (life := q.life) (lim := lim) (iA := q.iA) (ic := q.ic) (ck := q.cw) (ws := q.ws) (pA := A1) (sA := A2) (pc := c1) (sc := c2) (p := p) (s := s) hs hn ht hno
          rw [haI] at hsa
          simp only [↓reduceIte] at hsa
          refine go_Sks ?_
          refine sl_call rfl rfl (by kernel_rfl) rfl (by exact sub_) hsa ?_
          rintro ⟨A3, c3⟩ -
          dsimp only
          have hq2 : q.acc lim ⟨id, tm, 30, ht, by decide⟩ A3 c3 ⟨id, tm, A1, c1, p, A2, c2, s, q.cw⟩ = { q with iA := A3, ic := c3, ss := insAt q.ss ⟨id, tm, 30, ht, by decide⟩, ws := q.ws ++ [⟨id, tm, A1, c1, p, A2, c2, s, q.cw⟩], cw := q.cw + 1 } := by unfold StM.acc; rw [haI]; rfl
          refine go_Sks ?_
          exact se_ret1 (some ⟨_, f, ck2⟩) ⟨rfl, hf2, A3, c3, A1, c1, A2, c2, hq2.symm⟩ rfl rfl (by exact sub_)
        · refine go_Sks ?_
          exact se_ret1 none hf rfl rfl (by rw [hK1]; exact sub_)
end Go.Proofs.YtocaabnbmcpjmaaGreatDoor
/- Package bucket: Add, Close. -/
namespace Go.Proofs.YtocaabnbmcpjmaaGreatDoor
open Go.RowKit Go.MapKept
attribute [local irreducible] Go.Calls Go.Exit.then Go.Exit.inBlock Go.bodyPost Go.Code.wp Go.wpList
attribute [local irreducible] hashL ofId
/-- A report more in a bucket. -/
def BK.add (b : BK) (fl : Int) (id : Id) (ys : List Int) (g : Nat) : BK := ⟨b.st, some ⟨g, 0, none⟩, b.l.length, addV fl b.l ys, b.m + 1, xorI b.k (ofId id), b.cl, b.bn⟩
end Go.Proofs.YtocaabnbmcpjmaaGreatDoor
/- Two arrays of numbers: are they the same? No program is in sight. -/
namespace Go.Proofs.YtocaabnbmcpjmaaGreatDoor
open Go.RowKit
def nums (k : IntKind) (xs : List Int) : List Value := xs.map (Value.int k)
section
variable {P : Program} (w : World)
end
section
variable {P : Program} {C : World → Prop} {n : Nat} {l : Env} {ty t t' e : TypeId} {x y : Operand} {xs ys : List Int} {N : Nat} {k k' : IntKind}
end
end Go.Proofs.YtocaabnbmcpjmaaGreatDoor
/- Package bucket: Close, List of nil; elements compared. -/
namespace Go.Proofs.YtocaabnbmcpjmaaGreatDoor
open Go.RowKit Go.MapKept
attribute [local irreducible] Go.Calls Go.Exit.then Go.Exit.inBlock Go.bodyPost Go.Code.wp Go.wpList
attribute [local irreducible] hashL ofId
section
variable {C : World → Prop} {n : Nat} {l : Env} {ty t' : TypeId} {x y : Operand} {u v : Int}
end
def BK.shut (b : BK) : BK := { b with cl := true }
end Go.Proofs.YtocaabnbmcpjmaaGreatDoor
/- Package store: methods of nil; Waits, Life. -/
namespace Go.Proofs.YtocaabnbmcpjmaaGreatDoor
open Go.RowKit Go.MapKept
attribute [local irreducible] Go.Calls Go.Exit.then Go.Exit.inBlock Go.bodyPost Go.Code.wp Go.wpList takeL recordL hashL recL allL
end Go.Proofs.YtocaabnbmcpjmaaGreatDoor
/- Package store: Waits, Life. -/
namespace Go.Proofs.YtocaabnbmcpjmaaGreatDoor
open Go.RowKit Go.MapKept
attribute [local irreducible] Go.Calls Go.Exit.then Go.Exit.inBlock Go.bodyPost Go.Code.wp Go.wpList takeL recordL hashL recL allL
end Go.Proofs.YtocaabnbmcpjmaaGreatDoor
/- Package store: Seen, Said. -/
namespace Go.Proofs.YtocaabnbmcpjmaaGreatDoor
open Go.RowKit Go.MapKept
attribute [local irreducible] Go.Calls Go.Exit.then Go.Exit.inBlock Go.bodyPost Go.Code.wp Go.wpList takeL recordL hashL recL allL
theorem nth_Skx {φ : Prop} (h : φ := by (first | rfl | first | rfl | exact rpC_n16 | exact rpC_n17 | exact rpC_n18 | exact stC9_n9)) : φ := h
theorem mid_Skx {φ : Prop} (h : φ := by (first | first | exact rpC_id | exact stC9_mid | exact stC9_ci | exact Mid.all | exact Mid.all | exact Mid.head)) : φ := h
theorem sz_Skx {φ : Prop} (h : φ := by (first | rfl | ((try simp only [Wt.cells, rpC_len, bytes_length, Id.len, Seen.len]); (first | done | rfl); first | done | fail))) : φ := h
theorem one_Skx {φ : Prop} (h : φ := by (first | assumption | exact first | exact one_bytes _ | exact rpC_one rfl rfl | exact Seen.one _ | (simp only [List.mem_cons, List.not_mem_nil, or_false, forall_eq_or_imp, forall_eq]; decide) | exact one_bytes _ | (intro v hv; (repeat (rcases List.mem_cons.1 hv with rfl | hv; rfl)); cases hv))) : φ := h
theorem set_Skx {φ : Prop} (h : φ := by (first | (fail) | ((repeat (first | exact SetAt.here | apply SetAt.there)); first | done | fail))) : φ := h
theorem cl_Skx {φ : Prop} (h : φ := by first | rfl | exact .t | exact .f | exact .t (by omega) | exact .f (by omega) | exact .u | exact .i (by (first | exact .t (by omega) | exact .f (by omega) | exact .u | exact .i (by omega) | exact .v (by omega) | exact .b (by omega) | exact .w | rfl | omega)) | exact .v (by omega) | exact .b (by omega) | exact .q (by omega) | exact .w | exact .b (by exact at_) rfl (by exact nth_Skx) | exact .w (by exact at_) rfl rfl (by exact sz_Skx) | exact .s (by exact at_) (by exact mid_Skx) rfl rfl (by exact sz_Skx) | exact .z rfl rfl ⟨by kernel_rfl⟩ | exact .b rfl rfl ⟨by kernel_rfl⟩ | exact .a rfl rfl ⟨by kernel_rfl⟩ | exact .o rfl | exact .s | exact .n | exact .p rfl | exact .q rfl | exact .c rfl | exact .d rfl | exact .n rfl rfl (by omega) | exact .a rfl rfl (by omega) | exact .p rfl rfl (by omega) (by omega) | exact .y rfl rfl (by omega) (by omega) | exact .o (by exact at_) (by omega) rfl (by exact nth_Skx) | exact .m (by exact at_) (by omega) (by exact mid_Skx) rfl rfl (by exact sz_Skx) | exact .mlen (by exact at_) rfl | exact .t (by exact at_) rfl rfl (by first | exact True.intro | rfl) (by assumption) | exact .f (by exact at_) rfl rfl (by first | exact True.intro | rfl) (by assumption) rfl | exact .t1 (by exact at_) rfl rfl (by first | exact True.intro | rfl) (by assumption) | exact .f1 (by exact at_) rfl rfl (by first | exact True.intro | rfl) (by assumption) rfl | exact .tk (by exact at_) rfl (by assumption) (by assumption) | exact .fk (by exact at_) rfl (by assumption) (by assumption) rfl | exact .tk1 (by exact at_) rfl (by assumption) (by assumption) | exact .fk1 (by exact at_) rfl (by assumption) (by assumption) rfl | exact .r rfl rfl (by omega) (by omega) (by exact nth_Skx) rfl | exact .s rfl (by omega) (by assumption) | exact at_ | assumption | exact .r rfl rfl | exact .h rfl rfl rfl (by omega) | exact .l rfl rfl rfl (by omega) (by omega) | exact .g rfl rfl rfl rfl (by omega) (by omega) | exact .h rfl rfl (toN_ (by omega)) (by omega) | exact .l rfl rfl (toN_ (by omega)) (by omega) (by omega) | exact .g rfl rfl (toN_ (by omega)) (toN_ (by omega)) (by omega) (by omega) | exact .o (by decide) | exact .f (by decide) | exact .n (by omega) (by first | decide | (show _ ≤ ((64 : Nat) : Int); omega)) | (constructor; (repeat (first | exact .t (by omega) | exact .f (by omega) | exact .u | exact .i (by omega) | exact .v (by omega) | exact .b (by omega) | exact .w | rfl | omega)); first | done | fail) | omega | (show _ ≤ ((64 : Nat) : Int); omega)) : φ := h
theorem pv_Skx {φ : Prop} (h : φ := by constructor; (repeat exact cl_Skx); first | done | fail) : φ := h
theorem su_Skx {φ ψ : Prop} (k : ψ) (h : Hide ψ → φ := by (intro k; (first | refine sl_pu (PuI.sep (by exact pv_Skx)) rfl ?_ | refine sl_yes rfl rfl ?_ | refine sl_no rfl rfl rfl ?_ | refine sl_off rfl rfl rfl ?_ | (fail)); exact k.out)) : φ := h ⟨k⟩
theorem sto_Skx {φ ψ : Prop} (k : ψ) (h : Hide ψ → φ := by (intro k; (first | refine sl_store rfl (by exact pick_) rfl rfl (by kernel_rfl) (by exact set_Skx) ?_ | refine sl_store_whole rfl (by exact pick_) rfl (by exact sz_Skx) (by exact sz_Skx) (by exact one_Skx) ?_); exact k.out)) : φ := h ⟨k⟩
theorem go_Skx {φ ψ : Prop} (k : ψ) (h : Hide ψ → φ := by (intro k; (repeat (first | refine su_Skx ?_ | refine so_ ?_ | refine sto_Skx ?_)); exact k.out)) : φ := h ⟨k⟩
set_option maxRecDepth 100000 in
set_option maxHeartbeats 2000000 in
theorem sSeen_ok {K : List Fa} {g : Nat} {t : Ta} {r : Rl} {lim : Int} {q : StM} {id : Id} (hs : Srt q.ss) (hn : q.ss.length ≤ 1000000) :
    Fn Tryz.prog 30 #[.pointer (some ⟨g, 0, none⟩), id.v] (sF g t r lim q K) (Ret (fun _ : Unit => True) (fun _ => .tuple #[(gotI q.ss id).v, .bool (hasI q.ss id)]) (fun _ => sF g t r lim q K)) := by
  refine fn_enter Tryz.func30 rfl _ Tryz.ntmps30 (by simp) [(0, .pointer (some ⟨g, 0, none⟩)), (1, id.v)] (args_of (by simp)) ?_
  refine go_Skx ?_
  refine sl_box rfl rfl rfl ?_; intro g3
  refine sl_alloc rfl rfl rfl ?_; intro g4
  refine go_Skx ?_
  refine sd_drawn (fun W => AllP W [sB g t q.gj q.gi q.gb q.mw q.ms q.life, blk g3 56 (bytes id.l)]) (fun _ => true) (by kernel_rfl) 10 rfl ?_
  refine sd_yes2 0 rfl (by exact gd_) (by kernel_rfl) (by kernel_rfl) (by exact nop_) (PuI.all (by exact pv_Skx)) rfl (fun w hw => all_ hw) ?_
  refine sd_yes2 1 rfl (by exact gd_) (by kernel_rfl) (by kernel_rfl) (by exact nop_) (PuI.all (by exact pv_Skx)) rfl (fun w hw => all_ hw) ?_
  refine sd_yes2 2 rfl (by exact gd_) (by kernel_rfl) (by kernel_rfl) (by exact nop_) (PuI.all (by exact pv_Skx)) rfl (fun w hw => all_ hw) ?_
  refine sd_yes2 3 rfl (by exact gd_) (by kernel_rfl) (by kernel_rfl) (by exact nop_) (PuI.all (by exact pv_Skx)) rfl (fun w hw => all_ hw) ?_
  refine sd_yes2 4 rfl (by exact gd_) (by kernel_rfl) (by kernel_rfl) (by exact nop_) (PuI.all (by exact pv_Skx)) rfl (fun w hw => all_ hw) ?_
  refine sd_one 5 (by kernel_rfl) (sa_sl 5 rfl ?_)
  refine sl_call rfl rfl (by kernel_rfl) rfl (by exact Sub.cons (by exact pick_) (Sub.cons (by exact pick_) Sub.refl)) (get_ok (x := q.gi) (A := q.iA) (c := q.ic) (lim := lim) (ss := q.ss) id hs hn) ?_
  rintro _ -
  refine sl_nil ?_
  refine se_sd (fun _ w hw => all_ hw) ?_
  refine sd_yes2 6 rfl (by exact gd_) (by kernel_rfl) (by kernel_rfl) (by exact nop_) (PuI.all (by exact pv_Skx)) rfl (fun w hw => all_ hw) ?_
  refine sd_yes2 7 rfl (by exact gd_) (by kernel_rfl) (by kernel_rfl) (by exact nop_) (PuI.all (by exact pv_Skx)) rfl (fun w hw => all_ hw) ?_
  refine sd_one 8 (by kernel_rfl) (sa_sl 8 rfl ?_)
  refine sl_store_whole (cl := (gotI q.ss id).cells) rfl (by exact pick_) rfl (by rw [Seen.len]; rfl) (by rw [Seen.len]; rfl) (Seen.one _) ?_
  refine sl_nil ?_
  refine se_sd (fun _ w hw => all_ hw) ?_
  refine sd_yes2 9 rfl (by exact gd_) (by kernel_rfl) (by kernel_rfl) (by exact nop_) (PuI.all (by exact pv_Skx)) rfl (fun w hw => all_ hw) ?_
  refine sd_done (by kernel_rfl) ?_
  refine go_Skx ?_
  exact se_ret_ct () trivial rfl rfl (by exact at_) rfl rfl (by exact sz_Skx) rfl rfl (by exact sub_)
end Go.Proofs.YtocaabnbmcpjmaaGreatDoor
/- Package store: Open with rules that are no rules; with no disk. -/
namespace Go.Proofs.YtocaabnbmcpjmaaGreatDoor
open Go.RowKit Go.MapKept
attribute [local irreducible] Go.Calls Go.Exit.then Go.Exit.inBlock Go.bodyPost Go.Code.wp Go.wpList takeL recordL hashL recL allL
end Go.Proofs.YtocaabnbmcpjmaaGreatDoor
