/- The small tasks. (Written by wip/tools/mkcd.py.) -/
import Derived.Test.YtdmeofobljjpfaaCc
namespace Go.Proofs.Ytdmeofobljjpfaa
open Go.RowKit
attribute [local irreducible] Go.Calls Go.Exit.then Go.Exit.inBlock Go.bodyPost Go.Code.wp Go.wpList
def sBt (kd b : Int) : Int := if kd = 2 ∨ kd = 3 then 1 + b % 4 else 0
def sLn (kd l : Int) : Int := if kd = 3 then 1 + (1 + l % 5) % 3 else if kd = 4 ∨ kd = 5 then 1 + l % 5 else 0
def sWt (kd l w : Int) : Int := if kd = 5 then 1 + w % (1 + l % 5) else 0
def sCh (kd c : Int) : Int := if kd = 3 ∨ kd = 4 ∨ kd = 5 then 1 + c % 4 else 0
def sCells (k f b l w c : Int) : List Value := [.int .u8 k, .int .u8 f, .int .u8 b, .int .u8 l, .int .u8 w, .int .u8 c]
def sC (k f b l w c : Int) : List Value := cCells (1 + k % 5) (1 + f % 2) (sBt (1 + k % 5) b) (sLn (1 + k % 5) l) (sWt (1 + k % 5) l w) (sCh (1 + k % 5) c)
theorem cc_one (a b c d e f : Int) : ∀ v ∈ [Value.int .u8 a, .int .u8 b, .int .i64 c, .int .i64 d, .int .i64 e, .int .i64 f], v.oneCell' = true := by
  intro v hv
  simp only [List.mem_cons, List.not_mem_nil, or_false] at hv
  rcases hv with rfl | rfl | rfl | rfl | rfl | rfl <;> rfl
theorem nth_Cd {φ : Prop} (h : φ := by (first | rfl | rfl)) : φ := h
theorem mid_Cd {φ : Prop} (h : φ := by (first | exact Mid.all | exact Mid.all | exact Mid.head)) : φ := h
theorem sz_Cd {φ : Prop} (h : φ := by (first | rfl | (rfl; first | done | fail))) : φ := h
theorem one_Cd {φ : Prop} (h : φ := by (first | assumption | exact cc_one _ _ _ _ _ _ | (simp only [List.mem_cons, List.not_mem_nil, or_false, forall_eq_or_imp, forall_eq]; decide) | exact one_bytes _)) : φ := h
theorem set_Cd {φ : Prop} (h : φ := by (first | (fail) | ((repeat (first | exact SetAt.here | apply SetAt.there)); first | done | fail))) : φ := h
theorem cl_Cd {φ : Prop} (h : φ := by first | rfl | exact .t | exact .f | exact .t (by omega) | exact .f (by omega) | exact .u | exact .i (by (first | exact .t (by omega) | exact .f (by omega) | exact .u | exact .i (by omega) | exact .v (by omega) | exact .b (by omega) | exact .w | rfl | omega)) | exact .v (by omega) | exact .b (by omega) | exact .q (by omega) | exact .w | exact .b (by exact at_) rfl (by exact nth_Cd) | exact .w (by exact at_) rfl rfl (by exact sz_Cd) | exact .s (by exact at_) (by exact mid_Cd) rfl rfl (by exact sz_Cd) | exact .z rfl rfl ⟨by kernel_rfl⟩ | exact .b rfl rfl ⟨by kernel_rfl⟩ | exact .a rfl rfl ⟨by kernel_rfl⟩ | exact .o rfl | exact .s | exact .n | exact .p rfl | exact .q rfl | exact .c rfl | exact .d rfl | exact .n rfl rfl (by omega) | exact .a rfl rfl (by omega) | exact .p rfl rfl (by omega) (by omega) | exact .y rfl rfl (by omega) (by omega) | exact .o (by exact at_) (by omega) rfl (by exact nth_Cd) | exact .m (by exact at_) (by omega) (by exact mid_Cd) rfl rfl (by exact sz_Cd) | exact .mlen (by exact at_) rfl | exact .t (by exact at_) rfl rfl (by first | exact True.intro | rfl) (by assumption) | exact .f (by exact at_) rfl rfl (by first | exact True.intro | rfl) (by assumption) rfl | exact .t1 (by exact at_) rfl rfl (by first | exact True.intro | rfl) (by assumption) | exact .f1 (by exact at_) rfl rfl (by first | exact True.intro | rfl) (by assumption) rfl | exact .r rfl rfl (by omega) (by omega) (by exact nth_Cd) rfl | exact .s rfl (by omega) (by assumption) | exact at_ | assumption | exact .r rfl rfl | exact .h rfl rfl rfl (by omega) | exact .l rfl rfl rfl (by omega) (by omega) | exact .g rfl rfl rfl rfl (by omega) (by omega) | exact .h rfl rfl (toN_ (by omega)) (by omega) | exact .l rfl rfl (toN_ (by omega)) (by omega) (by omega) | exact .g rfl rfl (toN_ (by omega)) (toN_ (by omega)) (by omega) (by omega) | exact .o (by decide) | exact .f (by decide) | exact .n (by omega) (by first | decide | (show _ ≤ ((64 : Nat) : Int); omega)) | (constructor; (repeat (first | exact .t (by omega) | exact .f (by omega) | exact .u | exact .i (by omega) | exact .v (by omega) | exact .b (by omega) | exact .w | rfl | omega)); first | done | fail) | omega | (show _ ≤ ((64 : Nat) : Int); omega)) : φ := h
theorem pv_Cd {φ : Prop} (h : φ := by constructor; (repeat exact cl_Cd); first | done | fail) : φ := h
theorem su_Cd {φ ψ : Prop} (k : ψ) (h : Hide ψ → φ := by (intro k; (first | refine sl_pu (PuI.sep (by exact pv_Cd)) rfl ?_ | refine sl_yes rfl rfl ?_ | refine sl_no rfl rfl rfl ?_ | refine sl_off rfl rfl rfl ?_ | (fail)); exact k.out)) : φ := h ⟨k⟩
theorem rq_Cd {φ ψ : Prop} (k : ψ) (h : Hide ψ → φ := by (intro k; (first | refine wq_pu (PuI.sep (by exact pv_Cd)) rfl ?_ | refine wq_yes rfl rfl ?_ | refine wq_no rfl rfl rfl ?_ | refine wq_off rfl rfl rfl ?_ | (fail)); exact k.out)) : φ := h ⟨k⟩
theorem sto_Cd {φ ψ : Prop} (k : ψ) (h : Hide ψ → φ := by (intro k; (first | refine sl_store rfl (by exact pick_) rfl rfl (by kernel_rfl) (by exact set_Cd) ?_ | refine sl_store_whole rfl (by exact pick_) rfl (by exact sz_Cd) (by exact sz_Cd) (by exact one_Cd) ?_); exact k.out)) : φ := h ⟨k⟩
theorem go_Cd {φ ψ : Prop} (k : ψ) (h : Hide ψ → φ := by (intro k; (repeat (first | refine su_Cd ?_ | refine so_ ?_ | refine sto_Cd ?_)); exact k.out)) : φ := h ⟨k⟩
set_option maxRecDepth 100000 in
set_option maxHeartbeats 8000000 in
theorem scirc_ok {K : List Fa} {k f b l w c : Int} (hk : 0 ≤ k ∧ k ≤ 255) (hf : 0 ≤ f ∧ f ≤ 255) (hb : 0 ≤ b ∧ b ≤ 255) (hl : 0 ≤ l ∧ l ≤ 255) (hw : 0 ≤ w ∧ w ≤ 255) (hc : 0 ≤ c ∧ c ≤ 255) :
    Fn Try.prog 25 #[.agg (sCells k f b l w c).toArray] K (Ret (fun _ : Unit => True) (fun _ => .agg (sC k f b l w c).toArray) (fun _ => K)) := by
  refine fn_enter Try.func25 rfl _ Try.ntmps25 (by simp) [(0, .agg (sCells k f b l w c).toArray)] (args_of (by simp)) ?_
  refine go_Cd ?_
  refine sl_box rfl rfl rfl ?_; intro g1
  refine sl_alloc rfl rfl rfl ?_; intro g2
  refine go_Cd ?_
  refine sl_pu (pu_build (v := .agg (cCells (1 + k % 5) (1 + f % 2) 0 0 0 0).toArray) rfl (fun W => by kernel_rfl)) rfl ?_
  refine sl_alloc rfl rfl rfl ?_; intro g3
  refine go_Cd ?_
  ((refine sq_region (by kernel_rfl) (by kernel_rfl) ?_; (repeat refine rq_Cd ?_); refine sq_end ?_))
  refine go_Cd ?_
  have hkd : 1 ≤ 1 + k % 5 ∧ 1 + k % 5 ≤ 5 := by omega
  unfold sC
  generalize 1 + k % 5 = kd at hkd ⊢
  have hmw : 0 ≤ w % (1 + l % 5) ∧ w % (1 + l % 5) ≤ 4 := ⟨Int.emod_nonneg _ (by omega), by have := Int.emod_lt_of_pos w (show 0 < 1 + l % 5 by omega); omega⟩
  by_cases h2 : kd = 2
  · subst h2
    rw [show sBt 2 b = 1 + b % 4 by simp [sBt], show sLn 2 l = 0 by simp [sLn], show sWt 2 l w = 0 by simp [sWt], show sCh 2 c = 0 by simp [sCh]]
    refine go_Cd ?_
    exact se_ret_c () trivial rfl rfl (by exact at_) rfl rfl rfl rfl (by exact sub_)
  by_cases h3 : kd = 3
  · subst h3
    rw [show sBt 3 b = 1 + b % 4 by simp [sBt], show sLn 3 l = 1 + (1 + l % 5) % 3 by simp [sLn], show sWt 3 l w = 0 by simp [sWt], show sCh 3 c = 1 + c % 4 by simp [sCh]]
    refine go_Cd ?_
    refine sd_drawn (fun W => AllP W [blk g1 39 (sCells k f b l w c)]) (fun _ => true) (by kernel_rfl) 15 rfl ?_
    refine sd_yes2 0 rfl (by exact gd_) (by kernel_rfl) (by kernel_rfl) (by exact nop_) (PuI.all (by exact pv_Cd)) rfl (fun w hw => all_ hw) ?_
    refine sd_yes2 1 rfl (by exact gd_) (by kernel_rfl) (by kernel_rfl) (by exact nop_) (PuI.all (by exact pv_Cd)) rfl (fun w hw => all_ hw) ?_
    refine sd_yes2 2 rfl (by exact gd_) (by kernel_rfl) (by kernel_rfl) (by exact nop_) (PuI.all (by exact pv_Cd)) rfl (fun w hw => all_ hw) ?_
    refine sd_yes2 3 rfl (by exact gd_) (by kernel_rfl) (by kernel_rfl) (by exact nop_) (PuI.all (by exact pv_Cd)) rfl (fun w hw => all_ hw) ?_
    refine sd_yes2 4 rfl (by exact gd_) (by kernel_rfl) (by kernel_rfl) (by exact nop_) (PuI.all (by exact pv_Cd)) rfl (fun w hw => all_ hw) ?_
    refine sd_yes2 5 rfl (by exact gd_) (by kernel_rfl) (by kernel_rfl) (by exact nop_) (PuI.all (by exact pv_Cd)) rfl (fun w hw => all_ hw) ?_
    refine sd_yes2 6 rfl (by exact gd_) (by kernel_rfl) (by kernel_rfl) (by exact nop_) (PuI.all (by exact pv_Cd)) rfl (fun w hw => all_ hw) ?_
    refine sd_yes2 7 rfl (by exact gd_) (by kernel_rfl) (by kernel_rfl) (by exact nop_) (PuI.all (by exact pv_Cd)) rfl (fun w hw => all_ hw) ?_
    refine sd_yes2 8 rfl (by exact gd_) (by kernel_rfl) (by kernel_rfl) (by exact nop_) (PuI.all (by exact pv_Cd)) rfl (fun w hw => all_ hw) ?_
    refine sd_yes2 9 rfl (by exact gd_) (by kernel_rfl) (by kernel_rfl) (by exact nop_) (PuI.all (by exact pv_Cd)) rfl (fun w hw => all_ hw) ?_
    refine sd_one 10 (by kernel_rfl) (sa_sl 10 rfl ?_)
    refine sl_store rfl (by exact pick_) rfl rfl (by kernel_rfl) (by exact set_Cd) ?_
    refine sl_nil ?_
    refine se_sd (fun _ w hw => all_ hw) ?_
    refine sd_yes2 11 rfl (by exact gd_) (by kernel_rfl) (by kernel_rfl) (by exact nop_) (PuI.all (by exact pv_Cd)) rfl (fun w hw => all_ hw) ?_
    refine sd_one 12 (by kernel_rfl) (sa_sl 12 rfl ?_)
    refine sl_store rfl (by exact pick_) rfl rfl (by kernel_rfl) (by exact set_Cd) ?_
    refine sl_nil ?_
    refine se_sd (fun _ w hw => all_ hw) ?_
    refine sd_yes2 13 rfl (by exact gd_) (by kernel_rfl) (by kernel_rfl) (by exact nop_) (PuI.all (by exact pv_Cd)) rfl (fun w hw => all_ hw) ?_
    refine sd_one 14 (by kernel_rfl) (sa_sl 14 rfl ?_)
    refine sl_store rfl (by exact pick_) rfl rfl (by kernel_rfl) (by exact set_Cd) ?_
    refine sl_nil ?_
    refine se_sd (fun _ w hw => all_ hw) ?_
    refine sd_done (by kernel_rfl) ?_
    refine go_Cd ?_
    exact se_ret_c () trivial rfl rfl (by exact at_) rfl rfl rfl rfl (by exact sub_)
  by_cases h4 : kd = 4
  · subst h4
    rw [show sBt 4 b = 0 by simp [sBt], show sLn 4 l = 1 + l % 5 by simp [sLn], show sWt 4 l w = 0 by simp [sWt], show sCh 4 c = 1 + c % 4 by simp [sCh]]
    refine go_Cd ?_
    refine sd_drawn (fun W => AllP W [blk g1 39 (sCells k f b l w c)]) (fun _ => true) (by kernel_rfl) 10 rfl ?_
    refine sd_yes2 0 rfl (by exact gd_) (by kernel_rfl) (by kernel_rfl) (by exact nop_) (PuI.all (by exact pv_Cd)) rfl (fun w hw => all_ hw) ?_
    refine sd_yes2 1 rfl (by exact gd_) (by kernel_rfl) (by kernel_rfl) (by exact nop_) (PuI.all (by exact pv_Cd)) rfl (fun w hw => all_ hw) ?_
    refine sd_yes2 2 rfl (by exact gd_) (by kernel_rfl) (by kernel_rfl) (by exact nop_) (PuI.all (by exact pv_Cd)) rfl (fun w hw => all_ hw) ?_
    refine sd_yes2 3 rfl (by exact gd_) (by kernel_rfl) (by kernel_rfl) (by exact nop_) (PuI.all (by exact pv_Cd)) rfl (fun w hw => all_ hw) ?_
    refine sd_yes2 4 rfl (by exact gd_) (by kernel_rfl) (by kernel_rfl) (by exact nop_) (PuI.all (by exact pv_Cd)) rfl (fun w hw => all_ hw) ?_
    refine sd_yes2 5 rfl (by exact gd_) (by kernel_rfl) (by kernel_rfl) (by exact nop_) (PuI.all (by exact pv_Cd)) rfl (fun w hw => all_ hw) ?_
    refine sd_yes2 6 rfl (by exact gd_) (by kernel_rfl) (by kernel_rfl) (by exact nop_) (PuI.all (by exact pv_Cd)) rfl (fun w hw => all_ hw) ?_
    refine sd_one 7 (by kernel_rfl) (sa_sl 7 rfl ?_)
    refine sl_store rfl (by exact pick_) rfl rfl (by kernel_rfl) (by exact set_Cd) ?_
    refine sl_nil ?_
    refine se_sd (fun _ w hw => all_ hw) ?_
    refine sd_yes2 8 rfl (by exact gd_) (by kernel_rfl) (by kernel_rfl) (by exact nop_) (PuI.all (by exact pv_Cd)) rfl (fun w hw => all_ hw) ?_
    refine sd_one 9 (by kernel_rfl) (sa_sl 9 rfl ?_)
    refine sl_store rfl (by exact pick_) rfl rfl (by kernel_rfl) (by exact set_Cd) ?_
    refine sl_nil ?_
    refine se_sd (fun _ w hw => all_ hw) ?_
    refine sd_done (by kernel_rfl) ?_
    refine go_Cd ?_
    exact se_ret_c () trivial rfl rfl (by exact at_) rfl rfl rfl rfl (by exact sub_)
  by_cases h5 : kd = 5
  · subst h5
    rw [show sBt 5 b = 0 by simp [sBt], show sLn 5 l = 1 + l % 5 by simp [sLn], show sWt 5 l w = 1 + w % (1 + l % 5) by simp [sWt], show sCh 5 c = 1 + c % 4 by simp [sCh]]
    refine go_Cd ?_
    refine sd_drawn (fun W => AllP W [blk g1 39 (sCells k f b l w c)]) (fun _ => true) (by kernel_rfl) 10 rfl ?_
    refine sd_yes2 0 rfl (by exact gd_) (by kernel_rfl) (by kernel_rfl) (by exact nop_) (PuI.all (by exact pv_Cd)) rfl (fun w hw => all_ hw) ?_
    refine sd_yes2 1 rfl (by exact gd_) (by kernel_rfl) (by kernel_rfl) (by exact nop_) (PuI.all (by exact pv_Cd)) rfl (fun w hw => all_ hw) ?_
    refine sd_yes2 2 rfl (by exact gd_) (by kernel_rfl) (by kernel_rfl) (by exact nop_) (PuI.all (by exact pv_Cd)) rfl (fun w hw => all_ hw) ?_
    refine sd_yes2 3 rfl (by exact gd_) (by kernel_rfl) (by kernel_rfl) (by exact nop_) (PuI.all (by exact pv_Cd)) rfl (fun w hw => all_ hw) ?_
    refine sd_yes2 4 rfl (by exact gd_) (by kernel_rfl) (by kernel_rfl) (by exact nop_) (PuI.all (by exact pv_Cd)) rfl (fun w hw => all_ hw) ?_
    refine sd_yes2 5 rfl (by exact gd_) (by kernel_rfl) (by kernel_rfl) (by exact nop_) (PuI.all (by exact pv_Cd)) rfl (fun w hw => all_ hw) ?_
    refine sd_yes2 6 rfl (by exact gd_) (by kernel_rfl) (by kernel_rfl) (by exact nop_) (PuI.all (by exact pv_Cd)) rfl (fun w hw => all_ hw) ?_
    refine sd_one 7 (by kernel_rfl) (sa_sl 7 rfl ?_)
    refine sl_store rfl (by exact pick_) rfl rfl (by kernel_rfl) (by exact set_Cd) ?_
    refine sl_nil ?_
    refine se_sd (fun _ w hw => all_ hw) ?_
    refine sd_yes2 8 rfl (by exact gd_) (by kernel_rfl) (by kernel_rfl) (by exact nop_) (PuI.all (by exact pv_Cd)) rfl (fun w hw => all_ hw) ?_
    refine sd_one 9 (by kernel_rfl) (sa_sl 9 rfl ?_)
    refine sl_store rfl (by exact pick_) rfl rfl (by kernel_rfl) (by exact set_Cd) ?_
    refine sl_nil ?_
    refine se_sd (fun _ w hw => all_ hw) ?_
    refine sd_done (by kernel_rfl) ?_
    refine go_Cd ?_
    exact se_ret_c () trivial rfl rfl (by exact at_) rfl rfl rfl rfl (by exact sub_)
  · obtain rfl : kd = 1 := by omega
    rw [show sBt 1 b = 0 by simp [sBt], show sLn 1 l = 0 by simp [sLn], show sWt 1 l w = 0 by simp [sWt], show sCh 1 c = 0 by simp [sCh]]
    refine go_Cd ?_
    exact se_ret_c () trivial rfl rfl (by exact at_) rfl rfl rfl rfl (by exact sub_)
end Go.Proofs.Ytdmeofobljjpfaa
