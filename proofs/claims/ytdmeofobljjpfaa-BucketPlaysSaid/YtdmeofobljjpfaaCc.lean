/- Tasks: Check; Out; the small ones. -/
import Derived.Test.YtdmeofobljjpfaaCb
namespace Go.Proofs.Ytdmeofobljjpfaa
open Go.RowKit
attribute [local irreducible] Go.Calls Go.Exit.then Go.Exit.inBlock Go.bodyPost Go.Code.wp Go.wpList
def tCells (kd fl bt ln wt ch np : Int) (tag : ByteArray) : List Value := cCells kd fl bt ln wt ch ++ [.int .i64 np, .string tag]
/-- May it be a task? -/
def tErr (kd fl bt ln wt ch np : Int) (tag : ByteArray) : Int := if ciErr kd fl bt ln wt ch ≠ 0 then ciErr kd fl bt ln wt ch else if np < 1 ∨ 3 < np ∨ 32 < (tag.size : Int) then 6 else 0
theorem nth_Cc {φ : Prop} (h : φ := by (first | rfl | rfl)) : φ := h
theorem mid_Cc {φ : Prop} (h : φ := by (first | first | exact Mid.head | exact Mid.all | exact Mid.all | exact Mid.head)) : φ := h
theorem sz_Cc {φ : Prop} (h : φ := by (first | rfl | (rfl; first | done | fail))) : φ := h
theorem one_Cc {φ : Prop} (h : φ := by (first | assumption | exact one_bytes _ | (simp only [List.mem_cons, List.not_mem_nil, or_false, forall_eq_or_imp, forall_eq]; decide) | exact one_bytes _)) : φ := h
theorem set_Cc {φ : Prop} (h : φ := by (first | (fail) | ((repeat (first | exact SetAt.here | apply SetAt.there)); first | done | fail))) : φ := h
theorem cl_Cc {φ : Prop} (h : φ := by first | rfl | exact .t | exact .f | exact .t (by omega) | exact .f (by omega) | exact .u | exact .i (by (first | exact .t (by omega) | exact .f (by omega) | exact .u | exact .i (by omega) | exact .v (by omega) | exact .b (by omega) | exact .w | rfl | omega)) | exact .v (by omega) | exact .b (by omega) | exact .q (by omega) | exact .w | exact .b (by exact at_) rfl (by exact nth_Cc) | exact .w (by exact at_) rfl rfl (by exact sz_Cc) | exact .s (by exact at_) (by exact mid_Cc) rfl rfl (by exact sz_Cc) | exact .z rfl rfl ⟨by kernel_rfl⟩ | exact .b rfl rfl ⟨by kernel_rfl⟩ | exact .a rfl rfl ⟨by kernel_rfl⟩ | exact .o rfl | exact .s | exact .n | exact .p rfl | exact .q rfl | exact .c rfl | exact .d rfl | exact .n rfl rfl (by omega) | exact .a rfl rfl (by omega) | exact .p rfl rfl (by omega) (by omega) | exact .y rfl rfl (by omega) (by omega) | exact .o (by exact at_) (by omega) rfl (by exact nth_Cc) | exact .m (by exact at_) (by omega) (by exact mid_Cc) rfl rfl (by exact sz_Cc) | exact .mlen (by exact at_) rfl | exact .t (by exact at_) rfl rfl (by first | exact True.intro | rfl) (by assumption) | exact .f (by exact at_) rfl rfl (by first | exact True.intro | rfl) (by assumption) rfl | exact .t1 (by exact at_) rfl rfl (by first | exact True.intro | rfl) (by assumption) | exact .f1 (by exact at_) rfl rfl (by first | exact True.intro | rfl) (by assumption) rfl | exact .r rfl rfl (by omega) (by omega) (by exact nth_Cc) rfl | exact .s rfl (by omega) (by assumption) | exact at_ | assumption | exact .r rfl rfl | exact .h rfl rfl rfl (by omega) | exact .l rfl rfl rfl (by omega) (by omega) | exact .g rfl rfl rfl rfl (by omega) (by omega) | exact .h rfl rfl (toN_ (by omega)) (by omega) | exact .l rfl rfl (toN_ (by omega)) (by omega) (by omega) | exact .g rfl rfl (toN_ (by omega)) (toN_ (by omega)) (by omega) (by omega) | exact .o (by decide) | exact .f (by decide) | exact .n (by omega) (by first | decide | (show _ ≤ ((64 : Nat) : Int); omega)) | (constructor; (repeat (first | exact .t (by omega) | exact .f (by omega) | exact .u | exact .i (by omega) | exact .v (by omega) | exact .b (by omega) | exact .w | rfl | omega)); first | done | fail) | omega | (show _ ≤ ((64 : Nat) : Int); omega)) : φ := h
theorem pv_Cc {φ : Prop} (h : φ := by constructor; (repeat exact cl_Cc); first | done | fail) : φ := h
theorem su_Cc {φ ψ : Prop} (k : ψ) (h : Hide ψ → φ := by (intro k; (first | refine sl_pu (PuI.sep (by exact pv_Cc)) rfl ?_ | refine sl_yes rfl rfl ?_ | refine sl_no rfl rfl rfl ?_ | refine sl_off rfl rfl rfl ?_ | (fail)); exact k.out)) : φ := h ⟨k⟩
theorem rq_Cc {φ ψ : Prop} (k : ψ) (h : Hide ψ → φ := by (intro k; (first | refine wq_pu (PuI.sep (by exact pv_Cc)) rfl ?_ | refine wq_yes rfl rfl ?_ | refine wq_no rfl rfl rfl ?_ | refine wq_off rfl rfl rfl ?_ | (fail)); exact k.out)) : φ := h ⟨k⟩
theorem sto_Cc {φ ψ : Prop} (k : ψ) (h : Hide ψ → φ := by (intro k; (first | refine sl_store rfl (by exact pick_) rfl rfl (by kernel_rfl) (by exact set_Cc) ?_ | refine sl_store_whole rfl (by exact pick_) rfl (by exact sz_Cc) (by exact sz_Cc) (by exact one_Cc) ?_); exact k.out)) : φ := h ⟨k⟩
theorem go_Cc {φ ψ : Prop} (k : ψ) (h : Hide ψ → φ := by (intro k; (repeat (first | refine su_Cc ?_ | refine so_ ?_ | refine sto_Cc ?_)); exact k.out)) : φ := h ⟨k⟩
set_option maxRecDepth 100000 in
set_option maxHeartbeats 4000000 in
theorem tcheck_ok {K : List Fa} (kd fl bt ln wt ch np : Int) (tag : ByteArray) :
    Fn Try.prog 11 #[.agg (tCells kd fl bt ln wt ch np tag).toArray] K (Ret (fun _ : Unit => True) (fun _ => .int .i64 (tErr kd fl bt ln wt ch np tag)) (fun _ => K)) := by
  refine fn_enter Try.func11 rfl _ Try.ntmps11 (by simp) [(0, .agg (tCells kd fl bt ln wt ch np tag).toArray)] (args_of (by simp)) ?_
  refine go_Cc ?_
  refine sl_box rfl rfl rfl ?_; intro g1
  refine go_Cc ?_
  refine sl_call rfl rfl (by kernel_rfl) rfl (by exact sub_) (ccheck_ok kd fl bt ln wt ch) ?_; rintro _ -
  by_cases hc : ciErr kd fl bt ln wt ch = 0
  case neg =>
    rw [show tErr kd fl bt ln wt ch np tag = ciErr kd fl bt ln wt ch by simp [tErr, hc]]
    refine go_Cc ?_
    exact se_ret1 () trivial rfl rfl (by exact sub_)
  rw [hc]
  by_cases h1 : np < 1
  · rw [show tErr kd fl bt ln wt ch np tag = 6 by simp [tErr, hc, h1]]
    refine go_Cc ?_
    exact se_ret1 () trivial rfl rfl (by exact sub_)
  by_cases h2 : 3 < np
  · rw [show tErr kd fl bt ln wt ch np tag = 6 by simp [tErr, hc, h2]]
    refine go_Cc ?_
    exact se_ret1 () trivial rfl rfl (by exact sub_)
  by_cases h3 : 32 < (tag.size : Int)
  · rw [show tErr kd fl bt ln wt ch np tag = 6 by simp only [tErr, hc, h3]; simp]
    refine go_Cc ?_
    exact se_ret1 () trivial rfl rfl (by exact sub_)
  · rw [show tErr kd fl bt ln wt ch np tag = 0 by simp only [tErr, hc, h1, h2, h3]; simp]
    refine go_Cc ?_
    exact se_ret1 () trivial rfl rfl (by exact sub_)
/-- How many elements are summed. -/
def outN (kd ln : Int) : Int := if kd = 1 ∨ kd = 2 then 1 else if kd = 3 ∨ kd = 4 ∨ kd = 5 then ln else 0
set_option maxRecDepth 100000 in
set_option maxHeartbeats 4000000 in
theorem out_ok {K : List Fa} (kd fl bt ln wt ch : Int) :
    Fn Try.prog 21 #[.agg (cCells kd fl bt ln wt ch).toArray] K (Ret (fun _ : Unit => True) (fun _ => .int .i64 (outN kd ln)) (fun _ => K)) := by
  refine fn_enter Try.func21 rfl _ Try.ntmps21 (by simp) [(0, .agg (cCells kd fl bt ln wt ch).toArray)] (args_of (by simp)) ?_
  refine go_Cc ?_
  refine sl_box rfl rfl rfl ?_; intro g1
  by_cases h1 : kd = 1
  · subst h1
    refine go_Cc ?_
    exact se_ret1 () trivial rfl rfl (by exact sub_)
  by_cases h2 : kd = 2
  · subst h2
    refine go_Cc ?_
    exact se_ret1 () trivial rfl rfl (by exact sub_)
  by_cases h3 : kd = 3
  · subst h3
    rw [show outN 3 ln = ln by simp [outN]]
    refine go_Cc ?_
    exact se_ret1 () trivial rfl rfl (by exact sub_)
  by_cases h4 : kd = 4
  · subst h4
    rw [show outN 4 ln = ln by simp [outN]]
    refine go_Cc ?_
    exact se_ret1 () trivial rfl rfl (by exact sub_)
  by_cases h5 : kd = 5
  · subst h5
    rw [show outN 5 ln = ln by simp [outN]]
    refine go_Cc ?_
    exact se_ret1 () trivial rfl rfl (by exact sub_)
  · rw [show outN kd ln = 0 by simp [outN, h1, h2, h3, h4, h5]]
    refine go_Cc ?_
    exact se_ret1 () trivial rfl rfl (by exact sub_)
end Go.Proofs.Ytdmeofobljjpfaa
