/- Circuits and tasks: Check. (Written by wip/tools/mkcb.py.) -/
import Derived.Test.YtdmeofobljjpfaaCa
namespace Go.Proofs.Ytdmeofobljjpfaa
open Go.RowKit
attribute [local irreducible] Go.Calls Go.Exit.then Go.Exit.inBlock Go.bodyPost Go.Code.wp Go.wpList
def uB (kd : Int) : Bool := decide (kd = 2 ∨ kd = 3)
def uL (kd : Int) : Bool := decide (kd = 3 ∨ kd = 4 ∨ kd = 5)
def uW (kd : Int) : Bool := decide (kd = 5)
/-- Are a circuit's numbers within their ends? -/
def ciIn (kd bt ln wt ch : Int) : Bool := wi bt 32 (uB kd) && wi ln 64 (uL kd) && wi wt ln (uW kd) && wi ch 16 (uL kd)
/-- May it be a circuit? -/
def ciErr (kd fl bt ln wt ch : Int) : Int := if ¬ (fl = 1 ∨ fl = 2) then 7 else if kd < 1 ∨ 5 < kd then 10 else if ciIn kd bt ln wt ch = false then 6 else if 511 < callsN kd bt ln wt ch then 5 else 0
theorem wi_le {n m : Int} {u : Bool} (h : wi n m u = true) (hm : 0 ≤ m) : 0 ≤ n ∧ n ≤ m := by
  cases u <;> simp [wi] at h <;> omega
theorem ci_le {kd bt ln wt ch : Int} (h : ciIn kd bt ln wt ch = true) : (0 ≤ bt ∧ bt ≤ 32) ∧ (0 ≤ ln ∧ ln ≤ 64) ∧ (0 ≤ wt ∧ wt ≤ 64) ∧ 0 ≤ ch ∧ ch ≤ 16 := by
  simp only [ciIn, Bool.and_eq_true] at h
  obtain ⟨⟨⟨h1, h2⟩, h3⟩, h4⟩ := h
  have e1 := wi_le h1 (by decide)
  have e2 := wi_le h2 (by decide)
  have e3 := wi_le h3 (by omega)
  have e4 := wi_le h4 (by decide)
  exact ⟨e1, e2, ⟨e3.1, by omega⟩, e4⟩
theorem mid4 {cs : List Value} {i : Nat} {a b c d : Value} (h0 : cs[i]? = some a) (h1 : cs[i + 1]? = some b) (h2 : cs[i + 2]? = some c) (h3 : cs[i + 3]? = some d) : Mid cs i [a, b, c, d] := by
  intro j v hj
  match j with
  | 0 => exact h0.trans hj
  | 1 => exact h1.trans hj
  | 2 => exact h2.trans hj
  | 3 => exact h3.trans hj
  | j + 4 => simp at hj
def usesL : List Value := [.bool false, .bool false, .bool false, .bool false, .bool false, .bool false, .bool false, .bool false, .bool true, .bool false, .bool false, .bool false, .bool true, .bool true, .bool false, .bool true, .bool false, .bool true, .bool false, .bool true, .bool false, .bool true, .bool true, .bool true]
theorem uses_mid {kd : Int} (h1 : 1 ≤ kd) (h5 : kd ≤ 5) : Mid usesL (0 + kd.toNat * 4) [.bool (uB kd), .bool (uL kd), .bool (uW kd), .bool (uL kd)] := by
  rcases (show kd = 1 ∨ kd = 2 ∨ kd = 3 ∨ kd = 4 ∨ kd = 5 by omega) with rfl | rfl | rfl | rfl | rfl <;> exact mid4 rfl rfl rfl rfl
theorem one4 (a b c d : Bool) : ∀ v ∈ [Value.bool a, .bool b, .bool c, .bool d], v.oneCell' = true := by
  intro v hv
  simp only [List.mem_cons, List.not_mem_nil, or_false] at hv
  rcases hv with rfl | rfl | rfl | rfl <;> rfl
theorem nth_Cb {φ : Prop} (h : φ := by (first | rfl | rfl)) : φ := h
theorem mid_Cb {φ : Prop} (h : φ := by (first | exact Mid.all | exact Mid.all | exact Mid.head)) : φ := h
theorem sz_Cb {φ : Prop} (h : φ := by (first | rfl | (rfl; first | done | fail))) : φ := h
theorem one_Cb {φ : Prop} (h : φ := by (first | assumption | exact one4 _ _ _ _ | (simp only [List.mem_cons, List.not_mem_nil, or_false, forall_eq_or_imp, forall_eq]; decide) | exact one_bytes _)) : φ := h
theorem set_Cb {φ : Prop} (h : φ := by (first | (fail) | ((repeat (first | exact SetAt.here | apply SetAt.there)); first | done | fail))) : φ := h
theorem cl_Cb {φ : Prop} (h : φ := by first | rfl | exact .t | exact .f | exact .t (by omega) | exact .f (by omega) | exact .u | exact .i (by (first | exact .t (by omega) | exact .f (by omega) | exact .u | exact .i (by omega) | exact .v (by omega) | exact .b (by omega) | exact .w | rfl | omega)) | exact .v (by omega) | exact .b (by omega) | exact .q (by omega) | exact .w | exact .b (by exact at_) rfl (by exact nth_Cb) | exact .w (by exact at_) rfl rfl (by exact sz_Cb) | exact .s (by exact at_) (by exact mid_Cb) rfl rfl (by exact sz_Cb) | exact .z rfl rfl ⟨by kernel_rfl⟩ | exact .b rfl rfl ⟨by kernel_rfl⟩ | exact .a rfl rfl ⟨by kernel_rfl⟩ | exact .o rfl | exact .s | exact .n | exact .p rfl | exact .q rfl | exact .c rfl | exact .d rfl | exact .n rfl rfl (by omega) | exact .a rfl rfl (by omega) | exact .p rfl rfl (by omega) (by omega) | exact .y rfl rfl (by omega) (by omega) | exact .o (by exact at_) (by omega) rfl (by exact nth_Cb) | exact .m (by exact at_) (by omega) (by exact mid_Cb) rfl rfl (by exact sz_Cb) | exact .mlen (by exact at_) rfl | exact .t (by exact at_) rfl rfl (by first | exact True.intro | rfl) (by assumption) | exact .f (by exact at_) rfl rfl (by first | exact True.intro | rfl) (by assumption) rfl | exact .t1 (by exact at_) rfl rfl (by first | exact True.intro | rfl) (by assumption) | exact .f1 (by exact at_) rfl rfl (by first | exact True.intro | rfl) (by assumption) rfl | exact .r rfl rfl (by omega) (by omega) (by exact nth_Cb) rfl | exact .s rfl (by omega) (by assumption) | exact at_ | assumption | exact .r rfl rfl | exact .h rfl rfl rfl (by omega) | exact .l rfl rfl rfl (by omega) (by omega) | exact .g rfl rfl rfl rfl (by omega) (by omega) | exact .h rfl rfl (toN_ (by omega)) (by omega) | exact .l rfl rfl (toN_ (by omega)) (by omega) (by omega) | exact .g rfl rfl (toN_ (by omega)) (toN_ (by omega)) (by omega) (by omega) | exact .o (by decide) | exact .f (by decide) | exact .n (by omega) (by first | decide | (show _ ≤ ((64 : Nat) : Int); omega)) | (constructor; (repeat (first | exact .t (by omega) | exact .f (by omega) | exact .u | exact .i (by omega) | exact .v (by omega) | exact .b (by omega) | exact .w | rfl | omega)); first | done | fail) | omega | (show _ ≤ ((64 : Nat) : Int); omega)) : φ := h
theorem pv_Cb {φ : Prop} (h : φ := by constructor; (repeat exact cl_Cb); first | done | fail) : φ := h
theorem su_Cb {φ ψ : Prop} (k : ψ) (h : Hide ψ → φ := by (intro k; (first | refine sl_pu (PuI.sep (by exact pv_Cb)) rfl ?_ | refine sl_yes rfl rfl ?_ | refine sl_no rfl rfl rfl ?_ | refine sl_off rfl rfl rfl ?_ | (fail)); exact k.out)) : φ := h ⟨k⟩
theorem rq_Cb {φ ψ : Prop} (k : ψ) (h : Hide ψ → φ := by (intro k; (first | refine wq_pu (PuI.sep (by exact pv_Cb)) rfl ?_ | refine wq_yes rfl rfl ?_ | refine wq_no rfl rfl rfl ?_ | refine wq_off rfl rfl rfl ?_ | (fail)); exact k.out)) : φ := h ⟨k⟩
theorem sto_Cb {φ ψ : Prop} (k : ψ) (h : Hide ψ → φ := by (intro k; (first | refine sl_store rfl (by exact pick_) rfl rfl (by kernel_rfl) (by exact set_Cb) ?_ | refine sl_store_whole rfl (by exact pick_) rfl (by exact sz_Cb) (by exact sz_Cb) (by exact one_Cb) ?_); exact k.out)) : φ := h ⟨k⟩
theorem go_Cb {φ ψ : Prop} (k : ψ) (h : Hide ψ → φ := by (intro k; (repeat (first | refine su_Cb ?_ | refine so_ ?_ | refine sto_Cb ?_)); exact k.out)) : φ := h ⟨k⟩
set_option maxRecDepth 100000 in
set_option maxHeartbeats 8000000 in
theorem ccheck_ok {K : List Fa} (kd fl bt ln wt ch : Int) :
    Fn Try.prog 26 #[.agg (cCells kd fl bt ln wt ch).toArray] K (Ret (fun _ : Unit => True) (fun _ => .int .i64 (ciErr kd fl bt ln wt ch)) (fun _ => K)) := by
  refine fn_enter Try.func26 rfl _ Try.ntmps26 (by simp) [(0, .agg (cCells kd fl bt ln wt ch).toArray)] (args_of (by simp)) ?_
  refine go_Cb ?_
  refine sl_box rfl rfl rfl ?_; intro g1
  refine go_Cb ?_
  refine sl_call rfl rfl (by kernel_rfl) rfl (by exact sub_) (valid_ok fl) ?_; rintro _ -
  by_cases hf : fl = 1 ∨ fl = 2
  case neg =>
    rw [decide_eq_false hf, show ciErr kd fl bt ln wt ch = 7 by simp [ciErr, hf]]
    refine go_Cb ?_
    exact se_ret1 () trivial rfl rfl (by exact sub_)
  rw [decide_eq_true hf]
  by_cases hk1 : kd < 1
  · rw [show ciErr kd fl bt ln wt ch = 10 by simp [ciErr, hf, hk1]]
    refine go_Cb ?_
    exact se_ret1 () trivial rfl rfl (by exact sub_)
  by_cases hk5 : 5 < kd
  · rw [show ciErr kd fl bt ln wt ch = 10 by simp [ciErr, hf, hk5]]
    refine go_Cb ?_
    exact se_ret1 () trivial rfl rfl (by exact sub_)
  have he : ciErr kd fl bt ln wt ch = if ciIn kd bt ln wt ch = false then 6 else if 511 < callsN kd bt ln wt ch then 5 else 0 := by simp only [ciErr, hf, hk1, hk5]; simp
  rw [he]

  refine go_Cb ?_
  refine sl_pu (pu_build (v := .agg #[.bool true, .bool false, .bool false, .bool false]) rfl (fun W => by kernel_rfl)) rfl ?_
  refine sl_pu (pu_build (v := .agg #[.bool true, .bool true, .bool false, .bool true]) rfl (fun W => by kernel_rfl)) rfl ?_
  refine sl_pu (pu_build (v := .agg #[.bool false, .bool true, .bool false, .bool true]) rfl (fun W => by kernel_rfl)) rfl ?_
  refine sl_pu (pu_build (v := .agg #[.bool false, .bool true, .bool true, .bool true]) rfl (fun W => by kernel_rfl)) rfl ?_
  refine sl_pu (pu_build (v := .agg #[.bool false, .bool false, .bool false, .bool false, .bool false, .bool false, .bool false, .bool false, .bool true, .bool false, .bool false, .bool false, .bool true, .bool true, .bool false, .bool true, .bool false, .bool true, .bool false, .bool true, .bool false, .bool true, .bool true, .bool true]) rfl (fun W => by kernel_rfl)) rfl ?_
  refine sl_alloc rfl rfl rfl ?_; intro g2
  refine go_Cb ?_
  refine sl_pu (pu_lds (cl := [.bool (uB kd), .bool (uL kd), .bool (uW kd), .bool (uL kd)]) (by exact at_) rfl (uses_mid (by omega) (by omega)) rfl rfl rfl) rfl ?_
  generalize hub : uB kd = ub
  generalize hul : uL kd = ul
  generalize huw : uW kd = uw
  refine sl_alloc rfl rfl rfl ?_; intro g3
  refine go_Cb ?_
  refine sl_call rfl rfl (by kernel_rfl) rfl (by exact sub_) (within_ok bt 32 (ub)) ?_; rintro _ -
  cases w0 : wi bt 32 (ub) with
  | false =>
    rw [show ciIn kd bt ln wt ch = false by simp [ciIn, hub, hul, huw, w0], if_pos rfl]
    refine go_Cb ?_
    exact se_ret1 () trivial rfl rfl (by exact sub_)
  | true =>
  refine go_Cb ?_
  refine sl_call rfl rfl (by kernel_rfl) rfl (by exact sub_) (within_ok ln 64 (ul)) ?_; rintro _ -
  cases w1 : wi ln 64 (ul) with
  | false =>
    rw [show ciIn kd bt ln wt ch = false by simp [ciIn, hub, hul, huw, w1], if_pos rfl]
    refine go_Cb ?_
    exact se_ret1 () trivial rfl rfl (by exact sub_)
  | true =>
  refine go_Cb ?_
  refine sl_call rfl rfl (by kernel_rfl) rfl (by exact sub_) (within_ok wt ln (uw)) ?_; rintro _ -
  cases w2 : wi wt ln (uw) with
  | false =>
    rw [show ciIn kd bt ln wt ch = false by simp [ciIn, hub, hul, huw, w2], if_pos rfl]
    refine go_Cb ?_
    exact se_ret1 () trivial rfl rfl (by exact sub_)
  | true =>
  refine go_Cb ?_
  refine sl_call rfl rfl (by kernel_rfl) rfl (by exact sub_) (within_ok ch 16 (ul)) ?_; rintro _ -
  cases w3 : wi ch 16 (ul) with
  | false =>
    rw [show ciIn kd bt ln wt ch = false by simp [ciIn, hub, hul, huw, w3], if_pos rfl]
    refine go_Cb ?_
    exact se_ret1 () trivial rfl rfl (by exact sub_)
  | true =>
  have hi : ciIn kd bt ln wt ch = true := by simp [ciIn, hub, hul, huw, w0, w1, w2, w3]
  obtain ⟨q1, q2, q3, q4⟩ := ci_le hi
  rw [hi, if_neg (by simp)]
  refine go_Cb ?_
  refine sl_call rfl rfl (by kernel_rfl) rfl (by exact sub_) (calls_ok q1 q2 q3 q4.2) ?_; rintro _ -
  by_cases hm : 511 < callsN kd bt ln wt ch
  · rw [if_pos hm]
    refine go_Cb ?_
    exact se_ret1 () trivial rfl rfl (by exact sub_)
  · rw [if_neg hm]
    refine go_Cb ?_
    exact se_ret1 () trivial rfl rfl (by exact sub_)
end Go.Proofs.Ytdmeofobljjpfaa
