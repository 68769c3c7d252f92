/- The wide field: what is below what, sums. -/
import Derived.Test.YtdmeofobljjpfaaGa
namespace Go.Proofs.Ytdmeofobljjpfaa
open Go.RowKit
attribute [local irreducible] Go.Calls Go.Exit.then Go.Exit.inBlock Go.bodyPost Go.Code.wp Go.wpList
def wP : Int := 340282366920938462946865773367900766209
theorem wP_cells : eC wP = [.int .u64 1, .int .u64 18446744073709551588] := by
  unfold eC wP
  rw [show (340282366920938462946865773367900766209 : Int) % 18446744073709551616 = 1 by decide, show (340282366920938462946865773367900766209 : Int) / 18446744073709551616 = 18446744073709551588 by decide]
theorem wP_El : El wP := by unfold El wP; omega
/-- Parts of an element, as letters. -/
theorem el_parts {x : Int} (h : El x) : ∃ a b : Int, x = a + 18446744073709551616 * b ∧ x % 18446744073709551616 = a ∧ x / 18446744073709551616 = b ∧ (0 ≤ a ∧ a < 18446744073709551616) ∧ 0 ≤ b ∧ b < 18446744073709551616 := by
  unfold El at h
  exact ⟨x % 18446744073709551616, x / 18446744073709551616, by omega, rfl, rfl, by omega, by omega⟩
theorem agg_eC {x a b : Int} (h0 : x % 18446744073709551616 = a) (h1 : x / 18446744073709551616 = b) : eC x = [.int .u64 a, .int .u64 b] := by
  unfold eC
  rw [h0, h1]
theorem u2_one (a b : Int) : ∀ u ∈ [Value.int .u64 a, .int .u64 b], u.oneCell' = true := by
  intro u hu
  simp only [List.mem_cons, List.not_mem_nil, or_false] at hu
  rcases hu with rfl | rfl <;> rfl
theorem nth_Gb {φ : Prop} (h : φ := by (first | rfl | rfl)) : φ := h
theorem mid_Gb {φ : Prop} (h : φ := by (first | exact Mid.all | exact Mid.all | exact Mid.head)) : φ := h
theorem sz_Gb {φ : Prop} (h : φ := by (first | rfl | (rfl; first | done | fail))) : φ := h
theorem one_Gb {φ : Prop} (h : φ := by (first | assumption | exact first | exact u2_one _ _ | exact one_bytes _ | (simp only [List.mem_cons, List.not_mem_nil, or_false, forall_eq_or_imp, forall_eq]; decide) | exact one_bytes _)) : φ := h
theorem set_Gb {φ : Prop} (h : φ := by (first | (fail) | ((repeat (first | exact SetAt.here | apply SetAt.there)); first | done | fail))) : φ := h
theorem cl_Gb {φ : Prop} (h : φ := by first | rfl | exact .t | exact .f | exact .t (by omega) | exact .f (by omega) | exact .u | exact .i (by (first | exact .t (by omega) | exact .f (by omega) | exact .u | exact .i (by omega) | exact .v (by omega) | exact .b (by omega) | exact .w | rfl | omega)) | exact .v (by omega) | exact .b (by omega) | exact .q (by omega) | exact .w | exact .b (by exact at_) rfl (by exact nth_Gb) | exact .w (by exact at_) rfl rfl (by exact sz_Gb) | exact .s (by exact at_) (by exact mid_Gb) rfl rfl (by exact sz_Gb) | exact .z rfl rfl ⟨by kernel_rfl⟩ | exact .b rfl rfl ⟨by kernel_rfl⟩ | exact .a rfl rfl ⟨by kernel_rfl⟩ | exact .o rfl | exact .s | exact .n | exact .p rfl | exact .q rfl | exact .c rfl | exact .d rfl | exact .n rfl rfl (by omega) | exact .a rfl rfl (by omega) | exact .p rfl rfl (by omega) (by omega) | exact .y rfl rfl (by omega) (by omega) | exact .o (by exact at_) (by omega) rfl (by exact nth_Gb) | exact .m (by exact at_) (by omega) (by exact mid_Gb) rfl rfl (by exact sz_Gb) | exact .mlen (by exact at_) rfl | exact .t (by exact at_) rfl rfl (by first | exact True.intro | rfl) (by assumption) | exact .f (by exact at_) rfl rfl (by first | exact True.intro | rfl) (by assumption) rfl | exact .t1 (by exact at_) rfl rfl (by first | exact True.intro | rfl) (by assumption) | exact .f1 (by exact at_) rfl rfl (by first | exact True.intro | rfl) (by assumption) rfl | exact .r rfl rfl (by omega) (by omega) (by exact nth_Gb) rfl | exact .s rfl (by omega) (by assumption) | exact at_ | assumption | exact .r rfl rfl | exact .h rfl rfl rfl (by omega) | exact .l rfl rfl rfl (by omega) (by omega) | exact .g rfl rfl rfl rfl (by omega) (by omega) | exact .h rfl rfl (toN_ (by omega)) (by omega) | exact .l rfl rfl (toN_ (by omega)) (by omega) (by omega) | exact .g rfl rfl (toN_ (by omega)) (toN_ (by omega)) (by omega) (by omega) | exact .o (by decide) | exact .f (by decide) | exact .n (by omega) (by first | decide | (show _ ≤ ((64 : Nat) : Int); omega)) | (constructor; (repeat (first | exact .t (by omega) | exact .f (by omega) | exact .u | exact .i (by omega) | exact .v (by omega) | exact .b (by omega) | exact .w | rfl | omega)); first | done | fail) | omega | (show _ ≤ ((64 : Nat) : Int); omega)) : φ := h
theorem pv_Gb {φ : Prop} (h : φ := by constructor; (repeat exact cl_Gb); first | done | fail) : φ := h
theorem su_Gb {φ ψ : Prop} (k : ψ) (h : Hide ψ → φ := by (intro k; (first | refine sl_pu (PuI.sep (by exact pv_Gb)) rfl ?_ | refine sl_yes rfl rfl ?_ | refine sl_no rfl rfl rfl ?_ | refine sl_off rfl rfl rfl ?_ | (fail)); exact k.out)) : φ := h ⟨k⟩
theorem rq_Gb {φ ψ : Prop} (k : ψ) (h : Hide ψ → φ := by (intro k; (first | refine wq_pu (PuI.sep (by exact pv_Gb)) rfl ?_ | refine wq_yes rfl rfl ?_ | refine wq_no rfl rfl rfl ?_ | refine wq_off rfl rfl rfl ?_ | (fail)); exact k.out)) : φ := h ⟨k⟩
theorem sto_Gb {φ ψ : Prop} (k : ψ) (h : Hide ψ → φ := by (intro k; (first | refine sl_store rfl (by exact pick_) rfl rfl (by kernel_rfl) (by exact set_Gb) ?_ | refine sl_store_whole rfl (by exact pick_) rfl (by exact sz_Gb) (by exact sz_Gb) (by exact one_Gb) ?_); exact k.out)) : φ := h ⟨k⟩
theorem go_Gb {φ ψ : Prop} (k : ψ) (h : Hide ψ → φ := by (intro k; (repeat (first | refine su_Gb ?_ | refine so_ ?_ | refine sto_Gb ?_)); exact k.out)) : φ := h ⟨k⟩
set_option maxRecDepth 100000 in
theorem wP_ok {K : List Fa} : Fn Try.prog 73 #[] K (Ret (fun _ : Unit => True) (fun _ => .agg (eC wP).toArray) (fun _ => K)) := by
  rw [wP_cells]
  refine fn_enter Try.func73 rfl _ Try.ntmps73 (by simp) [] (args_of (by simp)) ?_
  refine go_Gb ?_
  refine sl_alloc rfl rfl rfl ?_; intro g1
  refine go_Gb ?_
  refine sl_pu (pu_build (v := .agg #[.int .u64 1, .int .u64 18446744073709551588]) rfl (fun W => by kernel_rfl)) rfl ?_
  refine go_Gb ?_
  exact se_ret_c () trivial rfl rfl (by exact at_) rfl rfl rfl rfl (by exact sub_)
set_option maxRecDepth 100000 in
theorem wLess_ok {K : List Fa} {x y : Int} (hx : El x) (hy : El y) : Fn Try.prog 78 #[.agg (eC x).toArray, .agg (eC y).toArray] K (Ret (fun _ : Unit => True) (fun _ => .bool (decide (x < y))) (fun _ => K)) := by
  refine fn_enter Try.func78 rfl _ Try.ntmps78 (by simp) [(0, .agg (eC x).toArray), (1, .agg (eC y).toArray)] (args_of (by simp)) ?_
  obtain ⟨a, b, hxx, h1, h2, ha, hb⟩ := el_parts hx
  obtain ⟨c, d, hyy, h3, h4, hc, hd⟩ := el_parts hy
  rw [agg_eC h1 h2, agg_eC h3 h4]
  by_cases e1 : b < d
  · rw [decide_eq_true (by omega)]
    refine go_Gb ?_
    refine sl_box rfl rfl rfl ?_; intro g1
    refine go_Gb ?_
    refine sl_box rfl rfl rfl ?_; intro g2
    refine go_Gb ?_
    exact se_ret1 () trivial rfl rfl (by exact sub_)
  by_cases e2 : b = d
  · by_cases e3 : a < c
    · rw [decide_eq_true (by omega)]
      refine go_Gb ?_
      refine sl_box rfl rfl rfl ?_; intro g1
      refine go_Gb ?_
      refine sl_box rfl rfl rfl ?_; intro g2
      refine go_Gb ?_
      exact se_ret1 () trivial rfl rfl (by exact sub_)
    · rw [decide_eq_false (by omega)]
      refine go_Gb ?_
      refine sl_box rfl rfl rfl ?_; intro g1
      refine go_Gb ?_
      refine sl_box rfl rfl rfl ?_; intro g2
      refine go_Gb ?_
      exact se_ret1 () trivial rfl rfl (by exact sub_)
  · rw [decide_eq_false (by omega)]
    refine go_Gb ?_
    refine sl_box rfl rfl rfl ?_; intro g1
    refine go_Gb ?_
    refine sl_box rfl rfl rfl ?_; intro g2
    refine go_Gb ?_
    exact se_ret1 () trivial rfl rfl (by exact sub_)
set_option maxRecDepth 100000 in
theorem wIn_ok {K : List Fa} {x : Int} (hx : El x) : Fn Try.prog 71 #[.agg (eC x).toArray] K (Ret (fun _ : Unit => True) (fun _ => .bool (decide (x < wP))) (fun _ => K)) := by
  refine fn_enter Try.func71 rfl _ Try.ntmps71 (by simp) [(0, .agg (eC x).toArray)] (args_of (by simp)) ?_
  refine go_Gb ?_
  refine sl_box rfl rfl rfl ?_; intro g1
  refine go_Gb ?_
  refine sd_drawn (fun W => AllP W [blk g1 65 (eC x)]) (fun _ => true) (by kernel_rfl) 4 rfl ?_
  refine sd_yes2 0 rfl (by exact gd_) (by kernel_rfl) (by kernel_rfl) (by exact nop_) (PuI.all (by exact pv_Gb)) rfl (fun w hw => all_ hw) ?_
  refine sd_one 1 (by kernel_rfl) (sa_sl 1 rfl ?_)
  refine sl_call rfl rfl (by kernel_rfl) rfl (by exact sub_) wP_ok ?_
  rintro _ -
  refine sl_nil ?_
  refine se_sd (fun _ w hw => all_ hw) ?_
  refine sd_one 2 (by kernel_rfl) (sa_sl 2 rfl ?_)
  refine sl_call rfl rfl (by kernel_rfl) rfl (by exact sub_) (wLess_ok hx wP_El) ?_
  rintro _ -
  refine sl_nil ?_
  refine se_sd (fun _ w hw => all_ hw) ?_
  refine sd_yes2 3 rfl (by exact gd_) (by kernel_rfl) (by kernel_rfl) (by exact nop_) (PuI.all (by exact pv_Gb)) rfl (fun w hw => all_ hw) ?_
  refine sd_done (by kernel_rfl) ?_
  refine go_Gb ?_
  exact se_ret1 () trivial rfl rfl (by exact sub_)
theorem take_eq {a b c d : Int} (ha : 0 ≤ a ∧ a < 18446744073709551616) (hb : 0 ≤ b ∧ b < 18446744073709551616) (hc : 0 ≤ c ∧ c < 18446744073709551616) (hd : 0 ≤ d ∧ d < 18446744073709551616) :
    [Value.int .u64 ((a - c - 0) % 18446744073709551616), .int .u64 ((b - d - (if a < c + 0 then 1 else 0)) % 18446744073709551616)] = eC ((a + 18446744073709551616 * b - (c + 18446744073709551616 * d)) % 340282366920938463463374607431768211456) := by
  unfold eC
  have e1 : (a + 18446744073709551616 * b - (c + 18446744073709551616 * d)) % 340282366920938463463374607431768211456 % 18446744073709551616 = (a - c - 0) % 18446744073709551616 := by omega
  have e2 : (a + 18446744073709551616 * b - (c + 18446744073709551616 * d)) % 340282366920938463463374607431768211456 / 18446744073709551616 = (b - d - (if a < c + 0 then 1 else 0)) % 18446744073709551616 := by
    split <;> omega
  rw [e1, e2]
theorem ite_01 {p : Prop} [Decidable p] : 0 ≤ (if p then (1 : Int) else 0) ∧ (if p then (1 : Int) else 0) ≤ 1 := by split <;> omega
set_option maxRecDepth 100000 in
theorem wTake_ok {K : List Fa} {x y : Int} (hx : El x) (hy : El y) : Fn Try.prog 72 #[.agg (eC x).toArray, .agg (eC y).toArray] K (Ret (fun _ : Unit => True) (fun _ => .agg (eC ((x - y) % 340282366920938463463374607431768211456)).toArray) (fun _ => K)) := by
  refine fn_enter Try.func72 rfl _ Try.ntmps72 (by simp) [(0, .agg (eC x).toArray), (1, .agg (eC y).toArray)] (args_of (by simp)) ?_
  obtain ⟨a, b, hxx, h1, h2, ha, hb⟩ := el_parts hx
  obtain ⟨c, d, hyy, h3, h4, hc, hd⟩ := el_parts hy
  rw [agg_eC h1 h2, agg_eC h3 h4, hxx, hyy, ← take_eq ha hb hc hd]
  have hq := ite_01 (p := a < c + 0)
  refine go_Gb ?_
  refine sl_box rfl rfl rfl ?_; intro g1
  refine go_Gb ?_
  refine sl_box rfl rfl rfl ?_; intro g2
  refine go_Gb ?_
  refine sl_alloc rfl rfl rfl ?_; intro g3
  refine go_Gb ?_
  refine sl_pu (pu_ext (cap := []) rfl rfl (fun W _ => run_s64 ha.1 hc (by decide) W)) rfl ?_
  generalize (if a < c + 0 then (1 : Int) else 0) = q at hq ⊢
  refine go_Gb ?_
  refine sl_pu (pu_ext (cap := []) rfl rfl (fun W _ => run_s64 hb.1 hd hq W)) rfl ?_
  generalize (if b < d + q then (1 : Int) else 0) = r
  refine go_Gb ?_
  refine sl_pu (pu_build (v := .agg #[.int .u64 ((a - c - 0) % 18446744073709551616), .int .u64 ((b - d - q) % 18446744073709551616)]) rfl (fun W => by kernel_rfl)) rfl ?_
  refine go_Gb ?_
  exact se_ret_c () trivial rfl rfl (by exact at_) rfl rfl rfl rfl (by exact sub_)
theorem El.mod {x : Int} : El (x % 340282366920938463463374607431768211456) := by unfold El; omega
theorem El.modP {x : Int} : El (x % wP) := by unfold El wP; omega
set_option maxRecDepth 100000 in
theorem wOf_ok {K : List Fa} {x : Int} (hx : El x) : Fn Try.prog 70 #[.agg (eC x).toArray] K (Ret (fun _ : Unit => True) (fun _ => .agg (eC (x % wP)).toArray) (fun _ => K)) := by
  refine fn_enter Try.func70 rfl _ Try.ntmps70 (by simp) [(0, .agg (eC x).toArray)] (args_of (by simp)) ?_
  refine go_Gb ?_
  refine sl_box rfl rfl rfl ?_; intro g1
  refine go_Gb ?_
  refine sl_alloc rfl rfl rfl ?_; intro g2
  refine go_Gb ?_
  refine sl_call rfl rfl (by kernel_rfl) rfl (by exact sub_) (wIn_ok hx) ?_; rintro _ -
  by_cases h : x < wP
  · rw [decide_eq_true h, show x % wP = x by unfold El wP at *; omega]
    refine go_Gb ?_
    exact se_ret_c () trivial rfl rfl (by exact at_) rfl rfl rfl rfl (by exact sub_)
  · rw [decide_eq_false h, show x % wP = (x - wP) % 340282366920938463463374607431768211456 by unfold El wP at *; omega]
    refine go_Gb ?_
    refine sd_drawn (fun W => AllP W [blk g1 65 (eC x)]) (fun i => !(List.contains [3] i)) (by kernel_rfl) 4 rfl ?_
    refine sd_yes2 0 rfl (by exact gd_) (by kernel_rfl) (by kernel_rfl) (by exact nop_) (PuI.all (by exact pv_Gb)) rfl (fun w hw => all_ hw) ?_
    refine sd_one 1 (by kernel_rfl) (sa_sl 1 rfl ?_)
    refine sl_call rfl rfl (by kernel_rfl) rfl (by exact sub_) wP_ok ?_
    rintro _ -
    refine sl_nil ?_
    refine se_sd (fun _ w hw => all_ hw) ?_
    refine sd_one 2 (by kernel_rfl) (sa_sl 2 rfl ?_)
    refine sl_call rfl rfl (by kernel_rfl) rfl (by exact sub_) (wTake_ok hx wP_El) ?_
    rintro _ -
    refine sl_nil ?_
    refine se_sd (fun _ w hw => all_ hw) ?_
    refine sd_one 3 (by kernel_rfl) (sa_sl 3 rfl ?_)
    refine sl_store_whole rfl (by exact pick_) rfl (by rfl) (by rfl) (eC_one _) ?_
    refine sl_nil ?_
    refine se_sd (fun h => absurd h (by decide)) ?_
    refine sd_done (by kernel_rfl) ?_
    refine go_Gb ?_
    exact se_ret_c () trivial rfl rfl (by exact at_) rfl rfl rfl rfl (by exact sub_)
end Go.Proofs.Ytdmeofobljjpfaa
