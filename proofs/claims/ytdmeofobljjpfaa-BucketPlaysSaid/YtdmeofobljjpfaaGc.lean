/- Sums in either field; numbers as elements. -/
import Derived.Test.YtdmeofobljjpfaaGb
namespace Go.Proofs.Ytdmeofobljjpfaa
open Go.RowKit
attribute [local irreducible] Go.Calls Go.Exit.then Go.Exit.inBlock Go.bodyPost Go.Code.wp Go.wpList
theorem wsum_eq {a b c d : Int} (ha : 0 ≤ a ∧ a < 18446744073709551616) (hb : 0 ≤ b ∧ b < 18446744073709551616) (hc : 0 ≤ c ∧ c < 18446744073709551616) (hd : 0 ≤ d ∧ d < 18446744073709551616) :
    [Value.int .u64 ((a + c + 0) % 18446744073709551616), .int .u64 ((b + d + (a + c + 0) / 18446744073709551616) % 18446744073709551616)] = eC ((a + 18446744073709551616 * b + (c + 18446744073709551616 * d)) % 340282366920938463463374607431768211456) := by
  unfold eC
  have e1 : (a + 18446744073709551616 * b + (c + 18446744073709551616 * d)) % 340282366920938463463374607431768211456 % 18446744073709551616 = (a + c + 0) % 18446744073709551616 := by omega
  have e2 : (a + 18446744073709551616 * b + (c + 18446744073709551616 * d)) % 340282366920938463463374607431768211456 / 18446744073709551616 = (b + d + (a + c + 0) / 18446744073709551616) % 18446744073709551616 := by omega
  rw [e1, e2]
theorem wover_eq {a b c d : Int} (ha : 0 ≤ a ∧ a < 18446744073709551616) (hb : 0 ≤ b ∧ b < 18446744073709551616) (hc : 0 ≤ c ∧ c < 18446744073709551616) (hd : 0 ≤ d ∧ d < 18446744073709551616) :
    (b + d + (a + c + 0) / 18446744073709551616) / 18446744073709551616 = (a + 18446744073709551616 * b + (c + 18446744073709551616 * d)) / 340282366920938463463374607431768211456 := by omega
theorem car_01 {a c : Int} (ha : 0 ≤ a ∧ a < 18446744073709551616) (hc : 0 ≤ c ∧ c < 18446744073709551616) : 0 ≤ (a + c + 0) / 18446744073709551616 ∧ (a + c + 0) / 18446744073709551616 ≤ 1 := by omega
theorem nth_Gc {φ : Prop} (h : φ := by (first | rfl | rfl)) : φ := h
theorem mid_Gc {φ : Prop} (h : φ := by (first | exact Mid.all | exact Mid.all | exact Mid.head)) : φ := h
theorem sz_Gc {φ : Prop} (h : φ := by (first | rfl | (rfl; first | done | fail))) : φ := h
theorem one_Gc {φ : Prop} (h : φ := by (first | assumption | exact first | exact u2_one _ _ | exact one_bytes _ | (simp only [List.mem_cons, List.not_mem_nil, or_false, forall_eq_or_imp, forall_eq]; decide) | exact one_bytes _)) : φ := h
theorem set_Gc {φ : Prop} (h : φ := by (first | (fail) | ((repeat (first | exact SetAt.here | apply SetAt.there)); first | done | fail))) : φ := h
theorem cl_Gc {φ : Prop} (h : φ := by first | rfl | exact .t | exact .f | exact .t (by omega) | exact .f (by omega) | exact .u | exact .i (by (first | exact .t (by omega) | exact .f (by omega) | exact .u | exact .i (by omega) | exact .v (by omega) | exact .b (by omega) | exact .w | rfl | omega)) | exact .v (by omega) | exact .b (by omega) | exact .q (by omega) | exact .w | exact .b (by exact at_) rfl (by exact nth_Gc) | exact .w (by exact at_) rfl rfl (by exact sz_Gc) | exact .s (by exact at_) (by exact mid_Gc) rfl rfl (by exact sz_Gc) | exact .z rfl rfl ⟨by kernel_rfl⟩ | exact .b rfl rfl ⟨by kernel_rfl⟩ | exact .a rfl rfl ⟨by kernel_rfl⟩ | exact .o rfl | exact .s | exact .n | exact .p rfl | exact .q rfl | exact .c rfl | exact .d rfl | exact .n rfl rfl (by omega) | exact .a rfl rfl (by omega) | exact .p rfl rfl (by omega) (by omega) | exact .y rfl rfl (by omega) (by omega) | exact .o (by exact at_) (by omega) rfl (by exact nth_Gc) | exact .m (by exact at_) (by omega) (by exact mid_Gc) rfl rfl (by exact sz_Gc) | exact .mlen (by exact at_) rfl | exact .t (by exact at_) rfl rfl (by first | exact True.intro | rfl) (by assumption) | exact .f (by exact at_) rfl rfl (by first | exact True.intro | rfl) (by assumption) rfl | exact .t1 (by exact at_) rfl rfl (by first | exact True.intro | rfl) (by assumption) | exact .f1 (by exact at_) rfl rfl (by first | exact True.intro | rfl) (by assumption) rfl | exact .r rfl rfl (by omega) (by omega) (by exact nth_Gc) rfl | exact .s rfl (by omega) (by assumption) | exact at_ | assumption | exact .r rfl rfl | exact .h rfl rfl rfl (by omega) | exact .l rfl rfl rfl (by omega) (by omega) | exact .g rfl rfl rfl rfl (by omega) (by omega) | exact .h rfl rfl (toN_ (by omega)) (by omega) | exact .l rfl rfl (toN_ (by omega)) (by omega) (by omega) | exact .g rfl rfl (toN_ (by omega)) (toN_ (by omega)) (by omega) (by omega) | exact .o (by decide) | exact .f (by decide) | exact .n (by omega) (by first | decide | (show _ ≤ ((64 : Nat) : Int); omega)) | (constructor; (repeat (first | exact .t (by omega) | exact .f (by omega) | exact .u | exact .i (by omega) | exact .v (by omega) | exact .b (by omega) | exact .w | rfl | omega)); first | done | fail) | omega | (show _ ≤ ((64 : Nat) : Int); omega)) : φ := h
theorem pv_Gc {φ : Prop} (h : φ := by constructor; (repeat exact cl_Gc); first | done | fail) : φ := h
theorem su_Gc {φ ψ : Prop} (k : ψ) (h : Hide ψ → φ := by (intro k; (first | refine sl_pu (PuI.sep (by exact pv_Gc)) rfl ?_ | refine sl_yes rfl rfl ?_ | refine sl_no rfl rfl rfl ?_ | refine sl_off rfl rfl rfl ?_ | (fail)); exact k.out)) : φ := h ⟨k⟩
theorem rq_Gc {φ ψ : Prop} (k : ψ) (h : Hide ψ → φ := by (intro k; (first | refine wq_pu (PuI.sep (by exact pv_Gc)) rfl ?_ | refine wq_yes rfl rfl ?_ | refine wq_no rfl rfl rfl ?_ | refine wq_off rfl rfl rfl ?_ | (fail)); exact k.out)) : φ := h ⟨k⟩
theorem sto_Gc {φ ψ : Prop} (k : ψ) (h : Hide ψ → φ := by (intro k; (first | refine sl_store rfl (by exact pick_) rfl rfl (by kernel_rfl) (by exact set_Gc) ?_ | refine sl_store_whole rfl (by exact pick_) rfl (by exact sz_Gc) (by exact sz_Gc) (by exact one_Gc) ?_); exact k.out)) : φ := h ⟨k⟩
theorem go_Gc {φ ψ : Prop} (k : ψ) (h : Hide ψ → φ := by (intro k; (repeat (first | refine su_Gc ?_ | refine so_ ?_ | refine sto_Gc ?_)); exact k.out)) : φ := h ⟨k⟩
set_option maxRecDepth 100000 in
set_option maxHeartbeats 2000000 in
theorem wAdd_ok {K : List Fa} {x y : Int} (hx : El x) (hy : El y) : Fn Try.prog 57 #[.agg (eC x).toArray, .agg (eC y).toArray] K (Ret (fun _ : Unit => True) (fun _ => .agg (eC ((x + y) % wP)).toArray) (fun _ => K)) := by
  refine fn_enter Try.func57 rfl _ Try.ntmps57 (by simp) [(0, .agg (eC x).toArray), (1, .agg (eC y).toArray)] (args_of (by simp)) ?_
  refine go_Gc ?_
  refine sl_box rfl rfl rfl ?_; intro g1
  refine go_Gc ?_
  refine sl_box rfl rfl rfl ?_; intro g2
  refine go_Gc ?_
  refine sl_alloc rfl rfl rfl ?_; intro g3
  refine go_Gc ?_
  refine sd_drawn (fun W => AllP W [blk g1 65 (eC x), blk g2 65 (eC y)]) (fun i => !(List.contains [4, 5] i)) (by kernel_rfl) 6 rfl ?_
  refine sd_yes2 0 rfl (by exact gd_) (by kernel_rfl) (by kernel_rfl) (by exact nop_) (PuI.all (by exact pv_Gc)) rfl (fun w hw => all_ hw) ?_
  refine sd_yes2 2 rfl (by exact gd_) (by kernel_rfl) (by kernel_rfl) (by exact nop_) (PuI.all (by exact pv_Gc)) rfl (fun w hw => all_ hw) ?_
  refine sd_one 1 (by kernel_rfl) (sa_sl 1 rfl ?_)
  refine sl_call rfl rfl (by kernel_rfl) rfl (by exact sub_) (wOf_ok hx) ?_
  rintro _ -
  refine sl_nil ?_
  refine se_sd (fun _ w hw => all_ hw) ?_
  refine sd_one 3 (by kernel_rfl) (sa_sl 3 rfl ?_)
  refine sl_call rfl rfl (by kernel_rfl) rfl (by exact sub_) (wOf_ok hy) ?_
  rintro _ -
  refine sl_nil ?_
  refine se_sd (fun _ w hw => all_ hw) ?_
  refine sd_one 4 (by kernel_rfl) (sa_sl 4 rfl ?_)
  refine sl_store_whole rfl (by exact pick_) rfl (by rfl) (by rfl) (eC_one _) ?_
  refine sl_nil ?_
  refine se_sd (fun h => absurd h (by decide)) ?_
  refine sd_one 5 (by kernel_rfl) (sa_sl 5 rfl ?_)
  refine sl_store_whole rfl (by exact pick_) rfl (by rfl) (by rfl) (eC_one _) ?_
  refine sl_nil ?_
  refine se_sd (fun h => absurd h (by decide)) ?_
  refine sd_done (by kernel_rfl) ?_
  have hs : (x + y) % wP = (x % wP + y % wP) % wP := by rw [Int.add_emod]
  have hsx : 0 ≤ x % wP ∧ x % wP < wP := by unfold wP; omega
  have hsy : 0 ≤ y % wP ∧ y % wP < wP := by unfold wP; omega
  obtain ⟨a, b, hxx, h1, h2, ha, hb⟩ := el_parts (El.modP (x := x))
  obtain ⟨c, d, hyy, h3, h4, hc, hd⟩ := el_parts (El.modP (x := y))
  rw [agg_eC h1 h2, agg_eC h3 h4, hs]
  generalize x % wP = X at *
  generalize y % wP = Y at *
  refine go_Gc ?_
  refine sl_pu (pu_ext (cap := []) rfl rfl (fun W _ => run_a64 ha.1 hc.1 (by decide) W)) rfl ?_
  refine go_Gc ?_
  refine sl_pu (pu_ext (cap := []) rfl rfl (fun W _ => run_a64 hb.1 hd.1 (car_01 ha hc) W)) rfl ?_
  rw [wover_eq ha hb hc hd, ← hxx, ← hyy]
  have hse := wsum_eq ha hb hc hd
  rw [← hxx, ← hyy] at hse
  refine go_Gc ?_
  refine sl_pu (pu_build (v := .agg #[.int .u64 ((a + c + 0) % 18446744073709551616), .int .u64 ((b + d + (a + c + 0) / 18446744073709551616) % 18446744073709551616)]) rfl (fun W => by kernel_rfl)) rfl ?_
  rw [show (#[.int .u64 ((a + c + 0) % 18446744073709551616), .int .u64 ((b + d + (a + c + 0) / 18446744073709551616) % 18446744073709551616)] : Array Value) = (eC ((X + Y) % 340282366920938463463374607431768211456)).toArray from congrArg List.toArray hse]
  refine sl_alloc rfl rfl rfl ?_; intro g4
  refine sl_store_whole rfl (by exact pick_) rfl (by rfl) (by rfl) (eC_one _) ?_
  generalize (a + c + 0) % 18446744073709551616 = lo
  generalize (b + d + (a + c + 0) / 18446744073709551616) % 18446744073709551616 = hi
  generalize (a + c + 0) / 18446744073709551616 = ca
  clear hse hxx hyy h1 h2 h3 h4
  unfold wP at hsx hsy
  by_cases q1 : 340282366920938463463374607431768211456 ≤ X + Y
  · rw [show (X + Y) / 340282366920938463463374607431768211456 = 1 by omega, show (X + Y) % wP = ((X + Y) % 340282366920938463463374607431768211456 - wP) % 340282366920938463463374607431768211456 by unfold wP; omega]
    refine go_Gc ?_
    refine sd_drawn (fun W => AllP W [blk g4 65 (eC ((X + Y) % 340282366920938463463374607431768211456))]) (fun i => !(List.contains [3] i)) (by kernel_rfl) 4 rfl ?_
    refine sd_yes2 0 rfl (by exact gd_) (by kernel_rfl) (by kernel_rfl) (by exact nop_) (PuI.all (by exact pv_Gc)) rfl (fun w hw => all_ hw) ?_
    refine sd_one 1 (by kernel_rfl) (sa_sl 1 rfl ?_)
    refine sl_call rfl rfl (by kernel_rfl) rfl (by exact sub_) wP_ok ?_
    rintro _ -
    refine sl_nil ?_
    refine se_sd (fun _ w hw => all_ hw) ?_
    refine sd_one 2 (by kernel_rfl) (sa_sl 2 rfl ?_)
    refine sl_call rfl rfl (by kernel_rfl) rfl (by exact sub_) (wTake_ok El.mod wP_El) ?_
    rintro _ -
    refine sl_nil ?_
    refine se_sd (fun _ w hw => all_ hw) ?_
    refine sd_one 3 (by kernel_rfl) (sa_sl 3 rfl ?_)
    refine sl_store_whole rfl (by exact pick_) rfl (by rfl) (by rfl) (eC_one _) ?_
    refine sl_nil ?_
    refine se_sd (fun h => absurd h (by decide)) ?_
    refine sd_done (by kernel_rfl) ?_
    refine go_Gc ?_
    exact se_ret_c () trivial rfl rfl (by exact at_) rfl rfl rfl rfl (by exact sub_)
  rw [show (X + Y) / 340282366920938463463374607431768211456 = 0 by omega]
  by_cases q2 : X + Y < wP
  · have q3 : (X + Y) % 340282366920938463463374607431768211456 = X + Y := by omega
    rw [q3, show (X + Y) % wP = X + Y by unfold wP at *; omega]
    refine go_Gc ?_
    refine sl_call rfl rfl (by kernel_rfl) rfl (by exact sub_) (wIn_ok (x := X + Y) (by unfold El; omega)) ?_; rintro _ -
    rw [decide_eq_true q2]
    refine go_Gc ?_
    exact se_ret_c () trivial rfl rfl (by exact at_) rfl rfl rfl rfl (by exact sub_)
  · have q3 : (X + Y) % 340282366920938463463374607431768211456 = X + Y := by omega
    rw [q3, show (X + Y) % wP = (X + Y - wP) % 340282366920938463463374607431768211456 by unfold wP at *; omega]
    have q4 : El (X + Y) := by unfold El; omega
    refine go_Gc ?_
    refine sl_call rfl rfl (by kernel_rfl) rfl (by exact sub_) (wIn_ok q4) ?_; rintro _ -
    rw [decide_eq_false q2]
    refine go_Gc ?_
    refine sd_drawn (fun W => AllP W [blk g4 65 (eC (X + Y))]) (fun i => !(List.contains [3] i)) (by kernel_rfl) 4 rfl ?_
    refine sd_yes2 0 rfl (by exact gd_) (by kernel_rfl) (by kernel_rfl) (by exact nop_) (PuI.all (by exact pv_Gc)) rfl (fun w hw => all_ hw) ?_
    refine sd_one 1 (by kernel_rfl) (sa_sl 1 rfl ?_)
    refine sl_call rfl rfl (by kernel_rfl) rfl (by exact sub_) wP_ok ?_
    rintro _ -
    refine sl_nil ?_
    refine se_sd (fun _ w hw => all_ hw) ?_
    refine sd_one 2 (by kernel_rfl) (sa_sl 2 rfl ?_)
    refine sl_call rfl rfl (by kernel_rfl) rfl (by exact sub_) (wTake_ok q4 wP_El) ?_
    rintro _ -
    refine sl_nil ?_
    refine se_sd (fun _ w hw => all_ hw) ?_
    refine sd_one 3 (by kernel_rfl) (sa_sl 3 rfl ?_)
    refine sl_store_whole rfl (by exact pick_) rfl (by rfl) (by rfl) (eC_one _) ?_
    refine sl_nil ?_
    refine se_sd (fun h => absurd h (by decide)) ?_
    refine sd_done (by kernel_rfl) ?_
    refine go_Gc ?_
    exact se_ret_c () trivial rfl rfl (by exact at_) rfl rfl rfl rfl (by exact sub_)
/-- A sum, in either field. -/
def fAdd (f x y : Int) : Int := if f = 1 then (x % 18446744073709551616 + y % 18446744073709551616) % 18446744069414584321 else if f = 2 then (x + y) % wP else 0
theorem fAdd_El (f x y : Int) : El (fAdd f x y) := by
  unfold fAdd El wP
  split
  · omega
  split <;> omega
theorem eC_small {x : Int} (h : 0 ≤ x ∧ x < 18446744073709551616) : eC x = [.int .u64 x, .int .u64 0] := by
  unfold eC
  rw [show x % 18446744073709551616 = x by omega, show x / 18446744073709551616 = 0 by omega]
set_option maxRecDepth 100000 in
theorem fAdd_ok {K : List Fa} {f x y : Int} (hx : El x) (hy : El y) : Fn Try.prog 42 #[.int .u8 f, .agg (eC x).toArray, .agg (eC y).toArray] K (Ret (fun _ : Unit => True) (fun _ => .agg (eC (fAdd f x y)).toArray) (fun _ => K)) := by
  refine fn_enter Try.func42 rfl _ Try.ntmps42 (by simp) [(0, .int .u8 f), (1, .agg (eC x).toArray), (2, .agg (eC y).toArray)] (args_of (by simp)) ?_
  refine go_Gc ?_
  refine sl_box rfl rfl rfl ?_; intro g1
  refine go_Gc ?_
  refine sl_box rfl rfl rfl ?_; intro g2
  refine go_Gc ?_
  refine sl_alloc rfl rfl rfl ?_; intro g3
  by_cases h1 : f = 1
  · subst h1
    have hr : 0 ≤ fAdd 1 x y ∧ fAdd 1 x y < 18446744073709551616 := by
      have : fAdd 1 x y = (x % 18446744073709551616 + y % 18446744073709551616) % 18446744069414584321 := by simp [fAdd]
      omega
    rw [eC_small hr, show fAdd 1 x y = (x % 18446744073709551616 + y % 18446744073709551616) % 18446744069414584321 by simp [fAdd]]
    obtain ⟨a, b, hxx, h1, h2, ha, hb⟩ := el_parts hx
    obtain ⟨c, d, hyy, h3, h4, hc, hd⟩ := el_parts hy
    rw [agg_eC h1 h2, agg_eC h3 h4, h1, h3]
    refine go_Gc ?_
    refine sl_call rfl rfl (by kernel_rfl) rfl (by exact sub_) (gAdd_ok ha hc) ?_; rintro _ -
    refine sl_pu (pu_build (v := .agg #[.int .u64 ((a + c) % 18446744069414584321), .int .u64 0]) rfl (fun W => by kernel_rfl)) rfl ?_
    refine go_Gc ?_
    exact se_ret_c () trivial rfl rfl (by exact at_) rfl rfl rfl rfl (by exact sub_)
  by_cases h2 : f = 2
  · subst h2
    rw [show fAdd 2 x y = (x + y) % wP by simp [fAdd]]
    refine go_Gc ?_
    refine sl_call rfl rfl (by kernel_rfl) rfl (by exact sub_) (wAdd_ok hx hy) ?_; rintro _ -
    refine sl_store_whole rfl (by exact pick_) rfl (by rfl) (by rfl) (eC_one _) ?_
    refine go_Gc ?_
    exact se_ret_c () trivial rfl rfl (by exact at_) rfl rfl rfl rfl (by exact sub_)
  · rw [show fAdd f x y = 0 by simp [fAdd, h1, h2], show eC 0 = [.int .u64 0, .int .u64 0] from rfl]
    refine go_Gc ?_
    refine sl_pu (pu_build (v := .agg #[.int .u64 0, .int .u64 0]) rfl (fun W => by kernel_rfl)) rfl ?_
    refine go_Gc ?_
    exact se_ret_c () trivial rfl rfl (by exact at_) rfl rfl rfl rfl (by exact sub_)
end Go.Proofs.Ytdmeofobljjpfaa
