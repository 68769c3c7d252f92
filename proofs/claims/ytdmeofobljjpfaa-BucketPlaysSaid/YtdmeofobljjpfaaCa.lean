/- Circuits and tasks: whether they may be. -/
import Derived.Test.YtdmeofobljjpfaaLn
import Derived.Test.YtdmeofobljjpfaaAp
namespace Go.Proofs.Ytdmeofobljjpfaa
open Go.RowKit
attribute [local irreducible] Go.Calls Go.Exit.then Go.Exit.inBlock Go.bodyPost Go.Code.wp Go.wpList
/-- A circuit. -/
structure Ci where
  kd : Int
  fl : Int
  bt : Int
  ln : Int
  wt : Int
  ch : Int
  hk : 0 ≤ kd ∧ kd ≤ 255
  hf : 0 ≤ fl ∧ fl ≤ 255
  hb : -9223372036854775808 ≤ bt ∧ bt ≤ 9223372036854775807
  hl : -9223372036854775808 ≤ ln ∧ ln ≤ 9223372036854775807
  hw : -9223372036854775808 ≤ wt ∧ wt ≤ 9223372036854775807
  hc : -9223372036854775808 ≤ ch ∧ ch ≤ 9223372036854775807
def cCells (kd fl bt ln wt ch : Int) : List Value := [.int .u8 kd, .int .u8 fl, .int .i64 bt, .int .i64 ln, .int .i64 wt, .int .i64 ch]
def Ci.cells (c : Ci) : List Value := [.int .u8 c.kd, .int .u8 c.fl, .int .i64 c.bt, .int .i64 c.ln, .int .i64 c.wt, .int .i64 c.ch]
def Ci.v (c : Ci) : Value := .agg c.cells.toArray
theorem nth_Ca {φ : Prop} (h : φ := by (first | rfl | rfl)) : φ := h
theorem mid_Ca {φ : Prop} (h : φ := by (first | exact Mid.all | exact Mid.all | exact Mid.head)) : φ := h
theorem sz_Ca {φ : Prop} (h : φ := by (first | rfl | (rfl; first | done | fail))) : φ := h
theorem one_Ca {φ : Prop} (h : φ := by (first | assumption | exact one_bytes _ | (simp only [List.mem_cons, List.not_mem_nil, or_false, forall_eq_or_imp, forall_eq]; decide) | exact one_bytes _)) : φ := h
theorem set_Ca {φ : Prop} (h : φ := by (first | (fail) | ((repeat (first | exact SetAt.here | apply SetAt.there)); first | done | fail))) : φ := h
theorem cl_Ca {φ : Prop} (h : φ := by first | rfl | exact .t | exact .f | exact .t (by omega) | exact .f (by omega) | exact .u | exact .i (by (first | exact .t (by omega) | exact .f (by omega) | exact .u | exact .i (by omega) | exact .v (by omega) | exact .b (by omega) | exact .w | rfl | omega)) | exact .v (by omega) | exact .b (by omega) | exact .q (by omega) | exact .w | exact .b (by exact at_) rfl (by exact nth_Ca) | exact .w (by exact at_) rfl rfl (by exact sz_Ca) | exact .s (by exact at_) (by exact mid_Ca) rfl rfl (by exact sz_Ca) | exact .z rfl rfl ⟨by kernel_rfl⟩ | exact .b rfl rfl ⟨by kernel_rfl⟩ | exact .a rfl rfl ⟨by kernel_rfl⟩ | exact .o rfl | exact .s | exact .n | exact .p rfl | exact .q rfl | exact .c rfl | exact .d rfl | exact .n rfl rfl (by omega) | exact .a rfl rfl (by omega) | exact .p rfl rfl (by omega) (by omega) | exact .y rfl rfl (by omega) (by omega) | exact .o (by exact at_) (by omega) rfl (by exact nth_Ca) | exact .m (by exact at_) (by omega) (by exact mid_Ca) rfl rfl (by exact sz_Ca) | exact .mlen (by exact at_) rfl | exact .t (by exact at_) rfl rfl (by first | exact True.intro | rfl) (by assumption) | exact .f (by exact at_) rfl rfl (by first | exact True.intro | rfl) (by assumption) rfl | exact .t1 (by exact at_) rfl rfl (by first | exact True.intro | rfl) (by assumption) | exact .f1 (by exact at_) rfl rfl (by first | exact True.intro | rfl) (by assumption) rfl | exact .r rfl rfl (by omega) (by omega) (by exact nth_Ca) rfl | exact .s rfl (by omega) (by assumption) | exact at_ | assumption | exact .r rfl rfl | exact .h rfl rfl rfl (by omega) | exact .l rfl rfl rfl (by omega) (by omega) | exact .g rfl rfl rfl rfl (by omega) (by omega) | exact .h rfl rfl (toN_ (by omega)) (by omega) | exact .l rfl rfl (toN_ (by omega)) (by omega) (by omega) | exact .g rfl rfl (toN_ (by omega)) (toN_ (by omega)) (by omega) (by omega) | exact .o (by decide) | exact .f (by decide) | exact .n (by omega) (by first | decide | (show _ ≤ ((64 : Nat) : Int); omega)) | (constructor; (repeat (first | exact .t (by omega) | exact .f (by omega) | exact .u | exact .i (by omega) | exact .v (by omega) | exact .b (by omega) | exact .w | rfl | omega)); first | done | fail) | omega | (show _ ≤ ((64 : Nat) : Int); omega)) : φ := h
theorem pv_Ca {φ : Prop} (h : φ := by constructor; (repeat exact cl_Ca); first | done | fail) : φ := h
theorem su_Ca {φ ψ : Prop} (k : ψ) (h : Hide ψ → φ := by (intro k; (first | refine sl_pu (PuI.sep (by exact pv_Ca)) rfl ?_ | refine sl_yes rfl rfl ?_ | refine sl_no rfl rfl rfl ?_ | refine sl_off rfl rfl rfl ?_ | (fail)); exact k.out)) : φ := h ⟨k⟩
theorem rq_Ca {φ ψ : Prop} (k : ψ) (h : Hide ψ → φ := by (intro k; (first | refine wq_pu (PuI.sep (by exact pv_Ca)) rfl ?_ | refine wq_yes rfl rfl ?_ | refine wq_no rfl rfl rfl ?_ | refine wq_off rfl rfl rfl ?_ | (fail)); exact k.out)) : φ := h ⟨k⟩
theorem sto_Ca {φ ψ : Prop} (k : ψ) (h : Hide ψ → φ := by (intro k; (first | refine sl_store rfl (by exact pick_) rfl rfl (by kernel_rfl) (by exact set_Ca) ?_ | refine sl_store_whole rfl (by exact pick_) rfl (by exact sz_Ca) (by exact sz_Ca) (by exact one_Ca) ?_); exact k.out)) : φ := h ⟨k⟩
theorem go_Ca {φ ψ : Prop} (k : ψ) (h : Hide ψ → φ := by (intro k; (repeat (first | refine su_Ca ?_ | refine so_ ?_ | refine sto_Ca ?_)); exact k.out)) : φ := h ⟨k⟩
set_option maxRecDepth 100000 in
theorem valid_ok {K : List Fa} (f : Int) : Fn Try.prog 35 #[.int .u8 f] K (Ret (fun _ : Unit => True) (fun _ => .bool (decide (f = 1 ∨ f = 2))) (fun _ => K)) := by
  refine fn_enter Try.func35 rfl _ Try.ntmps35 (by simp) [(0, .int .u8 f)] (args_of (by simp)) ?_
  by_cases h1 : f = 1
  · subst h1
    refine go_Ca ?_
    exact se_ret1 () trivial rfl rfl (by exact sub_)
  · by_cases h2 : f = 2
    · subst h2
      refine go_Ca ?_
      exact se_ret1 () trivial rfl rfl (by exact sub_)
    · have e : decide (f = 1 ∨ f = 2) = false := by simp [h1, h2]
      rw [e]
      refine go_Ca ?_
      exact se_ret1 () trivial rfl rfl (by exact sub_)
def wi (n m : Int) (u : Bool) : Bool := if u then decide (1 ≤ n ∧ n ≤ m) else decide (n = 0)
set_option maxRecDepth 100000 in
theorem within_ok {K : List Fa} (n m : Int) (u : Bool) : Fn Try.prog 36 #[.int .i64 n, .int .i64 m, .bool u] K (Ret (fun _ : Unit => True) (fun _ => .bool (wi n m u)) (fun _ => K)) := by
  refine fn_enter Try.func36 rfl _ Try.ntmps36 (by simp) [(0, .int .i64 n), (1, .int .i64 m), (2, .bool u)] (args_of (by simp)) ?_
  cases u with
  | false =>
    rw [show wi n m false = decide (n = 0) from rfl]
    refine go_Ca ?_
    exact se_ret1 () trivial rfl rfl (by exact sub_)
  | true =>
    by_cases h1 : 1 ≤ n
    · rw [show wi n m true = decide (n ≤ m) by simp [wi, h1]]
      refine go_Ca ?_
      exact se_ret1 () trivial rfl rfl (by exact sub_)
    · rw [show wi n m true = false by simp [wi, h1]]
      refine go_Ca ?_
      exact se_ret1 () trivial rfl rfl (by exact sub_)
set_option maxRecDepth 100000 in
theorem wbits_ok {K : List Fa} (kd fl bt ln wt ch : Int) (h : wt ≤ 9223372036854775807) : Fn Try.prog 61 #[.agg (cCells kd fl bt ln wt ch).toArray] K (Ret (fun _ : Unit => True) (fun _ => .int .i64 (Lib.bitLen (max wt 0).toNat)) (fun _ => K)) := by
  refine fn_enter Try.func61 rfl _ Try.ntmps61 (by simp) [(0, .agg (cCells kd fl bt ln wt ch).toArray)] (args_of (by simp)) ?_
  refine go_Ca ?_
  refine sl_box rfl rfl rfl ?_; intro g1
  refine go_Ca ?_
  refine sl_call rfl rfl (by kernel_rfl) rfl Sub.refl (fn_eq (len_c _ (by omega) (by omega))) ?_
  rintro _ -
  rw [show (if wt < 0 then 0 else wt) = max wt 0 by omega]
  refine go_Ca ?_
  exact se_ret1 () trivial rfl rfl (by exact sub_)
/-- How many elements a vector has. -/
def inN (kd bt ln wt : Int) : Int := if kd = 1 then 1 else if kd = 2 then bt else if kd = 3 then ln * bt else if kd = 4 then ln else if kd = 5 then ln + Lib.bitLen wt.toNat else 0
theorem bl_le {wt : Int} (h0 : 0 ≤ wt) (h1 : wt ≤ 64) : (Lib.bitLen (max wt 0).toNat : Int) ≤ 8 ∧ max wt 0 = wt := by
  have h := Lib.bitLen_le8 ⟨(max wt 0).toNat, by omega⟩
  have h' : Lib.bitLen (max wt 0).toNat ≤ 8 := h
  exact ⟨by omega, by omega⟩
theorem mul_le {a b m n : Int} (h0 : 0 ≤ a) (h1 : a ≤ m) (h2 : 0 ≤ b) (h3 : b ≤ n) : 0 ≤ a * b ∧ a * b ≤ m * n :=
  ⟨Int.mul_nonneg h0 h2, Int.mul_le_mul h1 h3 h2 (by omega)⟩
set_option maxRecDepth 100000 in
set_option maxHeartbeats 2000000 in
theorem in_ok {K : List Fa} {kd fl bt ln wt ch : Int} (hb : 0 ≤ bt ∧ bt ≤ 32) (hl : 0 ≤ ln ∧ ln ≤ 64) (hw : 0 ≤ wt ∧ wt ≤ 64) :
    Fn Try.prog 44 #[.agg (cCells kd fl bt ln wt ch).toArray] K (Ret (fun _ : Unit => True) (fun _ => .int .i64 (inN kd bt ln wt)) (fun _ => K)) := by
  refine fn_enter Try.func44 rfl _ Try.ntmps44 (by simp) [(0, .agg (cCells kd fl bt ln wt ch).toArray)] (args_of (by simp)) ?_
  refine go_Ca ?_
  refine sl_box rfl rfl rfl ?_; intro g1
  by_cases h1 : kd = 1
  · subst h1
    refine go_Ca ?_
    exact se_ret1 () trivial rfl rfl (by exact sub_)
  by_cases h2 : kd = 2
  · subst h2
    rw [show inN 2 bt ln wt = bt by simp [inN]]
    refine go_Ca ?_
    exact se_ret1 () trivial rfl rfl (by exact sub_)
  by_cases h3 : kd = 3
  · subst h3
    have hm := mul_le hl.1 hl.2 hb.1 hb.2
    rw [show inN 3 bt ln wt = ln * bt by simp [inN]]
    refine go_Ca ?_
    exact se_ret1 () trivial rfl rfl (by exact sub_)
  by_cases h4 : kd = 4
  · subst h4
    rw [show inN 4 bt ln wt = ln by simp [inN]]
    refine go_Ca ?_
    exact se_ret1 () trivial rfl rfl (by exact sub_)
  by_cases h5 : kd = 5
  · subst h5
    have hbl := bl_le hw.1 hw.2
    rw [show inN 5 bt ln wt = ln + Lib.bitLen (max wt 0).toNat by rw [hbl.2]; simp [inN]]
    refine go_Ca ?_
    refine sd_drawn (fun W => AllP W [blk g1 35 (cCells 5 fl bt ln wt ch)]) (fun _ => true) (by kernel_rfl) 6 rfl ?_
    refine sd_yes2 0 rfl (by exact gd_) (by kernel_rfl) (by kernel_rfl) (by exact nop_) (PuI.all (by exact pv_Ca)) rfl (fun w hw => all_ hw) ?_
    refine sd_yes2 1 rfl (by exact gd_) (by kernel_rfl) (by kernel_rfl) (by exact nop_) (PuI.all (by exact pv_Ca)) rfl (fun w hw => all_ hw) ?_
    refine sd_yes2 2 rfl (by exact gd_) (by kernel_rfl) (by kernel_rfl) (by exact nop_) (PuI.all (by exact pv_Ca)) rfl (fun w hw => all_ hw) ?_
    refine sd_one 3 (by kernel_rfl) (sa_sl 3 rfl ?_)
    refine sl_call rfl rfl (by kernel_rfl) rfl (by exact sub_) (wbits_ok 5 fl bt ln wt ch (by omega)) ?_
    rintro _ -
    refine sl_nil ?_
    refine se_sd (fun _ w hw => all_ hw) ?_
    refine sd_yes2 4 rfl (by exact gd_) (by kernel_rfl) (by kernel_rfl) (by exact nop_) (PuI.all (by exact pv_Ca)) rfl (fun w hw => all_ hw) ?_
    refine sd_yes2 5 rfl (by exact gd_) (by kernel_rfl) (by kernel_rfl) (by exact nop_) (PuI.all (by exact pv_Ca)) rfl (fun w hw => all_ hw) ?_
    refine sd_done (by kernel_rfl) ?_
    refine go_Ca ?_
    exact se_ret1 () trivial rfl rfl (by exact sub_)
  · rw [show inN kd bt ln wt = 0 by simp [inN, h1, h2, h3, h4, h5]]
    refine go_Ca ?_
    exact se_ret1 () trivial rfl rfl (by exact sub_)
theorem inN_le {kd bt ln wt : Int} (hb : 0 ≤ bt ∧ bt ≤ 32) (hl : 0 ≤ ln ∧ ln ≤ 64) (hw : 0 ≤ wt ∧ wt ≤ 64) : 0 ≤ inN kd bt ln wt ∧ inN kd bt ln wt ≤ 2048 := by
  have hm := mul_le hl.1 hl.2 hb.1 hb.2
  have hbl := bl_le hw.1 hw.2
  rw [hbl.2] at hbl
  unfold inN
  split
  · omega
  split
  · omega
  split
  · omega
  split
  · omega
  split
  · omega
  · omega
/-- How often the gadget is called. -/
def callsN (kd bt ln wt ch : Int) : Int := if kd = 1 then 1 else if kd = 2 then bt else if kd = 3 ∨ kd = 4 ∨ kd = 5 then (if 0 < ch then (inN kd bt ln wt + ch - 1) / ch else 0) else 0
theorem quo_le {p q : Int} (h : 0 ≤ p) (hq : 0 < q) : 0 ≤ p / q ∧ p / q ≤ p := ⟨Int.ediv_nonneg h (by omega), Int.ediv_le_self _ h⟩
set_option maxRecDepth 100000 in
set_option maxHeartbeats 2000000 in
theorem calls_ok {K : List Fa} {kd fl bt ln wt ch : Int} (hb : 0 ≤ bt ∧ bt ≤ 32) (hl : 0 ≤ ln ∧ ln ≤ 64) (hw : 0 ≤ wt ∧ wt ≤ 64) (hc : ch ≤ 16) :
    Fn Try.prog 37 #[.agg (cCells kd fl bt ln wt ch).toArray] K (Ret (fun _ : Unit => True) (fun _ => .int .i64 (callsN kd bt ln wt ch)) (fun _ => K)) := by
  refine fn_enter Try.func37 rfl _ Try.ntmps37 (by simp) [(0, .agg (cCells kd fl bt ln wt ch).toArray)] (args_of (by simp)) ?_
  have hin := inN_le (kd := kd) hb hl hw
  refine go_Ca ?_
  refine sl_box rfl rfl rfl ?_; intro g1
  by_cases h1 : kd = 1
  · subst h1
    refine go_Ca ?_
    exact se_ret1 () trivial rfl rfl (by exact sub_)
  by_cases h2 : kd = 2
  · subst h2
    rw [show callsN 2 bt ln wt ch = bt by simp [callsN]]
    refine go_Ca ?_
    exact se_ret1 () trivial rfl rfl (by exact sub_)
  by_cases h0 : 0 < ch
  · have hq := quo_le (p := inN kd bt ln wt + ch - 1) (q := ch) (by omega) h0
    by_cases h3 : kd = 3
    · subst h3
      rw [show callsN 3 bt ln wt ch = (inN 3 bt ln wt + ch - 1) / ch by simp [callsN, h0]]
      generalize hi : inN 3 bt ln wt = m at hin hq ⊢
      refine go_Ca ?_
      refine sd_drawn (fun W => AllP W [blk g1 35 (cCells 3 fl bt ln wt ch)]) (fun _ => true) (by kernel_rfl) 10 rfl ?_
      refine sd_yes2 0 rfl (by exact gd_) (by kernel_rfl) (by kernel_rfl) (by exact nop_) (PuI.all (by exact pv_Ca)) rfl (fun w hw => all_ hw) ?_
      refine sd_yes2 2 rfl (by exact gd_) (by kernel_rfl) (by kernel_rfl) (by exact nop_) (PuI.all (by exact pv_Ca)) rfl (fun w hw => all_ hw) ?_
      refine sd_yes2 3 rfl (by exact gd_) (by kernel_rfl) (by kernel_rfl) (by exact nop_) (PuI.all (by exact pv_Ca)) rfl (fun w hw => all_ hw) ?_
      refine sd_yes2 6 rfl (by exact gd_) (by kernel_rfl) (by kernel_rfl) (by exact nop_) (PuI.all (by exact pv_Ca)) rfl (fun w hw => all_ hw) ?_
      refine sd_yes2 7 rfl (by exact gd_) (by kernel_rfl) (by kernel_rfl) (by exact nop_) (PuI.all (by exact pv_Ca)) rfl (fun w hw => all_ hw) ?_
      refine sd_one 1 (by kernel_rfl) (sa_sl 1 rfl ?_)
      refine sl_call rfl rfl (by kernel_rfl) rfl (by exact sub_) (in_ok hb hl hw) ?_
      rintro _ -
      rw [hi]
      refine sl_nil ?_
      refine se_sd (fun _ w hw => all_ hw) ?_
      refine sd_yes2 4 rfl (by exact gd_) (by kernel_rfl) (by kernel_rfl) (by exact nop_) (PuI.all (by exact pv_Ca)) rfl (fun w hw => all_ hw) ?_
      refine sd_yes2 5 rfl (by exact gd_) (by kernel_rfl) (by kernel_rfl) (by exact nop_) (PuI.all (by exact pv_Ca)) rfl (fun w hw => all_ hw) ?_
      refine sd_yes2 8 rfl (by exact gd_) (by kernel_rfl) (by kernel_rfl) (by exact nop_) (PuI.all (by exact pv_Ca)) rfl (fun w hw => all_ hw) ?_
      refine sd_yes2 9 rfl (by exact gd_) (by kernel_rfl) (by kernel_rfl) (by exact nop_) (PuI.all (by exact pv_Ca)) rfl (fun w hw => all_ hw) ?_
      refine sd_done (by kernel_rfl) ?_
      refine go_Ca ?_
      exact se_ret1 () trivial rfl rfl (by exact sub_)
    by_cases h4 : kd = 4
    · subst h4
      rw [show callsN 4 bt ln wt ch = (inN 4 bt ln wt + ch - 1) / ch by simp [callsN, h0]]
      generalize hi : inN 4 bt ln wt = m at hin hq ⊢
      refine go_Ca ?_
      refine sd_drawn (fun W => AllP W [blk g1 35 (cCells 4 fl bt ln wt ch)]) (fun _ => true) (by kernel_rfl) 10 rfl ?_
      refine sd_yes2 0 rfl (by exact gd_) (by kernel_rfl) (by kernel_rfl) (by exact nop_) (PuI.all (by exact pv_Ca)) rfl (fun w hw => all_ hw) ?_
      refine sd_yes2 2 rfl (by exact gd_) (by kernel_rfl) (by kernel_rfl) (by exact nop_) (PuI.all (by exact pv_Ca)) rfl (fun w hw => all_ hw) ?_
      refine sd_yes2 3 rfl (by exact gd_) (by kernel_rfl) (by kernel_rfl) (by exact nop_) (PuI.all (by exact pv_Ca)) rfl (fun w hw => all_ hw) ?_
      refine sd_yes2 6 rfl (by exact gd_) (by kernel_rfl) (by kernel_rfl) (by exact nop_) (PuI.all (by exact pv_Ca)) rfl (fun w hw => all_ hw) ?_
      refine sd_yes2 7 rfl (by exact gd_) (by kernel_rfl) (by kernel_rfl) (by exact nop_) (PuI.all (by exact pv_Ca)) rfl (fun w hw => all_ hw) ?_
      refine sd_one 1 (by kernel_rfl) (sa_sl 1 rfl ?_)
      refine sl_call rfl rfl (by kernel_rfl) rfl (by exact sub_) (in_ok hb hl hw) ?_
      rintro _ -
      rw [hi]
      refine sl_nil ?_
      refine se_sd (fun _ w hw => all_ hw) ?_
      refine sd_yes2 4 rfl (by exact gd_) (by kernel_rfl) (by kernel_rfl) (by exact nop_) (PuI.all (by exact pv_Ca)) rfl (fun w hw => all_ hw) ?_
      refine sd_yes2 5 rfl (by exact gd_) (by kernel_rfl) (by kernel_rfl) (by exact nop_) (PuI.all (by exact pv_Ca)) rfl (fun w hw => all_ hw) ?_
      refine sd_yes2 8 rfl (by exact gd_) (by kernel_rfl) (by kernel_rfl) (by exact nop_) (PuI.all (by exact pv_Ca)) rfl (fun w hw => all_ hw) ?_
      refine sd_yes2 9 rfl (by exact gd_) (by kernel_rfl) (by kernel_rfl) (by exact nop_) (PuI.all (by exact pv_Ca)) rfl (fun w hw => all_ hw) ?_
      refine sd_done (by kernel_rfl) ?_
      refine go_Ca ?_
      exact se_ret1 () trivial rfl rfl (by exact sub_)
    by_cases h5 : kd = 5
    · subst h5
      rw [show callsN 5 bt ln wt ch = (inN 5 bt ln wt + ch - 1) / ch by simp [callsN, h0]]
      generalize hi : inN 5 bt ln wt = m at hin hq ⊢
      refine go_Ca ?_
      refine sd_drawn (fun W => AllP W [blk g1 35 (cCells 5 fl bt ln wt ch)]) (fun _ => true) (by kernel_rfl) 10 rfl ?_
      refine sd_yes2 0 rfl (by exact gd_) (by kernel_rfl) (by kernel_rfl) (by exact nop_) (PuI.all (by exact pv_Ca)) rfl (fun w hw => all_ hw) ?_
      refine sd_yes2 2 rfl (by exact gd_) (by kernel_rfl) (by kernel_rfl) (by exact nop_) (PuI.all (by exact pv_Ca)) rfl (fun w hw => all_ hw) ?_
      refine sd_yes2 3 rfl (by exact gd_) (by kernel_rfl) (by kernel_rfl) (by exact nop_) (PuI.all (by exact pv_Ca)) rfl (fun w hw => all_ hw) ?_
      refine sd_yes2 6 rfl (by exact gd_) (by kernel_rfl) (by kernel_rfl) (by exact nop_) (PuI.all (by exact pv_Ca)) rfl (fun w hw => all_ hw) ?_
      refine sd_yes2 7 rfl (by exact gd_) (by kernel_rfl) (by kernel_rfl) (by exact nop_) (PuI.all (by exact pv_Ca)) rfl (fun w hw => all_ hw) ?_
      refine sd_one 1 (by kernel_rfl) (sa_sl 1 rfl ?_)
      refine sl_call rfl rfl (by kernel_rfl) rfl (by exact sub_) (in_ok hb hl hw) ?_
      rintro _ -
      rw [hi]
      refine sl_nil ?_
      refine se_sd (fun _ w hw => all_ hw) ?_
      refine sd_yes2 4 rfl (by exact gd_) (by kernel_rfl) (by kernel_rfl) (by exact nop_) (PuI.all (by exact pv_Ca)) rfl (fun w hw => all_ hw) ?_
      refine sd_yes2 5 rfl (by exact gd_) (by kernel_rfl) (by kernel_rfl) (by exact nop_) (PuI.all (by exact pv_Ca)) rfl (fun w hw => all_ hw) ?_
      refine sd_yes2 8 rfl (by exact gd_) (by kernel_rfl) (by kernel_rfl) (by exact nop_) (PuI.all (by exact pv_Ca)) rfl (fun w hw => all_ hw) ?_
      refine sd_yes2 9 rfl (by exact gd_) (by kernel_rfl) (by kernel_rfl) (by exact nop_) (PuI.all (by exact pv_Ca)) rfl (fun w hw => all_ hw) ?_
      refine sd_done (by kernel_rfl) ?_
      refine go_Ca ?_
      exact se_ret1 () trivial rfl rfl (by exact sub_)
    · rw [show callsN kd bt ln wt ch = 0 by simp [callsN, h1, h2, h3, h4, h5]]
      refine go_Ca ?_
      exact se_ret1 () trivial rfl rfl (by exact sub_)
  · have e : callsN kd bt ln wt ch = 0 := by simp [callsN, h1, h2, h0]
    rw [e]
    by_cases h3 : kd = 3
    · subst h3
      refine go_Ca ?_
      exact se_ret1 () trivial rfl rfl (by exact sub_)
    by_cases h4 : kd = 4
    · subst h4
      refine go_Ca ?_
      exact se_ret1 () trivial rfl rfl (by exact sub_)
    by_cases h5 : kd = 5
    · subst h5
      refine go_Ca ?_
      exact se_ret1 () trivial rfl rfl (by exact sub_)
    · refine go_Ca ?_
      exact se_ret1 () trivial rfl rfl (by exact sub_)
end Go.Proofs.Ytdmeofobljjpfaa
