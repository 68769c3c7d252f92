/- Several texts of one claim, one behind the other (Ca, Cb, Cc, Gf, Sk, Jp, Pd, Str, App). -/
import Derived.Test.YtocaabnbmcpjmaaGreatDoorB08
import Derived.Test.YtocaabnbmcpjmaaGreatDoorB05
import Derived.Test.YtocaabnbmcpjmaaGreatDoorB07
import Derived.Test.YtocaabnbmcpjmaaGreatDoorB06
import Derived.Test.YtocaabnbmcpjmaaGreatDoorB01
import Derived.Test.YtocaabnbmcpjmaaGreatDoorB04
import Derived.Lib.Bytes
import Derived.Deep.AppendSrc
set_option linter.unusedVariables false
set_option linter.unusedSimpArgs false
/- Circuits and tasks: whether they may be. -/
namespace Go.Proofs.YtocaabnbmcpjmaaGreatDoor
open Go.RowKit
attribute [local irreducible] Go.Calls Go.Exit.then Go.Exit.inBlock Go.bodyPost Go.Code.wp Go.wpList
/-- A circuit. -/
structure Ci where
  kd : Int
  fl : Int
  bt : Int
  ln : Int
  wt : Int
  ch : Int
  hk : 0 ≤ kd ∧ kd ≤ 255
  hf : 0 ≤ fl ∧ fl ≤ 255
  hb : -9223372036854775808 ≤ bt ∧ bt ≤ 9223372036854775807
  hl : -9223372036854775808 ≤ ln ∧ ln ≤ 9223372036854775807
  hw : -9223372036854775808 ≤ wt ∧ wt ≤ 9223372036854775807
  hc : -9223372036854775808 ≤ ch ∧ ch ≤ 9223372036854775807
def cCells (kd fl bt ln wt ch : Int) : List Value := [.int .u8 kd, .int .u8 fl, .int .i64 bt, .int .i64 ln, .int .i64 wt, .int .i64 ch]
def Ci.cells (c : Ci) : List Value := [.int .u8 c.kd, .int .u8 c.fl, .int .i64 c.bt, .int .i64 c.ln, .int .i64 c.wt, .int .i64 c.ch]
def Ci.v (c : Ci) : Value := .agg c.cells.toArray
theorem nth_Ca {φ : Prop} (h : φ := by (first | rfl | rfl)) : φ := h
theorem mid_Ca {φ : Prop} (h : φ := by (first | exact Mid.all | exact Mid.all | exact Mid.head)) : φ := h
theorem sz_Ca {φ : Prop} (h : φ := by (first | rfl | (rfl; first | done | fail))) : φ := h
theorem one_Ca {φ : Prop} (h : φ := by (first | assumption | exact one_bytes _ | (simp only [List.mem_cons, List.not_mem_nil, or_false, forall_eq_or_imp, forall_eq]; decide) | exact one_bytes _ | (intro v hv; (repeat (rcases List.mem_cons.1 hv with rfl | hv; rfl)); cases hv))) : φ := h
theorem set_Ca {φ : Prop} (h : φ := by (first | (fail) | ((repeat (first | exact SetAt.here | apply SetAt.there)); first | done | fail))) : φ := h
theorem cl_Ca {φ : Prop} (h : φ := by first | rfl | exact .t | exact .f | exact .t (by omega) | exact .f (by omega) | exact .u | exact .i (by (first | exact .t (by omega) | exact .f (by omega) | exact .u | exact .i (by omega) | exact .v (by omega) | exact .b (by omega) | exact .w | rfl | omega)) | exact .v (by omega) | exact .b (by omega) | exact .q (by omega) | exact .w | exact .b (by exact at_) rfl (by exact nth_Ca) | exact .w (by exact at_) rfl rfl (by exact sz_Ca) | exact .s (by exact at_) (by exact mid_Ca) rfl rfl (by exact sz_Ca) | exact .z rfl rfl ⟨by kernel_rfl⟩ | exact .b rfl rfl ⟨by kernel_rfl⟩ | exact .a rfl rfl ⟨by kernel_rfl⟩ | exact .o rfl | exact .s | exact .n | exact .p rfl | exact .q rfl | exact .c rfl | exact .d rfl | exact .n rfl rfl (by omega) | exact .a rfl rfl (by omega) | exact .p rfl rfl (by omega) (by omega) | exact .y rfl rfl (by omega) (by omega) | exact .o (by exact at_) (by omega) rfl (by exact nth_Ca) | exact .m (by exact at_) (by omega) (by exact mid_Ca) rfl rfl (by exact sz_Ca) | exact .mlen (by exact at_) rfl | exact .t (by exact at_) rfl rfl (by first | exact True.intro | rfl) (by assumption) | exact .f (by exact at_) rfl rfl (by first | exact True.intro | rfl) (by assumption) rfl | exact .t1 (by exact at_) rfl rfl (by first | exact True.intro | rfl) (by assumption) | exact .f1 (by exact at_) rfl rfl (by first | exact True.intro | rfl) (by assumption) rfl | exact .tk (by exact at_) rfl (by assumption) (by assumption) | exact .fk (by exact at_) rfl (by assumption) (by assumption) rfl | exact .tk1 (by exact at_) rfl (by assumption) (by assumption) | exact .fk1 (by exact at_) rfl (by assumption) (by assumption) rfl | exact .r rfl rfl (by omega) (by omega) (by exact nth_Ca) rfl | exact .s rfl (by omega) (by assumption) | exact at_ | assumption | exact .r rfl rfl | exact .h rfl rfl rfl (by omega) | exact .l rfl rfl rfl (by omega) (by omega) | exact .g rfl rfl rfl rfl (by omega) (by omega) | exact .h rfl rfl (toN_ (by omega)) (by omega) | exact .l rfl rfl (toN_ (by omega)) (by omega) (by omega) | exact .g rfl rfl (toN_ (by omega)) (toN_ (by omega)) (by omega) (by omega) | exact .o (by decide) | exact .f (by decide) | exact .n (by omega) (by first | decide | (show _ ≤ ((64 : Nat) : Int); omega)) | (constructor; (repeat (first | exact .t (by omega) | exact .f (by omega) | exact .u | exact .i (by omega) | exact .v (by omega) | exact .b (by omega) | exact .w | rfl | omega)); first | done | fail) | omega | (show _ ≤ ((64 : Nat) : Int); omega)) : φ := h
theorem pv_Ca {φ : Prop} (h : φ := by constructor; (repeat exact cl_Ca); first | done | fail) : φ := h
theorem su_Ca {φ ψ : Prop} (k : ψ) (h : Hide ψ → φ := by (intro k; (first | refine sl_pu (PuI.sep (by exact pv_Ca)) rfl ?_ | refine sl_yes rfl rfl ?_ | refine sl_no rfl rfl rfl ?_ | refine sl_off rfl rfl rfl ?_ | (fail)); exact k.out)) : φ := h ⟨k⟩
theorem sto_Ca {φ ψ : Prop} (k : ψ) (h : Hide ψ → φ := by (intro k; (first | refine sl_store rfl (by exact pick_) rfl rfl (by kernel_rfl) (by exact set_Ca) ?_ | refine sl_store_whole rfl (by exact pick_) rfl (by exact sz_Ca) (by exact sz_Ca) (by exact one_Ca) ?_); exact k.out)) : φ := h ⟨k⟩
theorem go_Ca {φ ψ : Prop} (k : ψ) (h : Hide ψ → φ := by (intro k; (repeat (first | refine su_Ca ?_ | refine so_ ?_ | refine sto_Ca ?_)); exact k.out)) : φ := h ⟨k⟩
set_option maxRecDepth 100000 in
theorem valid_ok {K : List Fa} (f : Int) : Fn Tryz.prog 35 #[.int .u8 f] K (Ret (fun _ : Unit => True) (fun _ => .bool (decide (f = 1 ∨ f = 2))) (fun _ => K)) := by
  refine fn_enter Tryz.func35 rfl _ Tryz.ntmps35 (by simp) [(0, .int .u8 f)] (args_of (by simp)) ?_
  by_cases h1 : f = 1
  · subst h1
    refine go_Ca ?_
    exact se_ret1 () trivial rfl rfl (by exact sub_)
  · by_cases h2 : f = 2
    · subst h2
      refine go_Ca ?_
      exact se_ret1 () trivial rfl rfl (by exact sub_)
    · have e : decide (f = 1 ∨ f = 2) = false := by simp [h1, h2]
      rw [e]
      refine go_Ca ?_
      exact se_ret1 () trivial rfl rfl (by exact sub_)
def wi (n m : Int) (u : Bool) : Bool := if u then decide (1 ≤ n ∧ n ≤ m) else decide (n = 0)
set_option maxRecDepth 100000 in
theorem cwithin_ok {K : List Fa} (n m : Int) (u : Bool) : Fn Tryz.prog 36 #[.int .i64 n, .int .i64 m, .bool u] K (Ret (fun _ : Unit => True) (fun _ => .bool (wi n m u)) (fun _ => K)) := by
  refine fn_enter Tryz.func36 rfl _ Tryz.ntmps36 (by simp) [(0, .int .i64 n), (1, .int .i64 m), (2, .bool u)] (args_of (by simp)) ?_
  cases u with
  | false =>
    rw [show wi n m false = decide (n = 0) from rfl]
    refine go_Ca ?_
    exact se_ret1 () trivial rfl rfl (by exact sub_)
  | true =>
    by_cases h1 : 1 ≤ n
    · rw [show wi n m true = decide (n ≤ m) by simp [wi, h1]]
      refine go_Ca ?_
      exact se_ret1 () trivial rfl rfl (by exact sub_)
    · rw [show wi n m true = false by simp [wi, h1]]
      refine go_Ca ?_
      exact se_ret1 () trivial rfl rfl (by exact sub_)
set_option maxRecDepth 100000 in
theorem wbits_ok {K : List Fa} (kd fl bt ln wt ch : Int) (h : wt ≤ 9223372036854775807) : Fn Tryz.prog 99 #[.agg (cCells kd fl bt ln wt ch).toArray] K (Ret (fun _ : Unit => True) (fun _ => .int .i64 (Lib.bitLen (max wt 0).toNat)) (fun _ => K)) := by
  refine fn_enter Tryz.func99 rfl _ Tryz.ntmps99 (by simp) [(0, .agg (cCells kd fl bt ln wt ch).toArray)] (args_of (by simp)) ?_
  refine go_Ca ?_
  refine sl_box rfl rfl rfl ?_; intro g1
  refine go_Ca ?_
  refine sl_call rfl rfl (by kernel_rfl) rfl Sub.refl (fn_eq (len_c _ (by omega) (by omega))) ?_
  rintro _ -
  rw [show (if wt < 0 then 0 else wt) = max wt 0 by omega]
  refine go_Ca ?_
  exact se_ret1 () trivial rfl rfl (by exact sub_)
/-- How many elements a vector has. -/
def inN (kd bt ln wt : Int) : Int := if kd = 1 then 1 else if kd = 2 then bt else if kd = 3 then ln * bt else if kd = 4 then ln else if kd = 5 then ln + Lib.bitLen wt.toNat else 0
theorem bl_le {wt : Int} (h0 : 0 ≤ wt) (h1 : wt ≤ 64) : (Lib.bitLen (max wt 0).toNat : Int) ≤ 8 ∧ max wt 0 = wt := by
  have h := Lib.bitLen_le8 ⟨(max wt 0).toNat, by omega⟩
  have h' : Lib.bitLen (max wt 0).toNat ≤ 8 := h
  exact ⟨by omega, by omega⟩
theorem mul_le {a b m n : Int} (h0 : 0 ≤ a) (h1 : a ≤ m) (h2 : 0 ≤ b) (h3 : b ≤ n) : 0 ≤ a * b ∧ a * b ≤ m * n :=
  ⟨Int.mul_nonneg h0 h2, Int.mul_le_mul h1 h3 h2 (by omega)⟩
set_option maxRecDepth 100000 in
set_option maxHeartbeats 2000000 in
theorem in_ok {K : List Fa} {kd fl bt ln wt ch : Int} (hb : 0 ≤ bt ∧ bt ≤ 32) (hl : 0 ≤ ln ∧ ln ≤ 64) (hw : 0 ≤ wt ∧ wt ≤ 64) :
    Fn Tryz.prog 72 #[.agg (cCells kd fl bt ln wt ch).toArray] K (Ret (fun _ : Unit => True) (fun _ => .int .i64 (inN kd bt ln wt)) (fun _ => K)) := by
  refine fn_enter Tryz.func72 rfl _ Tryz.ntmps72 (by simp) [(0, .agg (cCells kd fl bt ln wt ch).toArray)] (args_of (by simp)) ?_
  refine go_Ca ?_
  refine sl_box rfl rfl rfl ?_; intro g1
  by_cases h1 : kd = 1
  · subst h1
    refine go_Ca ?_
    exact se_ret1 () trivial rfl rfl (by exact sub_)
  by_cases h2 : kd = 2
  · subst h2
    rw [show inN 2 bt ln wt = bt by simp [inN]]
    refine go_Ca ?_
    exact se_ret1 () trivial rfl rfl (by exact sub_)
  by_cases h3 : kd = 3
  · subst h3
    have hm := mul_le hl.1 hl.2 hb.1 hb.2
    rw [show inN 3 bt ln wt = ln * bt by simp [inN]]
    refine go_Ca ?_
    exact se_ret1 () trivial rfl rfl (by exact sub_)
  by_cases h4 : kd = 4
  · subst h4
    rw [show inN 4 bt ln wt = ln by simp [inN]]
    refine go_Ca ?_
    exact se_ret1 () trivial rfl rfl (by exact sub_)
  by_cases h5 : kd = 5
  · subst h5
    have hbl := bl_le hw.1 hw.2
    rw [show inN 5 bt ln wt = ln + Lib.bitLen (max wt 0).toNat by rw [hbl.2]; simp [inN]]
    refine go_Ca ?_
    refine sd_drawn (fun W => AllP W [blk g1 25 (cCells 5 fl bt ln wt ch)]) (fun _ => true) (by kernel_rfl) 6 rfl ?_
    refine sd_yes2 0 rfl (by exact gd_) (by kernel_rfl) (by kernel_rfl) (by exact nop_) (PuI.all (by exact pv_Ca)) rfl (fun w hw => all_ hw) ?_
    refine sd_yes2 1 rfl (by exact gd_) (by kernel_rfl) (by kernel_rfl) (by exact nop_) (PuI.all (by exact pv_Ca)) rfl (fun w hw => all_ hw) ?_
    refine sd_yes2 2 rfl (by exact gd_) (by kernel_rfl) (by kernel_rfl) (by exact nop_) (PuI.all (by exact pv_Ca)) rfl (fun w hw => all_ hw) ?_
    refine sd_one 3 (by kernel_rfl) (sa_sl 3 rfl ?_)
    refine sl_call rfl rfl (by kernel_rfl) rfl (by exact sub_) (wbits_ok 5 fl bt ln wt ch (by omega)) ?_
    rintro _ -
    refine sl_nil ?_
    refine se_sd (fun _ w hw => all_ hw) ?_
    refine sd_yes2 4 rfl (by exact gd_) (by kernel_rfl) (by kernel_rfl) (by exact nop_) (PuI.all (by exact pv_Ca)) rfl (fun w hw => all_ hw) ?_
    refine sd_yes2 5 rfl (by exact gd_) (by kernel_rfl) (by kernel_rfl) (by exact nop_) (PuI.all (by exact pv_Ca)) rfl (fun w hw => all_ hw) ?_
    refine sd_done (by kernel_rfl) ?_
    refine go_Ca ?_
    exact se_ret1 () trivial rfl rfl (by exact sub_)
  · rw [show inN kd bt ln wt = 0 by simp [inN, h1, h2, h3, h4, h5]]
    refine go_Ca ?_
    exact se_ret1 () trivial rfl rfl (by exact sub_)
theorem inN_le {kd bt ln wt : Int} (hb : 0 ≤ bt ∧ bt ≤ 32) (hl : 0 ≤ ln ∧ ln ≤ 64) (hw : 0 ≤ wt ∧ wt ≤ 64) : 0 ≤ inN kd bt ln wt ∧ inN kd bt ln wt ≤ 2048 := by
  have hm := mul_le hl.1 hl.2 hb.1 hb.2
  have hbl := bl_le hw.1 hw.2
  rw [hbl.2] at hbl
  unfold inN
  split
  · omega
  split
  · omega
  split
  · omega
  split
  · omega
  split
  · omega
  · omega
/-- How often the gadget is called. -/
def callsN (kd bt ln wt ch : Int) : Int := if kd = 1 then 1 else if kd = 2 then bt else if kd = 3 ∨ kd = 4 ∨ kd = 5 then (if 0 < ch then (inN kd bt ln wt + ch - 1) / ch else 0) else 0
theorem quo_le {p q : Int} (h : 0 ≤ p) (hq : 0 < q) : 0 ≤ p / q ∧ p / q ≤ p := ⟨Int.ediv_nonneg h (by omega), Int.ediv_le_self _ h⟩
set_option maxRecDepth 100000 in
set_option maxHeartbeats 2000000 in
theorem calls_ok {K : List Fa} {kd fl bt ln wt ch : Int} (hb : 0 ≤ bt ∧ bt ≤ 32) (hl : 0 ≤ ln ∧ ln ≤ 64) (hw : 0 ≤ wt ∧ wt ≤ 64) (hc : ch ≤ 16) :
    Fn Tryz.prog 37 #[.agg (cCells kd fl bt ln wt ch).toArray] K (Ret (fun _ : Unit => True) (fun _ => .int .i64 (callsN kd bt ln wt ch)) (fun _ => K)) := by
  refine fn_enter Tryz.func37 rfl _ Tryz.ntmps37 (by simp) [(0, .agg (cCells kd fl bt ln wt ch).toArray)] (args_of (by simp)) ?_
  have hin := inN_le (kd := kd) hb hl hw
  refine go_Ca ?_
  refine sl_box rfl rfl rfl ?_; intro g1
  by_cases h1 : kd = 1
  · subst h1
    refine go_Ca ?_
    exact se_ret1 () trivial rfl rfl (by exact sub_)
  by_cases h2 : kd = 2
  · subst h2
    rw [show callsN 2 bt ln wt ch = bt by simp [callsN]]
    refine go_Ca ?_
    exact se_ret1 () trivial rfl rfl (by exact sub_)
  by_cases h0 : 0 < ch
  · have hq := quo_le (p := inN kd bt ln wt + ch - 1) (q := ch) (by omega) h0
    by_cases h3 : kd = 3
    · subst h3
      rw [show callsN 3 bt ln wt ch = (inN 3 bt ln wt + ch - 1) / ch by simp [callsN, h0]]
      generalize hi : inN 3 bt ln wt = m at hin hq ⊢
      refine go_Ca ?_
      refine sd_drawn (fun W => AllP W [blk g1 25 (cCells 3 fl bt ln wt ch)]) (fun _ => true) (by kernel_rfl) 10 rfl ?_
      refine sd_yes2 0 rfl (by exact gd_) (by kernel_rfl) (by kernel_rfl) (by exact nop_) (PuI.all (by exact pv_Ca)) rfl (fun w hw => all_ hw) ?_
      refine sd_yes2 2 rfl (by exact gd_) (by kernel_rfl) (by kernel_rfl) (by exact nop_) (PuI.all (by exact pv_Ca)) rfl (fun w hw => all_ hw) ?_
      refine sd_yes2 3 rfl (by exact gd_) (by kernel_rfl) (by kernel_rfl) (by exact nop_) (PuI.all (by exact pv_Ca)) rfl (fun w hw => all_ hw) ?_
      refine sd_yes2 6 rfl (by exact gd_) (by kernel_rfl) (by kernel_rfl) (by exact nop_) (PuI.all (by exact pv_Ca)) rfl (fun w hw => all_ hw) ?_
      refine sd_yes2 7 rfl (by exact gd_) (by kernel_rfl) (by kernel_rfl) (by exact nop_) (PuI.all (by exact pv_Ca)) rfl (fun w hw => all_ hw) ?_
      refine sd_one 1 (by kernel_rfl) (sa_sl 1 rfl ?_)
      refine sl_call rfl rfl (by kernel_rfl) rfl (by exact sub_) (in_ok hb hl hw) ?_
      rintro _ -
      rw [hi]
      refine sl_nil ?_
      refine se_sd (fun _ w hw => all_ hw) ?_
      refine sd_yes2 4 rfl (by exact gd_) (by kernel_rfl) (by kernel_rfl) (by exact nop_) (PuI.all (by exact pv_Ca)) rfl (fun w hw => all_ hw) ?_
      refine sd_yes2 5 rfl (by exact gd_) (by kernel_rfl) (by kernel_rfl) (by exact nop_) (PuI.all (by exact pv_Ca)) rfl (fun w hw => all_ hw) ?_
      refine sd_yes2 8 rfl (by exact gd_) (by kernel_rfl) (by kernel_rfl) (by exact nop_) (PuI.all (by exact pv_Ca)) rfl (fun w hw => all_ hw) ?_
      refine sd_yes2 9 rfl (by exact gd_) (by kernel_rfl) (by kernel_rfl) (by exact nop_) (PuI.all (by exact pv_Ca)) rfl (fun w hw => all_ hw) ?_
      refine sd_done (by kernel_rfl) ?_
      refine go_Ca ?_
      exact se_ret1 () trivial rfl rfl (by exact sub_)
    by_cases h4 : kd = 4
    · subst h4
      rw [show callsN 4 bt ln wt ch = (inN 4 bt ln wt + ch - 1) / ch by simp [callsN, h0]]
      generalize hi : inN 4 bt ln wt = m at hin hq ⊢
      refine go_Ca ?_
      refine sd_drawn (fun W => AllP W [blk g1 25 (cCells 4 fl bt ln wt ch)]) (fun _ => true) (by kernel_rfl) 10 rfl ?_
      refine sd_yes2 0 rfl (by exact gd_) (by kernel_rfl) (by kernel_rfl) (by exact nop_) (PuI.all (by exact pv_Ca)) rfl (fun w hw => all_ hw) ?_
      refine sd_yes2 2 rfl (by exact gd_) (by kernel_rfl) (by kernel_rfl) (by exact nop_) (PuI.all (by exact pv_Ca)) rfl (fun w hw => all_ hw) ?_
      refine sd_yes2 3 rfl (by exact gd_) (by kernel_rfl) (by kernel_rfl) (by exact nop_) (PuI.all (by exact pv_Ca)) rfl (fun w hw => all_ hw) ?_
      refine sd_yes2 6 rfl (by exact gd_) (by kernel_rfl) (by kernel_rfl) (by exact nop_) (PuI.all (by exact pv_Ca)) rfl (fun w hw => all_ hw) ?_
      refine sd_yes2 7 rfl (by exact gd_) (by kernel_rfl) (by kernel_rfl) (by exact nop_) (PuI.all (by exact pv_Ca)) rfl (fun w hw => all_ hw) ?_
      refine sd_one 1 (by kernel_rfl) (sa_sl 1 rfl ?_)
      refine sl_call rfl rfl (by kernel_rfl) rfl (by exact sub_) (in_ok hb hl hw) ?_
      rintro _ -
      rw [hi]
      refine sl_nil ?_
      refine se_sd (fun _ w hw => all_ hw) ?_
      refine sd_yes2 4 rfl (by exact gd_) (by kernel_rfl) (by kernel_rfl) (by exact nop_) (PuI.all (by exact pv_Ca)) rfl (fun w hw => all_ hw) ?_
      refine sd_yes2 5 rfl (by exact gd_) (by kernel_rfl) (by kernel_rfl) (by exact nop_) (PuI.all (by exact pv_Ca)) rfl (fun w hw => all_ hw) ?_
      refine sd_yes2 8 rfl (by exact gd_) (by kernel_rfl) (by kernel_rfl) (by exact nop_) (PuI.all (by exact pv_Ca)) rfl (fun w hw => all_ hw) ?_
      refine sd_yes2 9 rfl (by exact gd_) (by kernel_rfl) (by kernel_rfl) (by exact nop_) (PuI.all (by exact pv_Ca)) rfl (fun w hw => all_ hw) ?_
      refine sd_done (by kernel_rfl) ?_
      refine go_Ca ?_
      exact se_ret1 () trivial rfl rfl (by exact sub_)
    by_cases h5 : kd = 5
    · subst h5
      rw [show callsN 5 bt ln wt ch = (inN 5 bt ln wt + ch - 1) / ch by simp [callsN, h0]]
      generalize hi : inN 5 bt ln wt = m at hin hq ⊢
      refine go_Ca ?_
      refine sd_drawn (fun W => AllP W [blk g1 25 (cCells 5 fl bt ln wt ch)]) (fun _ => true) (by kernel_rfl) 10 rfl ?_
      refine sd_yes2 0 rfl (by exact gd_) (by kernel_rfl) (by kernel_rfl) (by exact nop_) (PuI.all (by exact pv_Ca)) rfl (fun w hw => all_ hw) ?_
      refine sd_yes2 2 rfl (by exact gd_) (by kernel_rfl) (by kernel_rfl) (by exact nop_) (PuI.all (by exact pv_Ca)) rfl (fun w hw => all_ hw) ?_
      refine sd_yes2 3 rfl (by exact gd_) (by kernel_rfl) (by kernel_rfl) (by exact nop_) (PuI.all (by exact pv_Ca)) rfl (fun w hw => all_ hw) ?_
      refine sd_yes2 6 rfl (by exact gd_) (by kernel_rfl) (by kernel_rfl) (by exact nop_) (PuI.all (by exact pv_Ca)) rfl (fun w hw => all_ hw) ?_
      refine sd_yes2 7 rfl (by exact gd_) (by kernel_rfl) (by kernel_rfl) (by exact nop_) (PuI.all (by exact pv_Ca)) rfl (fun w hw => all_ hw) ?_
      refine sd_one 1 (by kernel_rfl) (sa_sl 1 rfl ?_)
      refine sl_call rfl rfl (by kernel_rfl) rfl (by exact sub_) (in_ok hb hl hw) ?_
      rintro _ -
      rw [hi]
      refine sl_nil ?_
      refine se_sd (fun _ w hw => all_ hw) ?_
      refine sd_yes2 4 rfl (by exact gd_) (by kernel_rfl) (by kernel_rfl) (by exact nop_) (PuI.all (by exact pv_Ca)) rfl (fun w hw => all_ hw) ?_
      refine sd_yes2 5 rfl (by exact gd_) (by kernel_rfl) (by kernel_rfl) (by exact nop_) (PuI.all (by exact pv_Ca)) rfl (fun w hw => all_ hw) ?_
      refine sd_yes2 8 rfl (by exact gd_) (by kernel_rfl) (by kernel_rfl) (by exact nop_) (PuI.all (by exact pv_Ca)) rfl (fun w hw => all_ hw) ?_
      refine sd_yes2 9 rfl (by exact gd_) (by kernel_rfl) (by kernel_rfl) (by exact nop_) (PuI.all (by exact pv_Ca)) rfl (fun w hw => all_ hw) ?_
      refine sd_done (by kernel_rfl) ?_
      refine go_Ca ?_
      exact se_ret1 () trivial rfl rfl (by exact sub_)
    · rw [show callsN kd bt ln wt ch = 0 by simp [callsN, h1, h2, h3, h4, h5]]
      refine go_Ca ?_
      exact se_ret1 () trivial rfl rfl (by exact sub_)
  · have e : callsN kd bt ln wt ch = 0 := by simp [callsN, h1, h2, h0]
    rw [e]
    by_cases h3 : kd = 3
    · subst h3
      refine go_Ca ?_
      exact se_ret1 () trivial rfl rfl (by exact sub_)
    by_cases h4 : kd = 4
    · subst h4
      refine go_Ca ?_
      exact se_ret1 () trivial rfl rfl (by exact sub_)
    by_cases h5 : kd = 5
    · subst h5
      refine go_Ca ?_
      exact se_ret1 () trivial rfl rfl (by exact sub_)
    · refine go_Ca ?_
      exact se_ret1 () trivial rfl rfl (by exact sub_)
end Go.Proofs.YtocaabnbmcpjmaaGreatDoor
/- Circuits and tasks: Check. (Written by wip/tools/mkcb.py.) -/
namespace Go.Proofs.YtocaabnbmcpjmaaGreatDoor
open Go.RowKit
attribute [local irreducible] Go.Calls Go.Exit.then Go.Exit.inBlock Go.bodyPost Go.Code.wp Go.wpList
def uB (kd : Int) : Bool := decide (kd = 2 ∨ kd = 3)
def uL (kd : Int) : Bool := decide (kd = 3 ∨ kd = 4 ∨ kd = 5)
def uW (kd : Int) : Bool := decide (kd = 5)
/-- Are a circuit's numbers within their ends? -/
def ciIn (kd bt ln wt ch : Int) : Bool := wi bt 32 (uB kd) && wi ln 64 (uL kd) && wi wt ln (uW kd) && wi ch 16 (uL kd)
/-- May it be a circuit? -/
def ciErr (kd fl bt ln wt ch : Int) : Int := if ¬ (fl = 1 ∨ fl = 2) then 7 else if kd < 1 ∨ 5 < kd then 10 else if ciIn kd bt ln wt ch = false then 6 else if 511 < callsN kd bt ln wt ch then 5 else 0
theorem wi_le {n m : Int} {u : Bool} (h : wi n m u = true) (hm : 0 ≤ m) : 0 ≤ n ∧ n ≤ m := by
  cases u <;> simp [wi] at h <;> omega
theorem ci_le {kd bt ln wt ch : Int} (h : ciIn kd bt ln wt ch = true) : (0 ≤ bt ∧ bt ≤ 32) ∧ (0 ≤ ln ∧ ln ≤ 64) ∧ (0 ≤ wt ∧ wt ≤ 64) ∧ 0 ≤ ch ∧ ch ≤ 16 := by
  simp only [ciIn, Bool.and_eq_true] at h
  obtain ⟨⟨⟨h1, h2⟩, h3⟩, h4⟩ := h
  have e1 := wi_le h1 (by decide)
  have e2 := wi_le h2 (by decide)
  have e3 := wi_le h3 (by omega)
  have e4 := wi_le h4 (by decide)
  exact ⟨e1, e2, ⟨e3.1, by omega⟩, e4⟩
theorem mid4 {cs : List Value} {i : Nat} {a b c d : Value} (h0 : cs[i]? = some a) (h1 : cs[i + 1]? = some b) (h2 : cs[i + 2]? = some c) (h3 : cs[i + 3]? = some d) : Mid cs i [a, b, c, d] := by
  intro j v hj
  match j with
  | 0 => exact h0.trans hj
  | 1 => exact h1.trans hj
  | 2 => exact h2.trans hj
  | 3 => exact h3.trans hj
  | j + 4 => simp at hj
def usesL : List Value := [.bool false, .bool false, .bool false, .bool false, .bool false, .bool false, .bool false, .bool false, .bool true, .bool false, .bool false, .bool false, .bool true, .bool true, .bool false, .bool true, .bool false, .bool true, .bool false, .bool true, .bool false, .bool true, .bool true, .bool true]
theorem uses_mid {kd : Int} (h1 : 1 ≤ kd) (h5 : kd ≤ 5) : Mid usesL (0 + kd.toNat * 4) [.bool (uB kd), .bool (uL kd), .bool (uW kd), .bool (uL kd)] := by
  rcases (show kd = 1 ∨ kd = 2 ∨ kd = 3 ∨ kd = 4 ∨ kd = 5 by omega) with rfl | rfl | rfl | rfl | rfl <;> exact mid4 rfl rfl rfl rfl
theorem one4 (a b c d : Bool) : ∀ v ∈ [Value.bool a, .bool b, .bool c, .bool d], v.oneCell' = true := by
  intro v hv
  simp only [List.mem_cons, List.not_mem_nil, or_false] at hv
  rcases hv with rfl | rfl | rfl | rfl <;> rfl
theorem nth_Cb {φ : Prop} (h : φ := by (first | rfl | rfl)) : φ := h
theorem mid_Cb {φ : Prop} (h : φ := by (first | exact Mid.all | exact Mid.all | exact Mid.head)) : φ := h
theorem sz_Cb {φ : Prop} (h : φ := by (first | rfl | (rfl; first | done | fail))) : φ := h
theorem one_Cb {φ : Prop} (h : φ := by (first | assumption | exact one4 _ _ _ _ | (simp only [List.mem_cons, List.not_mem_nil, or_false, forall_eq_or_imp, forall_eq]; decide) | exact one_bytes _ | (intro v hv; (repeat (rcases List.mem_cons.1 hv with rfl | hv; rfl)); cases hv))) : φ := h
theorem set_Cb {φ : Prop} (h : φ := by (first | (fail) | ((repeat (first | exact SetAt.here | apply SetAt.there)); first | done | fail))) : φ := h
theorem cl_Cb {φ : Prop} (h : φ := by first | rfl | exact .t | exact .f | exact .t (by omega) | exact .f (by omega) | exact .u | exact .i (by (first | exact .t (by omega) | exact .f (by omega) | exact .u | exact .i (by omega) | exact .v (by omega) | exact .b (by omega) | exact .w | rfl | omega)) | exact .v (by omega) | exact .b (by omega) | exact .q (by omega) | exact .w | exact .b (by exact at_) rfl (by exact nth_Cb) | exact .w (by exact at_) rfl rfl (by exact sz_Cb) | exact .s (by exact at_) (by exact mid_Cb) rfl rfl (by exact sz_Cb) | exact .z rfl rfl ⟨by kernel_rfl⟩ | exact .b rfl rfl ⟨by kernel_rfl⟩ | exact .a rfl rfl ⟨by kernel_rfl⟩ | exact .o rfl | exact .s | exact .n | exact .p rfl | exact .q rfl | exact .c rfl | exact .d rfl | exact .n rfl rfl (by omega) | exact .a rfl rfl (by omega) | exact .p rfl rfl (by omega) (by omega) | exact .y rfl rfl (by omega) (by omega) | exact .o (by exact at_) (by omega) rfl (by exact nth_Cb) | exact .m (by exact at_) (by omega) (by exact mid_Cb) rfl rfl (by exact sz_Cb) | exact .mlen (by exact at_) rfl | exact .t (by exact at_) rfl rfl (by first | exact True.intro | rfl) (by assumption) | exact .f (by exact at_) rfl rfl (by first | exact True.intro | rfl) (by assumption) rfl | exact .t1 (by exact at_) rfl rfl (by first | exact True.intro | rfl) (by assumption) | exact .f1 (by exact at_) rfl rfl (by first | exact True.intro | rfl) (by assumption) rfl | exact .tk (by exact at_) rfl (by assumption) (by assumption) | exact .fk (by exact at_) rfl (by assumption) (by assumption) rfl | exact .tk1 (by exact at_) rfl (by assumption) (by assumption) | exact .fk1 (by exact at_) rfl (by assumption) (by assumption) rfl | exact .r rfl rfl (by omega) (by omega) (by exact nth_Cb) rfl | exact .s rfl (by omega) (by assumption) | exact at_ | assumption | exact .r rfl rfl | exact .h rfl rfl rfl (by omega) | exact .l rfl rfl rfl (by omega) (by omega) | exact .g rfl rfl rfl rfl (by omega) (by omega) | exact .h rfl rfl (toN_ (by omega)) (by omega) | exact .l rfl rfl (toN_ (by omega)) (by omega) (by omega) | exact .g rfl rfl (toN_ (by omega)) (toN_ (by omega)) (by omega) (by omega) | exact .o (by decide) | exact .f (by decide) | exact .n (by omega) (by first | decide | (show _ ≤ ((64 : Nat) : Int); omega)) | (constructor; (repeat (first | exact .t (by omega) | exact .f (by omega) | exact .u | exact .i (by omega) | exact .v (by omega) | exact .b (by omega) | exact .w | rfl | omega)); first | done | fail) | omega | (show _ ≤ ((64 : Nat) : Int); omega)) : φ := h
theorem pv_Cb {φ : Prop} (h : φ := by constructor; (repeat exact cl_Cb); first | done | fail) : φ := h
theorem su_Cb {φ ψ : Prop} (k : ψ) (h : Hide ψ → φ := by (intro k; (first | refine sl_pu (PuI.sep (by exact pv_Cb)) rfl ?_ | refine sl_yes rfl rfl ?_ | refine sl_no rfl rfl rfl ?_ | refine sl_off rfl rfl rfl ?_ | (fail)); exact k.out)) : φ := h ⟨k⟩
theorem sto_Cb {φ ψ : Prop} (k : ψ) (h : Hide ψ → φ := by (intro k; (first | refine sl_store rfl (by exact pick_) rfl rfl (by kernel_rfl) (by exact set_Cb) ?_ | refine sl_store_whole rfl (by exact pick_) rfl (by exact sz_Cb) (by exact sz_Cb) (by exact one_Cb) ?_); exact k.out)) : φ := h ⟨k⟩
theorem go_Cb {φ ψ : Prop} (k : ψ) (h : Hide ψ → φ := by (intro k; (repeat (first | refine su_Cb ?_ | refine so_ ?_ | refine sto_Cb ?_)); exact k.out)) : φ := h ⟨k⟩
set_option maxRecDepth 100000 in
set_option maxHeartbeats 8000000 in
theorem ccheck_ok {K : List Fa} (kd fl bt ln wt ch : Int) :
    Fn Tryz.prog 18 #[.agg (cCells kd fl bt ln wt ch).toArray] K (Ret (fun _ : Unit => True) (fun _ => .int .i64 (ciErr kd fl bt ln wt ch)) (fun _ => K)) := by
  refine fn_enter Tryz.func18 rfl _ Tryz.ntmps18 (by simp) [(0, .agg (cCells kd fl bt ln wt ch).toArray)] (args_of (by simp)) ?_
  refine go_Cb ?_
  refine sl_box rfl rfl rfl ?_; intro g1
  refine go_Cb ?_
  refine sl_call rfl rfl (by kernel_rfl) rfl (by exact sub_) (valid_ok fl) ?_; rintro _ -
  by_cases hf : fl = 1 ∨ fl = 2
  case neg =>
    rw [decide_eq_false hf, show ciErr kd fl bt ln wt ch = 7 by simp [ciErr, hf]]
    refine go_Cb ?_
    exact se_ret1 () trivial rfl rfl (by exact sub_)
  rw [decide_eq_true hf]
  by_cases hk1 : kd < 1
  · rw [show ciErr kd fl bt ln wt ch = 10 by simp [ciErr, hf, hk1]]
    refine go_Cb ?_
    exact se_ret1 () trivial rfl rfl (by exact sub_)
  by_cases hk5 : 5 < kd
  · rw [show ciErr kd fl bt ln wt ch = 10 by simp [ciErr, hf, hk5]]
    refine go_Cb ?_
    exact se_ret1 () trivial rfl rfl (by exact sub_)
  have he : ciErr kd fl bt ln wt ch = if ciIn kd bt ln wt ch = false then 6 else if 511 < callsN kd bt ln wt ch then 5 else 0 := by simp only [ciErr, hf, hk1, hk5]; simp
  rw [he]

  refine go_Cb ?_
  refine sl_pu (pu_build (v := .agg #[.bool true, .bool false, .bool false, .bool false]) rfl (fun W => by kernel_rfl)) rfl ?_
  refine sl_pu (pu_build (v := .agg #[.bool true, .bool true, .bool false, .bool true]) rfl (fun W => by kernel_rfl)) rfl ?_
  refine sl_pu (pu_build (v := .agg #[.bool false, .bool true, .bool false, .bool true]) rfl (fun W => by kernel_rfl)) rfl ?_
  refine sl_pu (pu_build (v := .agg #[.bool false, .bool true, .bool true, .bool true]) rfl (fun W => by kernel_rfl)) rfl ?_
  refine sl_pu (pu_build (v := .agg #[.bool false, .bool false, .bool false, .bool false, .bool false, .bool false, .bool false, .bool false, .bool true, .bool false, .bool false, .bool false, .bool true, .bool true, .bool false, .bool true, .bool false, .bool true, .bool false, .bool true, .bool false, .bool true, .bool true, .bool true]) rfl (fun W => by kernel_rfl)) rfl ?_
  refine sl_alloc rfl rfl rfl ?_; intro g2
  refine go_Cb ?_
  refine sl_pu (pu_lds (cl := [.bool (uB kd), .bool (uL kd), .bool (uW kd), .bool (uL kd)]) (by exact at_) rfl (uses_mid (by omega) (by omega)) rfl rfl rfl) rfl ?_
  generalize hub : uB kd = ub
  generalize hul : uL kd = ul
  generalize huw : uW kd = uw
  refine sl_alloc rfl rfl rfl ?_; intro g3
  refine go_Cb ?_
  refine sl_call rfl rfl (by kernel_rfl) rfl (by exact sub_) (cwithin_ok bt 32 (ub)) ?_; rintro _ -
  cases w0 : wi bt 32 (ub) with
  | false =>
    rw [show ciIn kd bt ln wt ch = false by simp [ciIn, hub, hul, huw, w0], if_pos rfl]
    refine go_Cb ?_
    exact se_ret1 () trivial rfl rfl (by exact sub_)
  | true =>
  refine go_Cb ?_
  refine sl_call rfl rfl (by kernel_rfl) rfl (by exact sub_) (cwithin_ok ln 64 (ul)) ?_; rintro _ -
  cases w1 : wi ln 64 (ul) with
  | false =>
    rw [show ciIn kd bt ln wt ch = false by simp [ciIn, hub, hul, huw, w1], if_pos rfl]
    refine go_Cb ?_
    exact se_ret1 () trivial rfl rfl (by exact sub_)
  | true =>
  refine go_Cb ?_
  refine sl_call rfl rfl (by kernel_rfl) rfl (by exact sub_) (cwithin_ok wt ln (uw)) ?_; rintro _ -
  cases w2 : wi wt ln (uw) with
  | false =>
    rw [show ciIn kd bt ln wt ch = false by simp [ciIn, hub, hul, huw, w2], if_pos rfl]
    refine go_Cb ?_
    exact se_ret1 () trivial rfl rfl (by exact sub_)
  | true =>
  refine go_Cb ?_
  refine sl_call rfl rfl (by kernel_rfl) rfl (by exact sub_) (cwithin_ok ch 16 (ul)) ?_; rintro _ -
  cases w3 : wi ch 16 (ul) with
  | false =>
    rw [show ciIn kd bt ln wt ch = false by simp [ciIn, hub, hul, huw, w3], if_pos rfl]
    refine go_Cb ?_
    exact se_ret1 () trivial rfl rfl (by exact sub_)
  | true =>
  have hi : ciIn kd bt ln wt ch = true := by simp [ciIn, hub, hul, huw, w0, w1, w2, w3]
  obtain ⟨q1, q2, q3, q4⟩ := ci_le hi
  rw [hi, if_neg (by simp)]
  refine go_Cb ?_
  refine sl_call rfl rfl (by kernel_rfl) rfl (by exact sub_) (calls_ok q1 q2 q3 q4.2) ?_; rintro _ -
  by_cases hm : 511 < callsN kd bt ln wt ch
  · rw [if_pos hm]
    refine go_Cb ?_
    exact se_ret1 () trivial rfl rfl (by exact sub_)
  · rw [if_neg hm]
    refine go_Cb ?_
    exact se_ret1 () trivial rfl rfl (by exact sub_)
end Go.Proofs.YtocaabnbmcpjmaaGreatDoor
/- Tasks: Check; Out; the small ones. -/
namespace Go.Proofs.YtocaabnbmcpjmaaGreatDoor
open Go.RowKit
attribute [local irreducible] Go.Calls Go.Exit.then Go.Exit.inBlock Go.bodyPost Go.Code.wp Go.wpList
def tCells (kd fl bt ln wt ch np : Int) (tag : ByteArray) : List Value := cCells kd fl bt ln wt ch ++ [.int .i64 np, .string tag]
/-- May it be a task? -/
def tErr (kd fl bt ln wt ch np : Int) (tag : ByteArray) : Int := if ciErr kd fl bt ln wt ch ≠ 0 then ciErr kd fl bt ln wt ch else if np < 1 ∨ 3 < np ∨ 32 < (tag.size : Int) then 6 else 0
theorem nth_Cc {φ : Prop} (h : φ := by (first | rfl | rfl)) : φ := h
theorem mid_Cc {φ : Prop} (h : φ := by (first | first | exact Mid.head | exact Mid.all | exact Mid.all | exact Mid.head)) : φ := h
theorem sz_Cc {φ : Prop} (h : φ := by (first | rfl | (rfl; first | done | fail))) : φ := h
theorem one_Cc {φ : Prop} (h : φ := by (first | assumption | exact one_bytes _ | (simp only [List.mem_cons, List.not_mem_nil, or_false, forall_eq_or_imp, forall_eq]; decide) | exact one_bytes _ | (intro v hv; (repeat (rcases List.mem_cons.1 hv with rfl | hv; rfl)); cases hv))) : φ := h
theorem set_Cc {φ : Prop} (h : φ := by (first | (fail) | ((repeat (first | exact SetAt.here | apply SetAt.there)); first | done | fail))) : φ := h
theorem cl_Cc {φ : Prop} (h : φ := by first | rfl | exact .t | exact .f | exact .t (by omega) | exact .f (by omega) | exact .u | exact .i (by (first | exact .t (by omega) | exact .f (by omega) | exact .u | exact .i (by omega) | exact .v (by omega) | exact .b (by omega) | exact .w | rfl | omega)) | exact .v (by omega) | exact .b (by omega) | exact .q (by omega) | exact .w | exact .b (by exact at_) rfl (by exact nth_Cc) | exact .w (by exact at_) rfl rfl (by exact sz_Cc) | exact .s (by exact at_) (by exact mid_Cc) rfl rfl (by exact sz_Cc) | exact .z rfl rfl ⟨by kernel_rfl⟩ | exact .b rfl rfl ⟨by kernel_rfl⟩ | exact .a rfl rfl ⟨by kernel_rfl⟩ | exact .o rfl | exact .s | exact .n | exact .p rfl | exact .q rfl | exact .c rfl | exact .d rfl | exact .n rfl rfl (by omega) | exact .a rfl rfl (by omega) | exact .p rfl rfl (by omega) (by omega) | exact .y rfl rfl (by omega) (by omega) | exact .o (by exact at_) (by omega) rfl (by exact nth_Cc) | exact .m (by exact at_) (by omega) (by exact mid_Cc) rfl rfl (by exact sz_Cc) | exact .mlen (by exact at_) rfl | exact .t (by exact at_) rfl rfl (by first | exact True.intro | rfl) (by assumption) | exact .f (by exact at_) rfl rfl (by first | exact True.intro | rfl) (by assumption) rfl | exact .t1 (by exact at_) rfl rfl (by first | exact True.intro | rfl) (by assumption) | exact .f1 (by exact at_) rfl rfl (by first | exact True.intro | rfl) (by assumption) rfl | exact .tk (by exact at_) rfl (by assumption) (by assumption) | exact .fk (by exact at_) rfl (by assumption) (by assumption) rfl | exact .tk1 (by exact at_) rfl (by assumption) (by assumption) | exact .fk1 (by exact at_) rfl (by assumption) (by assumption) rfl | exact .r rfl rfl (by omega) (by omega) (by exact nth_Cc) rfl | exact .s rfl (by omega) (by assumption) | exact at_ | assumption | exact .r rfl rfl | exact .h rfl rfl rfl (by omega) | exact .l rfl rfl rfl (by omega) (by omega) | exact .g rfl rfl rfl rfl (by omega) (by omega) | exact .h rfl rfl (toN_ (by omega)) (by omega) | exact .l rfl rfl (toN_ (by omega)) (by omega) (by omega) | exact .g rfl rfl (toN_ (by omega)) (toN_ (by omega)) (by omega) (by omega) | exact .o (by decide) | exact .f (by decide) | exact .n (by omega) (by first | decide | (show _ ≤ ((64 : Nat) : Int); omega)) | (constructor; (repeat (first | exact .t (by omega) | exact .f (by omega) | exact .u | exact .i (by omega) | exact .v (by omega) | exact .b (by omega) | exact .w | rfl | omega)); first | done | fail) | omega | (show _ ≤ ((64 : Nat) : Int); omega)) : φ := h
theorem pv_Cc {φ : Prop} (h : φ := by constructor; (repeat exact cl_Cc); first | done | fail) : φ := h
theorem su_Cc {φ ψ : Prop} (k : ψ) (h : Hide ψ → φ := by (intro k; (first | refine sl_pu (PuI.sep (by exact pv_Cc)) rfl ?_ | refine sl_yes rfl rfl ?_ | refine sl_no rfl rfl rfl ?_ | refine sl_off rfl rfl rfl ?_ | (fail)); exact k.out)) : φ := h ⟨k⟩
theorem sto_Cc {φ ψ : Prop} (k : ψ) (h : Hide ψ → φ := by (intro k; (first | refine sl_store rfl (by exact pick_) rfl rfl (by kernel_rfl) (by exact set_Cc) ?_ | refine sl_store_whole rfl (by exact pick_) rfl (by exact sz_Cc) (by exact sz_Cc) (by exact one_Cc) ?_); exact k.out)) : φ := h ⟨k⟩
theorem go_Cc {φ ψ : Prop} (k : ψ) (h : Hide ψ → φ := by (intro k; (repeat (first | refine su_Cc ?_ | refine so_ ?_ | refine sto_Cc ?_)); exact k.out)) : φ := h ⟨k⟩
set_option maxRecDepth 100000 in
set_option maxHeartbeats 4000000 in
theorem tcheck_ok {K : List Fa} (kd fl bt ln wt ch np : Int) (tag : ByteArray) :
    Fn Tryz.prog 19 #[.agg (tCells kd fl bt ln wt ch np tag).toArray] K (Ret (fun _ : Unit => True) (fun _ => .int .i64 (tErr kd fl bt ln wt ch np tag)) (fun _ => K)) := by
  refine fn_enter Tryz.func19 rfl _ Tryz.ntmps19 (by simp) [(0, .agg (tCells kd fl bt ln wt ch np tag).toArray)] (args_of (by simp)) ?_
  refine go_Cc ?_
  refine sl_box rfl rfl rfl ?_; intro g1
  refine go_Cc ?_
  refine sl_call rfl rfl (by kernel_rfl) rfl (by exact sub_) (ccheck_ok kd fl bt ln wt ch) ?_; rintro _ -
  by_cases hc : ciErr kd fl bt ln wt ch = 0
  case neg =>
    rw [show tErr kd fl bt ln wt ch np tag = ciErr kd fl bt ln wt ch by simp [tErr, hc]]
    refine go_Cc ?_
    exact se_ret1 () trivial rfl rfl (by exact sub_)
  rw [hc]
  by_cases h1 : np < 1
  · rw [show tErr kd fl bt ln wt ch np tag = 6 by simp [tErr, hc, h1]]
    refine go_Cc ?_
    exact se_ret1 () trivial rfl rfl (by exact sub_)
  by_cases h2 : 3 < np
  · rw [show tErr kd fl bt ln wt ch np tag = 6 by simp [tErr, hc, h2]]
    refine go_Cc ?_
    exact se_ret1 () trivial rfl rfl (by exact sub_)
  by_cases h3 : 32 < (tag.size : Int)
  · rw [show tErr kd fl bt ln wt ch np tag = 6 by simp only [tErr, hc, h3]; simp]
    refine go_Cc ?_
    exact se_ret1 () trivial rfl rfl (by exact sub_)
  · rw [show tErr kd fl bt ln wt ch np tag = 0 by simp only [tErr, hc, h1, h2, h3]; simp]
    refine go_Cc ?_
    exact se_ret1 () trivial rfl rfl (by exact sub_)
/-- How many elements are summed. -/
def outN (kd ln : Int) : Int := if kd = 1 ∨ kd = 2 then 1 else if kd = 3 ∨ kd = 4 ∨ kd = 5 then ln else 0
end Go.Proofs.YtocaabnbmcpjmaaGreatDoor
/- Package total: New, Add. -/
namespace Go.Proofs.YtocaabnbmcpjmaaGreatDoor
open Go.RowKit
attribute [local irreducible] Go.Calls Go.Exit.then Go.Exit.inBlock Go.bodyPost Go.Code.wp Go.wpList
attribute [local irreducible] hashL ofId
/-- A task. -/
structure Ta where
  kd : Int
  fl : Int
  bt : Int
  ln : Int
  wt : Int
  ch : Int
  np : Int
  tag : ByteArray
def Ta.ci (t : Ta) : List Value := cCells t.kd t.fl t.bt t.ln t.wt t.ch
def Ta.c (t : Ta) : List Value := tCells t.kd t.fl t.bt t.ln t.wt t.ch t.np t.tag
def Ta.err (t : Ta) : Int := tErr t.kd t.fl t.bt t.ln t.wt t.ch t.np t.tag
def Ta.out (t : Ta) : Int := outN t.kd t.ln
theorem Ta.one (t : Ta) : ∀ v ∈ t.c, v.oneCell' = true := by
  intro v hv
  simp only [Ta.c, tCells, cCells, List.cons_append, List.nil_append, List.mem_cons, List.not_mem_nil, or_false] at hv
  rcases hv with rfl | rfl | rfl | rfl | rfl | rfl | rfl | rfl <;> rfl
theorem Ta.mid (t : Ta) : Mid t.c 0 t.ci := Mid.head
theorem Ta.ci_err {t : Ta} (h : t.err = 0) : ciErr t.kd t.fl t.bt t.ln t.wt t.ch = 0 := by
  unfold Ta.err tErr at h
  by_cases hc : ciErr t.kd t.fl t.bt t.ln t.wt t.ch = 0
  · exact hc
  · rw [if_pos hc] at h
    exact absurd h hc
theorem ci_ok {kd fl bt ln wt ch : Int} (h : ciErr kd fl bt ln wt ch = 0) : (fl = 1 ∨ fl = 2) ∧ (1 ≤ kd ∧ kd ≤ 5) ∧ ciIn kd bt ln wt ch = true ∧ callsN kd bt ln wt ch ≤ 511 := by
  unfold ciErr at h
  split at h
  · omega
  split at h
  · omega
  split at h
  · omega
  split at h
  · omega
  rename_i h1 h2 h3 h4
  exact ⟨Decidable.of_not_not h1, by omega, by simpa using h3, by omega⟩
theorem Ta.le {t : Ta} (h : t.err = 0) : (t.fl = 1 ∨ t.fl = 2) ∧ (1 ≤ t.kd ∧ t.kd ≤ 5) ∧ (0 ≤ t.bt ∧ t.bt ≤ 32) ∧ (0 ≤ t.ln ∧ t.ln ≤ 64) ∧ (0 ≤ t.wt ∧ t.wt ≤ 64) ∧ 0 ≤ t.ch ∧ t.ch ≤ 16 := by
  obtain ⟨h1, h2, h3, _⟩ := ci_ok (t.ci_err h)
  obtain ⟨h4, h5, h6, h7⟩ := ci_le h3
  exact ⟨h1, h2, h4, h5, h6, h7⟩
/-- A total's cells. -/
def tc (A : Option Addr) (n c : Nat) (m : Int) (k : Id) : List Value := [.slice A n c, .int .i64 m] ++ bytes k.l
theorem tc_len {A : Option Addr} {n c : Nat} {m : Int} {k : Id} : (tc A n c m k).length = 18 := by simp [tc, bytes, k.len]
theorem tc_one {A : Option Addr} {n c : Nat} {m : Int} {k : Id} : ∀ v ∈ tc A n c m k, v.oneCell' = true := by
  intro v hv
  rcases List.mem_append.1 hv with h | h
  · simp only [List.mem_cons, List.not_mem_nil, or_false] at h
    rcases h with rfl | rfl <;> rfl
  · exact one_bytes _ v h
theorem tc_mid {A : Option Addr} {n c : Nat} {m : Int} {k : Id} : Mid (tc A n c m k) 2 (bytes k.l) := by
  have := Mid.of_append (a := [Value.slice A n c, .int .i64 m]) (cl := bytes k.l) (b := []) (o := 2) rfl
  rwa [List.append_nil] at this
theorem tc_set0 {A B : Option Addr} {n c p d : Nat} {m : Int} {k : Id} : SetAt 0 (.slice B p d) (tc A n c m k) (tc B p d m k) := SetAt.here
theorem tc_n0 {A : Option Addr} {n c : Nat} {m : Int} {k : Id} : nth (tc A n c m k) 0 = some (.slice A n c) := rfl
theorem tc_n1 {A : Option Addr} {n c : Nat} {m : Int} {k : Id} : nth (tc A n c m k) 1 = some (.int .i64 m) := rfl
theorem list16t {cs : List Value} (h : cs.length = 16) : ∃ a0 a1 a2 a3 a4 a5 a6 a7 a8 a9 a10 a11 a12 a13 a14 a15, cs = [a0, a1, a2, a3, a4, a5, a6, a7, a8, a9, a10, a11, a12, a13, a14, a15] := by
  match cs, h with
  | [a0, a1, a2, a3, a4, a5, a6, a7, a8, a9, a10, a11, a12, a13, a14, a15], _ => exact ⟨a0, a1, a2, a3, a4, a5, a6, a7, a8, a9, a10, a11, a12, a13, a14, a15, rfl⟩
attribute [irreducible] tc
end Go.Proofs.YtocaabnbmcpjmaaGreatDoor
/- Package store: its maps, accept, reject, over facts. -/
namespace Go.Proofs.YtocaabnbmcpjmaaGreatDoor
open Go.RowKit Go.MapKept
attribute [local irreducible] Go.Calls Go.Exit.then Go.Exit.inBlock Go.bodyPost Go.Code.wp Go.wpList
section
variable {P : Program} {ops : Array Oper} {Q : Exit → Act → World → Prop} {n : Nat} {l : Env} {L L' : List Fa} {rest : List Oper} {ty t kt e : TypeId} {pos : String} {after : Array Edge} {x y u : Operand} {m ck : Nat} {d : TypeDesc} {α : Type} {M : MK α} {X Y fs : List α} {f f' : α} {K : List Fa} {k v : Value}
end
/-- A report's cells. -/
def rpC (id : Id) (t : Int) (P S : Value) : List Value := bytes id.l ++ [.int .u64 t, P, S]
theorem rpC_len {id : Id} {t : Int} {P S : Value} : (rpC id t P S).length = 19 := by simp [rpC, bytes, id.len]
theorem rpC_id {id : Id} {t : Int} {P S : Value} : Mid (rpC id t P S) 0 (bytes id.l) := Mid.head
theorem rpC_n16 {id : Id} {t : Int} {P S : Value} : nth (rpC id t P S) 16 = some (.int .u64 t) := by
  rw [nth_eq, rpC, List.getElem?_append_right (by simp [bytes, id.len])]
  simp [bytes, id.len]
theorem rpC_n17 {id : Id} {t : Int} {P S : Value} : nth (rpC id t P S) 17 = some P := by
  rw [nth_eq, rpC, List.getElem?_append_right (by simp [bytes, id.len])]
  simp [bytes, id.len]
theorem rpC_n18 {id : Id} {t : Int} {P S : Value} : nth (rpC id t P S) 18 = some S := by
  rw [nth_eq, rpC, List.getElem?_append_right (by simp [bytes, id.len])]
  simp [bytes, id.len]
theorem rpC_one {id : Id} {t : Int} {P S : Value} (hP : P.oneCell' = true) (hS : S.oneCell' = true) : ∀ v ∈ rpC id t P S, v.oneCell' = true := by
  intro v hv
  rcases List.mem_append.1 hv with h | h
  · exact one_bytes _ v h
  · simp only [List.mem_cons, List.not_mem_nil, or_false] at h
    rcases h with rfl | rfl | rfl
    · rfl
    · exact hP
    · exact hS
/-- A report that waits. -/
structure Wt where
  id : Id
  t : Int
  pA : Option Addr
  pc : Nat
  p : List Int
  sA : Option Addr
  sc : Nat
  s : List Int
  bn : Nat
def Wt.cells (w : Wt) : List Value := rpC w.id w.t (.slice w.pA w.p.length w.pc) (.slice w.sA w.s.length w.sc)
def WM : MK Wt := ⟨fun w => w.id.v, fun w => .agg w.cells.toArray, fun w => w.bn, fun w => star [u8o w.pA w.pc w.p, u8o w.sA w.sc w.s]⟩
/-- What was said of a report. -/
structure Sd where
  id : Id
  A : Option Addr
  c : Nat
  l : List Int
  bn : Nat
def SDM : MK Sd := ⟨fun s => s.id.v, fun s => .slice s.A s.l.length s.c, fun s => s.bn, fun s => u8o s.A s.c s.l⟩
abbrev wM (m : Nat) (ws : List Wt) (ck : Nat) : Fa := kM WM m (.array 16 5) ws ck
abbrev wS (ws : List Wt) : Fa := kS WM ws
abbrev dMm (m : Nat) (sd : List Sd) (ck : Nat) : Fa := kM SDM m (.array 16 5) sd ck
abbrev dSs (sd : List Sd) : Fa := kS SDM sd
/-- A store. -/
def stC9 (t : Ta) (gj gi gb mw ms : Nat) (life : Int) : List Value := t.c ++ [.pointer (some ⟨gj, 0, none⟩), .pointer (some ⟨gi, 0, none⟩), .pointer (some ⟨gb, 0, none⟩), .map (some mw), .map (some ms), .int .u64 life]
theorem stC9_mid {t : Ta} {gj gi gb mw ms : Nat} {life : Int} : Mid (stC9 t gj gi gb mw ms life) 0 t.c := Mid.head
theorem stC9_ci {t : Ta} {gj gi gb mw ms : Nat} {life : Int} : Mid (stC9 t gj gi gb mw ms life) 0 t.ci := fun j v hj => by
  have h1 := t.mid j v hj
  have h2 := stC9_mid (t := t) (gj := gj) (gi := gi) (gb := gb) (mw := mw) (ms := ms) (life := life)
  rw [Nat.zero_add] at h1 ⊢
  have := h2 j v h1
  rwa [Nat.zero_add] at this
abbrev sB (g : Nat) (t : Ta) (gj gi gb mw ms : Nat) (life : Int) : Fa := blk g 96 (stC9 t gj gi gb mw ms life)
end Go.Proofs.YtocaabnbmcpjmaaGreatDoor
/- A journal's cells and records, by definition: plain lists, no program in sight. -/
namespace Go.Proofs.YtocaabnbmcpjmaaGreatDoor
open Go
def zs (n : Nat) : List Int := List.replicate n 0
def bodyL (number follow : Nat) (part : List Int) : List Int := le number 3 ++ le follow 3 ++ le part.length 2 ++ part ++ zs (48 - part.length)
def cellL (number follow : Nat) (part : List Int) : List Int := hashL 9 (bodyL number follow part) 8 ++ bodyL number follow part
def manyL (n : Nat) : Nat := max ((n + 47) / 48) 1
def partL (bs : List Int) (i : Nat) : List Int := (bs.drop (i * 48)).take 48
/-- The first cells of a record. -/
def recF (number many : Nat) (bs : List Int) : Nat → List Int
  | 0 => []
  | i + 1 => recF number many bs i ++ cellL (number + i) (many - 1 - i) (partL bs i)
def recL (number : Nat) (bs : List Int) : List Int := recF number (manyL bs.length) bs (manyL bs.length)
/-- What a cell without its sum says. -/
def saysL (d : List Int) (k : Nat) : Option (Nat × List Int) :=
  if 48 < leV ((d.drop 6).take 2) then none else
  if leV (d.take 3) ≠ k then none else
  if (((d.drop 8).take 48).drop (leV ((d.drop 6).take 2)).toNat).all (· == 0) then some ((leV ((d.drop 3).take 3)).toNat, ((d.drop 8).take 48).take (leV ((d.drop 6).take 2)).toNat) else none
def cutL (bs : List Int) (k : Nat) : List Int := (bs.drop (k * 64)).take 64
/-- A cell out of a journal: how many follow, its part. -/
def takeL (bs : List Int) (k : Nat) : Option (Nat × List Int) :=
  if bs.length < (k + 1) * 64 then none else
  if hashL 9 ((cutL bs k).drop 8) 8 ≠ (cutL bs k).take 8 then none else saysL ((cutL bs k).drop 8) k
def goL (bs : List Int) (k : Nat) : Nat → Nat → List Int → Option (List Int)
  | 0, _, out => some out
  | left + 1, i, out =>
    match takeL bs (k + 1 + i) with
    | some (f, p) => if f = left ∧ out.length = (i + 1) * 48 then goL bs k left (i + 1) (out ++ p) else none
    | none => none
/-- A record: its bytes, how many cells it takes. -/
def recordL (bs : List Int) (k : Nat) : Option (List Int × Nat) :=
  match takeL bs k with
  | some (f, p) => if f < 1366 then (goL bs k f 0 p).map fun out => (out, f + 1) else none
  | none => none
end Go.Proofs.YtocaabnbmcpjmaaGreatDoor
/- pack.Read over facts. -/
namespace Go.Proofs.YtocaabnbmcpjmaaGreatDoor
open Go.RowKit
/-- All but T as it was at w1. -/
def since (w1 : World) (T : Nat → Prop) : Fa := ⟨fun w => Fr T w1 w, fun k => k < w1.heap.size ∧ ¬ T k, fun h e => by have := h.size; omega, fun h hF hn => h.trans hF (fun k hk e => Classical.byContradiction fun ht => hn k ⟨hk, ht⟩ e)⟩
attribute [local semireducible] Sep in
theorem Sep.cons {w : World} {f : Fa} {L : List Fa} (h1 : f.P w) (h2 : ∀ g ∈ L, ∀ k, f.F k → ¬ g.F k) (h3 : Sep w L) : Sep w (f :: L) := ⟨h1, h2, h3⟩
theorem blk_F {g : Nat} {t : TypeId} {cs : List Value} {k : Nat} : (blk g t cs).F k ↔ k = g := by
  unfold blk
  exact Iff.rfl
theorem blk_P {g : Nat} {t : TypeId} {cs : List Value} {w : World} : (blk g t cs).P w ↔ Blk w g t cs.toArray := by
  unfold blk
  exact Iff.rfl
theorem read_facts {K : List Fa} {w w1 : World} {A : Option Addr} {n c : Nat} {bs : List Int} (hw : Sep w K) (hF : Fr Nil w w1) (hsz : w1.heap.size = w.heap.size + 3) (hR : RdR w1 (w.heap.size + 1) A n c bs true) :
    Sep w1 (rdb (w.heap.size + 1) A n c :: since w1 (fun k => k = w.heap.size + 1 ∨ foot K k) :: K) := by
  refine Sep.cons (blk_P.2 (by simpa using hR.blk)) (fun g hg k hk => ?_) (Sep.cons (Fr.refl _ _) (fun g hg k hk hk' => hk.2 (.inr ⟨g, hg, hk'⟩)) (hw.nil hF))
  rw [blk_F.1 hk]
  rcases List.mem_cons.1 hg with e | e
  · subst e
    exact fun h => h.2 (.inl rfl)
  · intro h
    have := hw.foot_lt _ ⟨g, e, h⟩
    omega
theorem read_mine {H K : List Fa} {w w1 w2 : World} {x : Fa} (hw : Sep w K) (hsz : w1.heap.size = w.heap.size + 3) (hx : x.F (w.heap.size + 1)) (hs : Sep w2 (x :: since w1 (fun k => k = w.heap.size + 1 ∨ foot K k) :: H)) : ∀ k, foot H k → ¬ Mine w k := by
  rintro k ⟨g, hg, hk⟩ (e | e)
  · subst e
    refine hs.tl.apart g hg _ ⟨by omega, fun h => ?_⟩ hk
    rcases h with h | h
    · omega
    · have := hw.foot_lt _ h
      omega
  · subst e
    exact hs.apart g (List.mem_cons_of_mem _ hg) _ hx hk
section
variable {α : Type} {K Z : List Fa} {A : Option Addr} {n c : Nat} {bs rest : List Int} {f : Nat} {caps : Array Value} {φ : α → Prop} {H : α → List Fa}
theorem read_ok (hcall : ∀ args w, (callFunc f args).run Tryz.prog w = .ok (.enter f args) w) (hz : Sub K Z) (h : Rd Z A n c bs) (hH : ∀ a, Sub (H a) Z)
    (hc : ∀ (r : Nat) (f0 : Fa), Fn Tryz.prog f (#[.pointer (some ⟨r, 0, none⟩)] ++ caps) (rdb r A n c :: f0 :: K) (Ret (fun p : α × Rg => φ p.1 ∧ p.2.ok Z rest) (fun _ => .tuple #[]) (fun p => rdb r p.2.A p.2.n p.2.c :: f0 :: H p.1))) :
    Fn Tryz.prog 42 #[.slice A n c, .func (.func f) #[] caps] K (Ret φ (fun _ => .int .i64 (endCode rest)) H) := by
  unfold Fn
  intro w hw
  refine (Read_left (rest := rest) (U := foot K) (G := fun w2 => ∃ a, φ a ∧ Sep w2 (H a) ∧ ∀ k, foot (H a) k → ¬ Mine w k) hcall (h.vw w (hw.sub hz)) h.le h.cb (fun k hk => hw.foot_lt k hk) ?_ ?_).mono ?_
  · intro w1 hF hsz hR
    have c1 := hc (w.heap.size + 1) (since w1 (fun k => k = w.heap.size + 1 ∨ foot K k))
    unfold Fn at c1
    refine (c1 w1 (read_facts hw hF hsz hR)).mono ?_
    rintro e w2 ⟨⟨a, q⟩, ⟨ha, hq⟩, he, hs⟩
    exact ⟨he, ⟨q.A, q.n, q.c, ⟨by simpa using blk_at hs .here, hq.vw w2 (hs.sub (Sub.skip (Sub.skip (hH a)))), hq.le, hq.cb⟩⟩, hs.at (.there .here), a, ha, hs.tl.tl, read_mine hw hsz (blk_F.2 rfl) hs⟩
  · rintro w2 w' hF ⟨a, ha, hs, hd⟩
    exact ⟨a, ha, hs.fr hF hd, hd⟩
  · rintro e w' ⟨he, _, a, ha, hs, _⟩
    exact ⟨a, ha, he, hs⟩
theorem read_die {x : Int} (hcall : ∀ args w, (callFunc f args).run Tryz.prog w = .ok (.enter f args) w) (hz : Sub K Z) (h : Rd Z A n c bs)
    (hc : ∀ (r : Nat) (f0 : Fa), Fn Tryz.prog f (#[.pointer (some ⟨r, 0, none⟩)] ++ caps) (rdb r A n c :: f0 :: K) (Pan (fun p : α × Rg => φ p.1) (fun _ => stopC x) (fun p => rdb r p.2.A p.2.n p.2.c :: f0 :: H p.1))) :
    Fn Tryz.prog 42 #[.slice A n c, .func (.func f) #[] caps] K (Ret φ (fun _ => .int .i64 x) H) := by
  unfold Fn
  intro w hw
  refine (Read_died (c := x) (U := foot K) (G := fun w2 => ∃ a, φ a ∧ Sep w2 (H a) ∧ ∀ k, foot (H a) k → ¬ Mine w k) hcall (h.vw w (hw.sub hz)) h.le h.cb (fun k hk => hw.foot_lt k hk) ?_ ?_).mono ?_
  · intro w1 hF hsz hR
    have c1 := hc (w.heap.size + 1) (since w1 (fun k => k = w.heap.size + 1 ∨ foot K k))
    unfold Fn at c1
    refine (c1 w1 (read_facts hw hF hsz hR)).mono ?_
    rintro e w2 ⟨⟨a, q⟩, ha, he, hs⟩
    exact ⟨he, ⟨_, by simpa using blk_at hs .here⟩, hs.at (.there .here), a, ha, hs.tl.tl, read_mine hw hsz (blk_F.2 rfl) hs⟩
  · rintro w2 w' hF ⟨a, ha, hs, hd⟩
    exact ⟨a, ha, hs.fr hF hd, hd⟩
  · rintro e w' ⟨he, _, a, ha, hs, _⟩
    exact ⟨a, ha, he, hs⟩
end
end Go.Proofs.YtocaabnbmcpjmaaGreatDoor
/- Strings of bytes. No program is in sight. -/
namespace Go.Proofs.YtocaabnbmcpjmaaGreatDoor
open Go.RowKit
theorem nums_back {p : List Int} (h : IsBytes p) : (p.map fun n => UInt8.ofNat n.toNat).map (fun u => (u.toNat : Int)) = p := by
  rw [List.map_map]
  conv => rhs; rw [← List.map_id p]
  refine List.map_congr_left fun x hx => ?_
  obtain ⟨h1, h2⟩ := h x hx
  simp [UInt8.toNat_ofNat']
  omega
theorem str_toList (p : List Int) : (strOfNums p).toList = p.map fun n => UInt8.ofNat n.toNat := by
  rw [Lib.strOfNums_toList]
  rfl
theorem strs_dec {p q : List Int} (hp : IsBytes p) (hq : IsBytes q) : ((strOfNums p).toList == (strOfNums q).toList) = decide (p = q) := by
  rw [Bool.eq_iff_iff, beq_iff_eq, decide_eq_true_eq, str_toList, str_toList]
  constructor
  · intro h
    rw [← nums_back hp, ← nums_back hq, h]
  · intro h
    rw [h]
end Go.Proofs.YtocaabnbmcpjmaaGreatDoor
/- append where there is no room, and of nothing. No program is in sight. -/
namespace Go.Proofs.YtocaabnbmcpjmaaGreatDoor
open Go.RowKit
section
variable {P : Program} {ops : Array Oper} {Q : Exit → Act → World → Prop} {n : Nat} {l : Env} {L L' : List Fa} {rest : List Oper} {d : Tmp} {ty t t' e : TypeId} {pos : String} {after : Array Edge} {x y : Operand} {k m c cb size bytes : Nat} {A B : Option Addr} {xs ys : List Value} {z : Value}
/-- A slice whose room is its length: a new row. -/
theorem sl_app_full (hx : ev l x = some (.slice A k k)) (hr0 : Vw L (fun w => Reads w size A k xs)) (hk : 0 < k) (hy : ev l y = some (.slice B m cb)) (hr : Vw L (fun w => Reads w size B m ys)) (hm : 0 < m) (ht : P.underlying t = some (.slice e)) (hi : (P.info? e).map (fun i => (i.zero, i.size, i.bytes)) = some (some z, size, bytes)) (hzs : z.cells.size = size)
    (hd : Nat.blt d n = true) (h63 : k + m ≤ maxLen) (hby : (k + m) * bytes ≤ 140737488355328)
    (h : ∀ g c', SL P ops Q rest n ((d, .slice (some ⟨g, 0, none⟩) (k + m) c') :: l) (own e size (some ⟨g, 0, none⟩) (k + m) c' (xs ++ ys) :: L)) : SL P ops Q (⟨some d, .call { callee := .builtin .append, args := #[x, y], argTypes := #[t, t] }, ty, pos, after, none⟩ :: rest) n l L := sl_of fun w hw => by
  obtain ⟨i, hi0, hz0, hz1, hz2⟩ := info_parts hi
  subst hz1 hz2
  have hR0 := hr0 w hw
  have hR := hr w hw
  obtain ⟨ad, rfl, hc0⟩ := hR0.2 hk
  obtain ⟨bd, rfl, hc1⟩ := hR.2 hm
  have h63' : ((k + m : Nat) : Int) ≤ 9223372036854775807 := by
    have := h63
    simp [maxLen] at this
    omega
  have hrun := run_append_grow (P := P) (w := w) t ty e i z ht hi0 hz0 ad k k xs hR0.1 hc0 bd m cb ys hR.1 hc1 (by omega) h63' (growslice_fits (by omega) hby)
  have hge := grownCap_ge w (k + m) k e
  have hle := grownCap_le_maxLen w (k + m) k e h63
  refine wl_run (v := .slice (some ⟨w.heap.size, 0, none⟩) (k + m) (grownCap w (k + m) k e)) (w' := w.drew.alloc (.cells (xs.toArray ++ ys.toArray ++ Builtin.zeroCells z.cells (grownCap w (k + m) k e - (k + m))) e)) ?_ hd ((h w.heap.size _).to (hw.new ((Fr.refl Nil w).drew.alloc _) ?_ (fun j hj => ?_)))
  · unfold Ru
    intro a _ _ _ _ hs
    simp only [execOp, resolve, List.map_toArray, List.map_cons, List.map_nil, hs.ev hx, hs.ev hy]
    simp only [invoke, builtin, Sem.run_bind, Sem.run_pure, Result.andThen_ok, hrun]
  · have h0 := hR0.1
    have h1 := hR.1
    have h2 : (grownCap w (k + m) k e - (k + m)) * i.size = grownCap w (k + m) k e * i.size - (k + m) * i.size := Nat.sub_mul _ _ _
    have h3 : (k + m) * i.size ≤ grownCap w (k + m) k e * i.size := Nat.mul_le_mul_right _ hge
    have h4 : (k + m) * i.size = k * i.size + m * i.size := Nat.add_mul _ _ _
    refine own_mk (own_close (cur := xs.toArray ++ ys.toArray ++ Builtin.zeroCells z.cells (grownCap w (k + m) k e - (k + m))) (Blk.new w.drew e _) hge hle ?_ ?_ ?_)
    · simp only [Array.size_append, List.size_toArray, Builtin.zeroCells, Array.size_map, Array.size_range, hzs]
      omega
    · simp only [Array.toList_append, List.toList_toArray]
      rw [List.take_left']
      rw [List.length_append]
      omega
    · rw [List.length_append]
      omega
  · rw [own_F] at hj
    exact Nat.le_of_eq (Option.some.inj hj)
/-- Nothing is appended. -/
theorem sl_app_none (hx : ev l x = some (.slice A k c)) (hkc : k ≤ c) (hy : ev l y = some (.slice B 0 cb)) (ht : P.underlying t = some (.slice e)) (hi : (P.info? e).map (fun i => (i.zero, i.size, i.bytes)) = some (some z, size, bytes)) (hd : Nat.blt d n = true)
    (h : SL P ops Q rest n ((d, .slice A k c) :: l) L) : SL P ops Q (⟨some d, .call { callee := .builtin .append, args := #[x, y], argTypes := #[t, t] }, ty, pos, after, none⟩ :: rest) n l L := sl_of fun w hw => by
  obtain ⟨i, hi0, hz0, hz1, hz2⟩ := info_parts hi
  subst hz1 hz2
  have hrun : (Builtin.append_ #[t, t] ty #[.slice A k c, .slice B 0 cb]).run P w = .ok (.slice A k c) w := by
    have h2 : ∀ W : World, (Builtin.firstCells i.size 0 (.slice B 0 cb)).run P W = .ok #[] W := fun W => by
      cases B with
      | none => simp [Builtin.firstCells]
      | some b => simpa using run_firstCells_some (P := P) W i.size 0 b 0 cb [] (by simp) (by simp)
    cases A with
    | none => simp [Builtin.append_, run_underlying ht, sizeOf, typeInfo, hi0, Builtin.lenOf, hkc, h2]
    | some a => simp [Builtin.append_, run_underlying ht, sizeOf, typeInfo, hi0, Builtin.lenOf, hkc, h2, storeCells]
  refine wl_run (v := .slice A k c) (w' := w) ?_ hd (h.to hw)
  unfold Ru
  intro a _ _ _ _ hs
  simp only [execOp, resolve, List.map_toArray, List.map_cons, List.map_nil, hs.ev hx, hs.ev hy]
  simp only [invoke, builtin, Sem.run_bind, Sem.run_pure, Result.andThen_ok, hrun]
end
end Go.Proofs.YtocaabnbmcpjmaaGreatDoor
