/- BucketStarts, BucketChecks: the walks. -/
import Derived.Test.YtdmeofobljjpfaaOb
namespace Go.Proofs.Ytdmeofobljjpfaa
open Go.RowKit Go.MapKept
attribute [local irreducible] Go.Calls Go.Exit.then Go.Exit.inBlock Go.bodyPost Go.Code.wp Go.wpList
attribute [local irreducible] hashL ofId
/-- Small rules' rules. -/
def smR (a b c : Int) : Rl := ⟨1 + a % 12, 1 + b % 4, 1 + b % 4 + c % 6⟩
theorem st_want {w now : Int} (hw : w ≠ 0) : stN w now = now - now % w := by
  unfold stN
  rw [if_neg hw]
  have := Int.mul_ediv_add_emod now w
  have e : now / w * w = w * (now / w) := Int.mul_comm _ _
  omega
theorem st_st {w now : Int} (hw : 0 ≤ w) : stN w (stN w now) = stN w now := by
  by_cases h : w = 0
  · subst h; rfl
  · rw [st_want h (now := stN w now)]
    have : stN w now % w = 0 := by
      unfold stN
      rw [if_neg h]
      exact Int.mul_emod_left _ _
    rw [this]
    omega
theorem Rl.len (r : Rl) : r.c.length = 3 := rfl
theorem rl2 (r q : Rl) : rows Rl.c [r, q] = r.c ++ q.c := by simp [rows]
theorem nth_Gk {φ : Prop} (h : φ := by (first | rfl | rfl)) : φ := h
theorem mid_Gk {φ : Prop} (h : φ := by (first | first | exact boC_mt | exact boC_mr | exact bkC_mid | exact Ta.mid _ | exact tc_mid | exact Mid.all | exact Mid.all | exact Mid.head)) : φ := h
theorem sz_Gk {φ : Prop} (h : φ := by (first | rfl | (rfl; first | done | fail))) : φ := h
theorem one_Gk {φ : Prop} (h : φ := by (first | assumption | exact first | exact Rl.one _ | exact Ta.one _ | exact one_bytes _ | (simp only [List.mem_cons, List.not_mem_nil, or_false, forall_eq_or_imp, forall_eq]; decide) | exact one_bytes _ | (intro v hv; (repeat (rcases List.mem_cons.1 hv with rfl | hv; rfl)); cases hv))) : φ := h
theorem set_Gk {φ : Prop} (h : φ := by (first | (fail) | ((repeat (first | exact SetAt.here | apply SetAt.there)); first | done | fail))) : φ := h
theorem cl_Gk {φ : Prop} (h : φ := by first | rfl | exact .t | exact .f | exact .t (by omega) | exact .f (by omega) | exact .u | exact .i (by (first | exact .t (by omega) | exact .f (by omega) | exact .u | exact .i (by omega) | exact .v (by omega) | exact .b (by omega) | exact .w | rfl | omega)) | exact .v (by omega) | exact .b (by omega) | exact .q (by omega) | exact .w | exact .b (by exact at_) rfl (by exact nth_Gk) | exact .w (by exact at_) rfl rfl (by exact sz_Gk) | exact .s (by exact at_) (by exact mid_Gk) rfl rfl (by exact sz_Gk) | exact .z rfl rfl ⟨by kernel_rfl⟩ | exact .b rfl rfl ⟨by kernel_rfl⟩ | exact .a rfl rfl ⟨by kernel_rfl⟩ | exact .o rfl | exact .s | exact .n | exact .p rfl | exact .q rfl | exact .c rfl | exact .d rfl | exact .n rfl rfl (by omega) | exact .a rfl rfl (by omega) | exact .p rfl rfl (by omega) (by omega) | exact .y rfl rfl (by omega) (by omega) | exact .o (by exact at_) (by omega) rfl (by exact nth_Gk) | exact .m (by exact at_) (by omega) (by exact mid_Gk) rfl rfl (by exact sz_Gk) | exact .mlen (by exact at_) rfl | exact .t (by exact at_) rfl rfl (by first | exact True.intro | rfl) (by assumption) | exact .f (by exact at_) rfl rfl (by first | exact True.intro | rfl) (by assumption) rfl | exact .t1 (by exact at_) rfl rfl (by first | exact True.intro | rfl) (by assumption) | exact .f1 (by exact at_) rfl rfl (by first | exact True.intro | rfl) (by assumption) rfl | exact .r rfl rfl (by omega) (by omega) (by exact nth_Gk) rfl | exact .s rfl (by omega) (by assumption) | exact at_ | assumption | exact .r rfl rfl | exact .h rfl rfl rfl (by omega) | exact .l rfl rfl rfl (by omega) (by omega) | exact .g rfl rfl rfl rfl (by omega) (by omega) | exact .h rfl rfl (toN_ (by omega)) (by omega) | exact .l rfl rfl (toN_ (by omega)) (by omega) (by omega) | exact .g rfl rfl (toN_ (by omega)) (toN_ (by omega)) (by omega) (by omega) | exact .o (by decide) | exact .f (by decide) | exact .n (by omega) (by first | decide | (show _ ≤ ((64 : Nat) : Int); omega)) | (constructor; (repeat (first | exact .t (by omega) | exact .f (by omega) | exact .u | exact .i (by omega) | exact .v (by omega) | exact .b (by omega) | exact .w | rfl | omega)); first | done | fail) | omega | (show _ ≤ ((64 : Nat) : Int); omega)) : φ := h
theorem pv_Gk {φ : Prop} (h : φ := by constructor; (repeat exact cl_Gk); first | done | fail) : φ := h
theorem su_Gk {φ ψ : Prop} (k : ψ) (h : Hide ψ → φ := by (intro k; (first | refine sl_pu (PuI.sep (by exact pv_Gk)) rfl ?_ | refine sl_yes rfl rfl ?_ | refine sl_no rfl rfl rfl ?_ | refine sl_off rfl rfl rfl ?_ | (fail)); exact k.out)) : φ := h ⟨k⟩
theorem rq_Gk {φ ψ : Prop} (k : ψ) (h : Hide ψ → φ := by (intro k; (first | refine wq_pu (PuI.sep (by exact pv_Gk)) rfl ?_ | refine wq_yes rfl rfl ?_ | refine wq_no rfl rfl rfl ?_ | refine wq_off rfl rfl rfl ?_ | (fail)); exact k.out)) : φ := h ⟨k⟩
theorem sto_Gk {φ ψ : Prop} (k : ψ) (h : Hide ψ → φ := by (intro k; (first | refine sl_store rfl (by exact pick_) rfl rfl (by kernel_rfl) (by exact set_Gk) ?_ | refine sl_store_whole rfl (by exact pick_) rfl (by exact sz_Gk) (by exact sz_Gk) (by exact one_Gk) ?_); exact k.out)) : φ := h ⟨k⟩
theorem go_Gk {φ ψ : Prop} (k : ψ) (h : Hide ψ → φ := by (intro k; (repeat (first | refine su_Gk ?_ | refine so_ ?_ | refine sto_Gk ?_)); exact k.out)) : φ := h ⟨k⟩
set_option maxRecDepth 100000 in
theorem smrules_ok {K : List Fa} {a b c : Int} (ha : 0 ≤ a ∧ a ≤ 255) (hb : 0 ≤ b ∧ b ≤ 255) (hc : 0 ≤ c ∧ c ≤ 255) :
    Fn Try.prog 8 #[.agg (sm19C a b c).toArray] K (Ret (fun _ : Unit => True) (fun _ => .agg (smR a b c).c.toArray) (fun _ => K)) := by
  refine fn_enter Try.func8 rfl _ Try.ntmps8 (by simp) [(0, .agg (sm19C a b c).toArray)] (args_of (by simp)) ?_
  refine go_Gk ?_
  refine sl_box rfl rfl rfl ?_; intro g1
  refine go_Gk ?_
  refine sl_alloc rfl rfl rfl ?_; intro g2
  refine go_Gk ?_
  refine sl_pu (pu_build (v := .agg #[.int .u64 (1 + a % 12), .int .i64 (1 + b % 4), .int .i64 0]) rfl (fun W => by kernel_rfl)) rfl ?_
  refine go_Gk ?_
  refine sl_alloc rfl rfl rfl ?_; intro g3
  refine go_Gk ?_
  exact se_ret_c () trivial rfl rfl (by exact at_) rfl rfl rfl rfl (by exact sub_)
set_option maxRecDepth 100000 in
set_option maxHeartbeats 4000000 in
theorem starts_walk {K : List Fa} {r : Rl} {now a b c : Int} (hr : 0 ≤ r.w ∧ r.w ≤ 18446744073709551615) (hn : 0 ≤ now ∧ now ≤ 18446744073709551615) (ha : 0 ≤ a ∧ a ≤ 255) (hb : 0 ≤ b ∧ b ≤ 255) (hc : 0 ≤ c ∧ c ≤ 255) :
    Fn Try.prog 3 #[.agg r.c.toArray, .int .u64 now, .agg (sm19C a b c).toArray] K (Ret (fun _ : Unit => True) (fun _ => .bool true) (fun _ => K)) := by
  refine fn_enter Try.func3 rfl _ Try.ntmps3 (by simp) [(0, .agg r.c.toArray), (1, .int .u64 now), (2, .agg (sm19C a b c).toArray)] (args_of (by simp)) ?_
  refine go_Gk ?_
  refine sl_box rfl rfl rfl ?_; intro g1
  refine go_Gk ?_
  refine sl_box rfl rfl rfl ?_; intro g2
  refine go_Gk ?_
  refine sl_call rfl rfl (by kernel_rfl) rfl (by exact sub_) awake19 ?_; rintro _ -
  refine go_Gk ?_
  obtain ⟨q, hq⟩ : ∃ q, smR a b c = q := ⟨_, rfl⟩
  have hqw : 0 ≤ q.w ∧ q.w ≤ 18446744073709551615 := by rw [← hq]; show 0 ≤ 1 + a % 12 ∧ 1 + a % 12 ≤ 18446744073709551615; omega
  refine sd_drawn (fun W => AllP W [blk g1 24 r.c, blk g2 26 (sm19C a b c)]) (fun _ => true) (by kernel_rfl) 6 rfl ?_
  refine sd_yes2 0 rfl (by exact gd_) (by kernel_rfl) (by kernel_rfl) (by exact nop_) (PuI.all (by exact pv_Gk)) rfl (fun w hw => all_ hw) ?_
  refine sd_yes2 1 rfl (by exact gd_) (by kernel_rfl) (by kernel_rfl) (by exact nop_) (PuI.all (by exact pv_Gk)) rfl (fun w hw => all_ hw) ?_
  refine sd_yes2 5 rfl (by exact gd_) (by kernel_rfl) (by kernel_rfl) (by exact nop_) (PuI.all (by exact pv_Gk)) rfl (fun w hw => all_ hw) ?_
  refine sd_one 2 (by kernel_rfl) (sa_sl 2 rfl ?_)
  refine sl_call rfl rfl (by kernel_rfl) rfl (by exact sub_) (smrules_ok ha hb hc) ?_
  rintro _ -
  rw [hq]
  refine sl_nil ?_
  refine se_sd (fun _ w hw => all_ hw) ?_
  refine sd_one 3 (by kernel_rfl) (sa_sl 3 rfl ?_)
  refine sl_build (size := 3) (e := 24) (cells := rows Rl.c [r, q]) rfl (fun W => by rw [rl2]; kernel_rfl) rfl (by decide) rfl ?_
  intro gb
  refine sl_nil ?_
  refine se_sd (fun _ w hw => all_ hw) ?_
  refine sd_yes2 4 rfl (by exact gd_) (by kernel_rfl) (by kernel_rfl) (by exact nop_) (PuI.all (by exact pv_Gk)) rfl (fun w hw => all_ hw) ?_
  refine sd_done (by kernel_rfl) ?_
  refine go_Gk ?_
  refine sc_for (fun j : Nat => [(1, .int .u64 now), (15, .slice (some ⟨gb, 0, none⟩) 2 2), (16, .int .i64 2), (17, .int .i64 j)]) (fun _ => own 24 3 (some ⟨gb, 0, none⟩) 2 2 (rows Rl.c [r, q]) :: K) (fun j => j ≤ 2) (fun j => 2 - j) 0 (by exact has_) (by exact sub_) (by omega) ?_
  intro j hj
  by_cases hlt : j < 2
  case neg =>
    obtain rfl : j = 2 := by omega
    refine go_Gk ?_
    exact se_ret1 () trivial rfl rfl (by exact sub_)
  obtain ⟨x, hx, hxw⟩ : ∃ x, [r, q][j]? = some x ∧ 0 ≤ x.w ∧ x.w ≤ 18446744073709551615 := by
    rcases (show j = 0 ∨ j = 1 by omega) with rfl | rfl
    · exact ⟨r, rfl, hr⟩
    · exact ⟨q, rfl, hqw⟩
  have hs := stN_le hxw.1 hn.1
  have hss := st_st hxw.1 (now := now)
  have hre : Vw (own 24 3 (some ⟨gb, 0, none⟩) 2 2 (rows Rl.c [r, q]) :: K) (fun w => Reads w 3 (some ⟨gb, 0, none⟩) 2 (rows Rl.c [r, q])) := Vw.of_own (e := 24) (c := 2) .here
  by_cases h0 : x.w = 0
  · have e : stN x.w now = now := by unfold stN; rw [if_pos h0]
    rw [e] at hss
    refine go_Gk ?_
    refine sl_pu (pu_ldrs hre (by omega) rfl (rows_mid Rl.len hx) rfl rfl rfl) rfl ?_
    refine sl_alloc rfl rfl rfl ?_; intro g3
    refine go_Gk ?_
    refine sl_call rfl rfl (by kernel_rfl) rfl (by exact sub_) (start_ok hxw.1 hn) ?_; rintro _ -
    rw [e]
    refine go_Gk ?_
    refine sl_call rfl rfl (by kernel_rfl) rfl (by exact sub_) (start_ok hxw.1 hn) ?_; rintro _ -
    rw [e]
    refine go_Gk ?_
    exact se_round (j + 1) (by exact has_) (by exact sub_) (by omega) (by omega)
  · have hm : 0 ≤ now % x.w ∧ now % x.w ≤ now := ⟨Int.emod_nonneg _ h0, by have := st_want h0 (now := now); omega⟩
    have e := st_want h0 (now := now)
    refine go_Gk ?_
    refine sl_pu (pu_ldrs hre (by omega) rfl (rows_mid Rl.len hx) rfl rfl rfl) rfl ?_
    refine sl_alloc rfl rfl rfl ?_; intro g3
    refine go_Gk ?_
    refine sl_call rfl rfl (by kernel_rfl) rfl (by exact sub_) (start_ok hxw.1 hn) ?_; rintro _ -
    rw [← e]
    refine go_Gk ?_
    refine sl_call rfl rfl (by kernel_rfl) rfl (by exact sub_) (start_ok (now := stN x.w now) hxw.1 (by omega)) ?_; rintro _ -
    rw [hss]
    refine go_Gk ?_
    exact se_round (j + 1) (by exact has_) (by exact sub_) (by omega) (by omega)
theorem Ta.len (t : Ta) : t.c.length = 8 := rfl
theorem ta2 (r q : Ta) : rows Ta.c [r, q] = r.c ++ q.c := by simp [rows]
set_option maxRecDepth 100000 in
set_option maxHeartbeats 8000000 in
theorem checks_walk {K : List Fa} {r : Rl} {t : Ta} {s : Sk} :
    Fn Try.prog 4 #[.agg r.c.toArray, .agg t.c.toArray, .agg s.cells.toArray] K (Ret (fun _ : Unit => True) (fun _ => .bool true) (fun _ => K)) := by
  refine fn_enter Try.func4 rfl _ Try.ntmps4 (by simp) [(0, .agg r.c.toArray), (1, .agg t.c.toArray), (2, .agg s.cells.toArray)] (args_of (by simp)) ?_
  refine go_Gk ?_
  refine sl_box rfl rfl rfl ?_; intro g1
  refine go_Gk ?_
  refine sl_box rfl rfl rfl ?_; intro g2
  refine go_Gk ?_
  refine sl_box rfl rfl rfl ?_; intro g3
  refine go_Gk ?_
  refine sl_call rfl rfl (by kernel_rfl) rfl (by exact sub_) awake19 ?_; rintro _ -
  refine go_Gk ?_
  refine sd_drawn (fun W => AllP W [blk g2 37 t.c, blk g3 41 s.cells]) (fun _ => true) (by kernel_rfl) 6 rfl ?_
  refine sd_yes2 0 rfl (by exact gd_) (by kernel_rfl) (by kernel_rfl) (by exact nop_) (PuI.all (by exact pv_Gk)) rfl (fun w hw => all_ hw) ?_
  refine sd_yes2 1 rfl (by exact gd_) (by kernel_rfl) (by kernel_rfl) (by exact nop_) (PuI.all (by exact pv_Gk)) rfl (fun w hw => all_ hw) ?_
  refine sd_yes2 5 rfl (by exact gd_) (by kernel_rfl) (by kernel_rfl) (by exact nop_) (PuI.all (by exact pv_Gk)) rfl (fun w hw => all_ hw) ?_
  refine sd_one 2 (by kernel_rfl) (sa_sl 2 rfl ?_)
  refine sl_call rfl rfl (by kernel_rfl) rfl (by exact sub_) (stask_ok s) ?_
  rintro _ -
  rw [← Sk.ta_c]
  refine sl_nil ?_
  refine se_sd (fun _ w hw => all_ hw) ?_
  refine sd_one 3 (by kernel_rfl) (sa_sl 3 rfl ?_)
  refine sl_build (size := 8) (e := 37) (cells := rows Ta.c [t, s.ta]) rfl (fun W => by rw [ta2]; kernel_rfl) rfl (by decide) rfl ?_
  intro gb
  refine sl_nil ?_
  refine se_sd (fun _ w hw => all_ hw) ?_
  refine sd_yes2 4 rfl (by exact gd_) (by kernel_rfl) (by kernel_rfl) (by exact nop_) (PuI.all (by exact pv_Gk)) rfl (fun w hw => all_ hw) ?_
  refine sd_done (by kernel_rfl) ?_
  generalize s.ta = q
  refine go_Gk ?_
  refine sc_for (fun j : Nat => [(3, .pointer (some ⟨g1, 0, none⟩)), (17, .slice (some ⟨gb, 0, none⟩) 2 2), (18, .int .i64 2), (19, .int .i64 j)]) (fun _ => own 37 8 (some ⟨gb, 0, none⟩) 2 2 (rows Ta.c [t, q]) :: blk g1 24 r.c :: K) (fun j => j ≤ 2) (fun j => 2 - j) 0 (by exact has_) (by exact sub_) (by omega) ?_
  intro j hj
  by_cases hlt : j < 2
  case neg =>
    obtain rfl : j = 2 := by omega
    refine go_Gk ?_
    exact se_ret1 () trivial rfl rfl (by exact sub_)
  obtain ⟨x, hx⟩ : ∃ x, [t, q][j]? = some x := by
    rcases (show j = 0 ∨ j = 1 by omega) with rfl | rfl
    · exact ⟨t, rfl⟩
    · exact ⟨q, rfl⟩
  have hre : Vw (own 37 8 (some ⟨gb, 0, none⟩) 2 2 (rows Ta.c [t, q]) :: blk g1 24 r.c :: K) (fun w => Reads w 8 (some ⟨gb, 0, none⟩) 2 (rows Ta.c [t, q])) := Vw.of_own (e := 37) (c := 2) .here
  refine go_Gk ?_
  refine sl_pu (pu_ldrs hre (by omega) rfl (rows_mid Ta.len hx) rfl rfl rfl) rfl ?_
  refine sl_alloc rfl rfl rfl ?_; intro g4
  refine go_Gk ?_
  refine sl_call rfl rfl (by kernel_rfl) rfl (by exact sub_) (tcheck_ok x.kd x.fl x.bt x.ln x.wt x.ch x.np x.tag) ?_; rintro _ -
  rw [show tErr x.kd x.fl x.bt x.ln x.wt x.ch x.np x.tag = x.err from rfl]
  by_cases he : x.err = 0
  case neg =>
    have hr : rErr r x = x.err := by unfold rErr; rw [if_pos he]
    have hr0 : rErr r x ≠ 0 := by rw [hr]; exact he
    refine go_Gk ?_
    refine sl_call rfl rfl (by kernel_rfl) rfl (by exact sub_) (bnew_no hr0) ?_; rintro _ -
    rw [hr]
    refine go_Gk ?_
    refine sl_call rfl rfl (by kernel_rfl) rfl (by exact sub_) rcheck_ok ?_; rintro _ -
    rw [hr]
    refine go_Gk ?_
    exact se_round (j + 1) (by exact has_) (by exact sub_) (by omega) (by omega)
  rw [he]
  have hre : rErr r x = if r.w < 1 ∨ 1099511627776 < r.w then 6 else if r.mn < 1 ∨ r.mx < r.mn ∨ 256 < r.mx then 6 else 0 := by unfold rErr; rw [if_neg (by simp [he])]
  by_cases hc : (r.w < 1 ∨ 1099511627776 < r.w) ∨ r.mn < 1 ∨ r.mx < r.mn ∨ 256 < r.mx
  · have hr : rErr r x = 6 := by
      rw [hre]
      by_cases h1 : r.w < 1 ∨ 1099511627776 < r.w
      · rw [if_pos h1]
      · rw [if_neg h1, if_pos (hc.resolve_left h1)]
    have hr0 : rErr r x ≠ 0 := by rw [hr]; decide
    clear hre
    have hc' : r.w < 1 ∨ (¬ r.w < 1 ∧ 1099511627776 < r.w) ∨ (¬ r.w < 1 ∧ ¬ 1099511627776 < r.w ∧ r.mn < 1) ∨ (¬ r.w < 1 ∧ ¬ 1099511627776 < r.w ∧ ¬ r.mn < 1 ∧ r.mx < r.mn) ∨ (¬ r.w < 1 ∧ ¬ 1099511627776 < r.w ∧ ¬ r.mn < 1 ∧ ¬ r.mx < r.mn ∧ 256 < r.mx) := by omega
    clear hc
    rcases hc' with h1 | ⟨h1, h2⟩ | ⟨h1, h2, h3⟩ | ⟨h1, h2, h3, h4⟩ | ⟨h1, h2, h3, h4, h5⟩
    all_goals
      refine go_Gk ?_
      refine sl_call rfl rfl (by kernel_rfl) rfl (by exact sub_) (bnew_no hr0) ?_; rintro _ -
      rw [hr]
      refine go_Gk ?_
      refine sl_call rfl rfl (by kernel_rfl) rfl (by exact sub_) rcheck_ok ?_; rintro _ -
      rw [hr]
      refine go_Gk ?_
      exact se_round (j + 1) (by exact has_) (by exact sub_) (by omega) (by omega)
  · have hr : rErr r x = 0 := by rw [hre, if_neg (fun h => hc (.inl h)), if_neg (fun h => hc (.inr h))]
    clear hre
    refine go_Gk ?_
    refine sl_call rfl rfl (by kernel_rfl) rfl (by exact sub_) (bnew_ok hr) ?_; rintro ⟨g5, m5⟩ -
    refine go_Gk ?_
    refine sl_call rfl rfl (by kernel_rfl) rfl (by exact sub_) rcheck_ok ?_; rintro _ -
    rw [hr]
    refine go_Gk ?_
    exact se_round (j + 1) (by exact has_) (by exact sub_) (by omega) (by omega)
theorem Starts_v (v0 v2 : Value) (now : Int) (W : World) (o0 : RulesV W v0) (b1 : 0 ≤ now ∧ now ≤ 18446744073709551615) (o2 : Sm19V W v2) : Calls Try.prog 3 #[v0, .int .u64 now, v2] W fun e w' => e = .returned (.bool true) ∧ Fr Nil W w' := by
  obtain ⟨r, rfl, hr⟩ := o0
  obtain ⟨a, b, c, rfl, ha, hb, hc⟩ := o2
  exact (starts_walk hr b1 ha hb hc).top
theorem Checks_v (v0 v1 v2 : Value) (W : World) (o0 : RulesV W v0) (o1 : TaskV W v1) (o2 : SkV W v2) : Calls Try.prog 4 #[v0, v1, v2] W fun e w' => e = .returned (.bool true) ∧ Fr Nil W w' := by
  obtain ⟨r, rfl, hr⟩ := o0
  obtain ⟨t, rfl⟩ := o1
  obtain ⟨s, rfl⟩ := o2
  exact checks_walk.top
end Go.Proofs.Ytdmeofobljjpfaa
