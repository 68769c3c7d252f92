/- Several texts of one claim, one behind the other (Skw). -/
import Derived.Test.YtocaabnbmcpjmaaGreatB24
set_option linter.unusedVariables false
set_option linter.unusedSimpArgs false
/- StoreNone: nil stores, and rules that are no rules. -/
namespace Go.Proofs.YtocaabnbmcpjmaaGreat
open Go.RowKit Go.MapKept
attribute [local irreducible] Go.Calls Go.Exit.then Go.Exit.inBlock Go.bodyPost Go.Code.wp Go.wpList takeL recordL hashL recL allL decR
theorem nth_Skw {φ : Prop} (h : φ := by (first | rfl | first | rfl | exact rpC_n16 | exact rpC_n17 | exact rpC_n18 | exact stC9_n9)) : φ := h
theorem mid_Skw {φ : Prop} (h : φ := by (first | first | exact rpC_id | exact stC9_mid | exact stC9_ci | exact Mid.all | exact Mid.all | exact Mid.head)) : φ := h
theorem sz_Skw {φ : Prop} (h : φ := by (first | rfl | ((try simp only [rpZ, rpC_len, bkC_len tc_len, tc_len, bytes_length, Id.len, Seen.len]); (first | done | rfl); first | done | fail))) : φ := h
theorem one_Skw {φ : Prop} (h : φ := by (first | assumption | exact first | exact one_bytes _ | exact rpC_one rfl rfl | exact Ta.one _ | exact Rl.one _ | exact Seen.one _ | exact bkC_one tc_one | exact tc_one | (simp only [List.mem_cons, List.not_mem_nil, or_false, forall_eq_or_imp, forall_eq]; decide) | exact one_bytes _ | (intro v hv; (repeat (rcases List.mem_cons.1 hv with rfl | hv; rfl)); cases hv))) : φ := h
theorem set_Skw {φ : Prop} (h : φ := by (first | (first | exact rpC_set16 | exact rpC_set17 | exact rpC_set18) | ((repeat (first | exact SetAt.here | apply SetAt.there)); first | done | fail))) : φ := h
theorem cl_Skw {φ : Prop} (h : φ := by first | rfl | exact .t | exact .f | exact .t (by omega) | exact .f (by omega) | exact .u | exact .i (by (first | exact .t (by omega) | exact .f (by omega) | exact .u | exact .i (by omega) | exact .v (by omega) | exact .b (by omega) | exact .w | rfl | omega)) | exact .v (by omega) | exact .b (by omega) | exact .q (by omega) | exact .w | exact .b (by exact at_) rfl (by exact nth_Skw) | exact .w (by exact at_) rfl rfl (by exact sz_Skw) | exact .s (by exact at_) (by exact mid_Skw) rfl rfl (by exact sz_Skw) | exact .z rfl rfl ⟨by kernel_rfl⟩ | exact .b rfl rfl ⟨by kernel_rfl⟩ | exact .a rfl rfl ⟨by kernel_rfl⟩ | exact .o rfl | exact .s | exact .n | exact .p rfl | exact .q rfl | exact .c rfl | exact .d rfl | exact .n rfl rfl (by omega) | exact .a rfl rfl (by omega) | exact .p rfl rfl (by omega) (by omega) | exact .y rfl rfl (by omega) (by omega) | exact .o (by exact at_) (by omega) rfl (by exact nth_Skw) | exact .m (by exact at_) (by omega) (by exact mid_Skw) rfl rfl (by exact sz_Skw) | exact .mlen (by exact at_) rfl | exact .t (by exact at_) rfl rfl (by first | exact True.intro | rfl) (by assumption) | exact .f (by exact at_) rfl rfl (by first | exact True.intro | rfl) (by assumption) rfl | exact .t1 (by exact at_) rfl rfl (by first | exact True.intro | rfl) (by assumption) | exact .f1 (by exact at_) rfl rfl (by first | exact True.intro | rfl) (by assumption) rfl | exact .tk (by exact at_) rfl (by assumption) (by assumption) | exact .fk (by exact at_) rfl (by assumption) (by assumption) rfl | exact .tk1 (by exact at_) rfl (by assumption) (by assumption) | exact .fk1 (by exact at_) rfl (by assumption) (by assumption) rfl | exact .r rfl rfl (by omega) (by omega) (by exact nth_Skw) rfl | exact .s rfl (by omega) (by assumption) | exact at_ | assumption | exact .r rfl rfl | exact .h rfl rfl rfl (by omega) | exact .l rfl rfl rfl (by omega) (by omega) | exact .g rfl rfl rfl rfl (by omega) (by omega) | exact .h rfl rfl (toN_ (by omega)) (by omega) | exact .l rfl rfl (toN_ (by omega)) (by omega) (by omega) | exact .g rfl rfl (toN_ (by omega)) (toN_ (by omega)) (by omega) (by omega) | exact .o (by decide) | exact .f (by decide) | exact .n (by omega) (by first | decide | (show _ ≤ ((64 : Nat) : Int); omega)) | (constructor; (repeat (first | exact .t (by omega) | exact .f (by omega) | exact .u | exact .i (by omega) | exact .v (by omega) | exact .b (by omega) | exact .w | rfl | omega)); first | done | fail) | omega | (show _ ≤ ((64 : Nat) : Int); omega)) : φ := h
theorem pv_Skw {φ : Prop} (h : φ := by constructor; (repeat exact cl_Skw); first | done | fail) : φ := h
theorem su_Skw {φ ψ : Prop} (k : ψ) (h : Hide ψ → φ := by (intro k; (first | refine sl_pu (PuI.sep (by exact pv_Skw)) rfl ?_ | refine sl_yes rfl rfl ?_ | refine sl_no rfl rfl rfl ?_ | refine sl_off rfl rfl rfl ?_ | (fail)); exact k.out)) : φ := h ⟨k⟩
theorem sto_Skw {φ ψ : Prop} (k : ψ) (h : Hide ψ → φ := by (intro k; (first | refine sl_store rfl (by exact pick_) rfl rfl (by kernel_rfl) (by exact set_Skw) ?_ | refine sl_store_whole rfl (by exact pick_) rfl (by exact sz_Skw) (by exact sz_Skw) (by exact one_Skw) ?_); exact k.out)) : φ := h ⟨k⟩
theorem go_Skw {φ ψ : Prop} (k : ψ) (h : Hide ψ → φ := by (intro k; (repeat (first | refine su_Skw ?_ | refine so_ ?_ | refine sto_Skw ?_)); exact k.out)) : φ := h ⟨k⟩
set_option maxRecDepth 100000 in
set_option maxHeartbeats 2000000 in
theorem open_bad {K : List Fa} {t : Ta} {r : Rl} {d : Value} {limit : Int} (h : rErr r t ≠ 0) :
    Fn Tryz.prog 9 #[d, .agg t.c.toArray, .agg r.c.toArray, .int .i64 limit] K (Ret (fun _ : Unit => True) (fun _ => .tuple #[.pointer none, .int .i64 (rErr r t)]) (fun _ => K)) := by
  refine fn_enter Tryz.func9 rfl _ Tryz.ntmps9 (by simp) [(0, d), (1, .agg t.c.toArray), (2, .agg r.c.toArray), (3, .int .i64 limit)] (args_of (by simp)) ?_
  refine go_Skw ?_
  refine sl_box rfl rfl rfl ?_; intro g5
  refine go_Skw ?_
  refine sl_box rfl rfl rfl ?_; intro g6
  refine go_Skw ?_
  refine sl_call rfl rfl (by kernel_rfl) rfl Sub.refl (bnew_no h) ?_
  rintro _ -
  generalize rErr r t = e at h ⊢
  refine go_Skw ?_
  exact se_ret2 () trivial rfl rfl rfl rfl (by exact sub_)
set_option maxRecDepth 100000 in
set_option maxHeartbeats 2000000 in
theorem open_nilS {K : List Fa} {t : Ta} {r : Rl} {limit : Int} (h : rErr r t = 0) :
    Fn Tryz.prog 9 #[.pointer none, .agg t.c.toArray, .agg r.c.toArray, .int .i64 limit] K (Ret (fun _ : Unit => True) (fun _ => .tuple #[.pointer none, .int .i64 1]) (fun _ => K)) := by
  refine fn_enter Tryz.func9 rfl _ Tryz.ntmps9 (by simp) [(0, .pointer none), (1, .agg t.c.toArray), (2, .agg r.c.toArray), (3, .int .i64 limit)] (args_of (by simp)) ?_
  refine go_Skw ?_
  refine sl_box rfl rfl rfl ?_; intro g5
  refine go_Skw ?_
  refine sl_box rfl rfl rfl ?_; intro g6
  refine go_Skw ?_
  refine sl_call rfl rfl (by kernel_rfl) rfl Sub.refl (bnew_ok h) ?_
  rintro ⟨gb, mb⟩ -
  dsimp only
  refine go_Skw ?_
  refine sl_call rfl rfl (by kernel_rfl) rfl Sub.refl open_nilJ ?_
  rintro _ -
  refine go_Skw ?_
  exact se_ret2 () trivial rfl rfl rfl rfl (by exact sub_)
theorem open_any {K : List Fa} {gd md : Nat} {t : Ta} {r : Rl} : Fn Tryz.prog 9 #[.pointer (some ⟨gd, 0, none⟩), .agg t.c.toArray, .agg r.c.toArray, .int .i64 5] (dB gd md 1000 :: dM md [] 0 :: dS [] :: K)
    (Ret (fun _ : Option Addr => True) (fun a => .tuple #[.pointer a, .int .i64 (rErr r t)]) (fun _ => K)) := by
  by_cases h : rErr r t = 0
  · have h1 := open_ok (t := t) (r := r) (gd := gd) (md := md) (limd := 1000) (K0 := K) (σ := 0) (ls := []) (Ev := fun _ => False) (I := iN) (Kp := KpN) (limit := 5) h (by decide) (by decide) (by decide) jopen_new
      (fun p hp => ⟨.inl ⟨rfl, hp.2.1, hp.2.2, rfl⟩, by rw [hp.1]; rfl, fun h => absurd hp.1 h⟩)
      (fun p g q _ h1 h2 h3 h4 h5 h6 => ⟨h1, h2, h3, h4, h5, h6⟩)
      (fun p g j x q K' hp hx => by rw [hp.1] at hx; cases hx)
      (fun p g q h => ⟨h.1, by rw [h.2.2.2.2.2]; decide, by rw [h.2.2.2.2.2]; decide⟩)
    refine h1.say fun z w hz hw => ?_
    rcases z with p | x
    · exact hz.2.elim
    · refine ⟨some ⟨x.g, 0, none⟩, trivial, by rw [h]; rfl, ?_⟩
      have hw2 : Sep w (sF x.g t r (min (max 5 0) 256) x.q (jC x.q.gj gd sj (cellsA ([] ++ [5 :: rcLife x.q.life])) :: dB gd md 1000 :: dM md [x.f] x.ck :: dS [x.f] :: K)) := hw
      exact hw2.sub (by exact sub_)
  · refine (Fn.sub (open_bad (K := dB gd md 1000 :: dM md [] 0 :: dS [] :: K) h) Sub.refl).say fun _ w _ hw => ⟨none, trivial, rfl, hw.sub (by exact sub_)⟩
set_option maxRecDepth 100000 in
set_option maxHeartbeats 16000000 in
theorem snone_walk {K : List Fa} {t : Ta} {r : Rl} {id : Id} {n e : Int} (hn : 0 ≤ n ∧ n ≤ 18446744073709551615) :
    Fn Tryz.prog 4 #[.agg t.c.toArray, .agg r.c.toArray, id.v, .int .u64 n, .int .i64 e] K (Ret (fun _ : Unit => True) (fun _ => .bool true) (fun _ => K)) := by
  refine fn_enter Tryz.func4 rfl _ Tryz.ntmps4 (by simp) [(0, .agg t.c.toArray), (1, .agg r.c.toArray), (2, id.v), (3, .int .u64 n), (4, .int .i64 e)] (args_of (by simp)) ?_
  refine go_Skw ?_
  refine sl_box rfl rfl rfl ?_; intro g5
  refine sl_box rfl rfl rfl ?_; intro g6
  refine sl_box rfl rfl rfl ?_; intro g7
  refine go_Skw ?_
  refine sl_call rfl rfl (by kernel_rfl) rfl (by exact sub_) awake21 ?_; rintro _ -
  refine go_Skw ?_
  refine sl_pu (pu_build (v := .agg sk0.cells.toArray) rfl (fun W => by kernel_rfl)) rfl ?_
  refine go_Skw ?_
  refine sl_call rfl rfl (by kernel_rfl) rfl Sub.refl (stask_ok sk0) ?_
  rintro _ -
  rw [sk0_tc]
  refine go_Skw ?_
  refine sl_alloc rfl rfl rfl ?_; intro g11
  refine go_Skw ?_
  refine sl_pu (pu_build (v := .agg (Rl.c ⟨1, 1, 1⟩).toArray) rfl (fun W => by kernel_rfl)) rfl ?_
  refine go_Skw ?_
  refine sl_call rfl rfl (by kernel_rfl) rfl Sub.refl (open_nilS (t := ta0) (r := ⟨1, 1, 1⟩) (limit := 5) (ta0_err (by decide) (by decide))) ?_
  rintro _ -
  refine go_Skw ?_
  obtain ⟨ea, hea⟩ : ∃ ea, ea = rErr r t := ⟨_, rfl⟩
  refine sc_join (α := Option Addr) (fun a => [(4, .int .i64 e), (3, .int .u64 n), (5, .pointer (some ⟨g5, 0, none⟩)), (6, .pointer (some ⟨g6, 0, none⟩)), (7, .pointer (some ⟨g7, 0, none⟩)), (13, .int .i64 1), (15, .int .i64 (rErr r t))]) (fun _ => blk g5 34 t.c :: blk g6 38 r.c :: blk g7 47 (bytes id.l) :: K) (fun _ => True) ?_ ?_
  · refine sd_drawn (fun W => AllP W [blk g5 34 t.c, blk g6 38 r.c]) (fun _ => true) (by kernel_rfl) 9 rfl ?_
    refine sd_yes2 1 rfl (by exact gd_) (by kernel_rfl) (by kernel_rfl) (by exact nop_) (PuI.all (by exact pv_Skw)) rfl (fun w hw => all_ hw) ?_
    refine sd_yes2 2 rfl (by exact gd_) (by kernel_rfl) (by kernel_rfl) (by exact nop_) (PuI.all (by exact pv_Skw)) rfl (fun w hw => all_ hw) ?_
    refine sd_one 0 (by kernel_rfl) (sa_sl 0 rfl ?_)
    refine sl_call rfl rfl (by kernel_rfl) rfl Sub.refl newD_ok ?_
    rintro ⟨gd, md⟩ -
    dsimp only
    rw [show limL 1000 = 1000 by rfl]
    refine sl_nil ?_
    refine se_sd (fun _ w hw => all_ hw) ?_
    refine sd_one 3 (by kernel_rfl) (sa_sl 3 rfl ?_)
    refine sl_call rfl rfl (by kernel_rfl) rfl (by exact sub_) (open_any (t := t) (r := r) (K := blk g5 34 t.c :: blk g6 38 r.c :: blk g7 47 (bytes id.l) :: K)) ?_
    rintro ad -
    refine sl_nil ?_
    refine se_sd (fun _ w hw => all_ hw) ?_
    refine sd_yes2 4 rfl (by exact gd_) (by kernel_rfl) (by kernel_rfl) (by exact nop_) (PuI.all (by exact pv_Skw)) rfl (fun w hw => all_ hw) ?_
    refine sd_yes2 5 rfl (by exact gd_) (by kernel_rfl) (by kernel_rfl) (by exact nop_) (PuI.all (by exact pv_Skw)) rfl (fun w hw => all_ hw) ?_
    refine sd_yes2 6 rfl (by exact gd_) (by kernel_rfl) (by kernel_rfl) (by exact nop_) (PuI.all (by exact pv_Skw)) rfl (fun w hw => all_ hw) ?_
    refine sd_yes2 7 rfl (by exact gd_) (by kernel_rfl) (by kernel_rfl) (by exact nop_) (PuI.all (by exact pv_Skw)) rfl (fun w hw => all_ hw) ?_
    refine sd_yes2 8 rfl (by exact gd_) (by kernel_rfl) (by kernel_rfl) (by exact nop_) (PuI.all (by exact pv_Skw)) rfl (fun w hw => all_ hw) ?_
    refine sd_done (by kernel_rfl) ?_
    exact se_mid ad (by exact has_) (by exact sub_) trivial
  rintro ad -
  refine go_Skw ?_
  refine sl_call rfl rfl (by kernel_rfl) rfl (by exact sub_) sClose_nil ?_; rintro _ -
  refine go_Skw ?_
  refine sl_alloc rfl rfl rfl ?_; intro g17
  refine go_Skw ?_
  refine sl_call rfl rfl (by kernel_rfl) rfl (by exact sub_) sSeen_nil ?_; rintro _ -
  refine go_Skw ?_
  refine sl_alloc rfl rfl rfl ?_; intro g19
  refine go_Skw ?_
  refine sl_call rfl rfl (by kernel_rfl) rfl (by exact sub_) sSaid_nil ?_; rintro _ -
  refine go_Skw ?_
  refine sl_call rfl rfl (by kernel_rfl) rfl (by exact sub_) sWaits_nil ?_; rintro _ -
  refine go_Skw ?_
  refine sl_alloc rfl rfl rfl ?_; intro g23
  refine go_Skw ?_
  refine sl_call rfl rfl (by kernel_rfl) rfl (by exact sub_) sWindow_nil ?_; rintro _ -
  refine go_Skw ?_
  refine sl_alloc rfl rfl rfl ?_; intro g25
  refine go_Skw ?_
  refine sl_call rfl rfl (by kernel_rfl) rfl (by exact sub_) sLife_nil ?_; rintro _ -
  refine go_Skw ?_
  refine sl_call rfl rfl (by kernel_rfl) rfl (by exact sub_) rcheck_ok ?_; rintro _ -
  rw [← hea]
  refine go_Skw ?_
  refine sl_pu (pu_build (v := .agg rpZ.toArray) rfl (fun W => by kernel_rfl)) rfl ?_
  refine go_Skw ?_
  refine sl_call rfl rfl (by kernel_rfl) rfl (by exact sub_) sAccept_nil ?_; rintro _ -
  refine go_Skw ?_
  refine sl_call rfl rfl (by kernel_rfl) rfl (by exact sub_) sCommit_nil ?_; rintro _ -
  refine go_Skw ?_
  refine sl_call rfl rfl (by kernel_rfl) rfl (by exact sub_) sReject_nil ?_; rintro _ -
  refine go_Skw ?_
  refine sl_call rfl rfl (by kernel_rfl) rfl (by exact sub_) sRefuse_nil ?_; rintro _ -
  refine go_Skw ?_
  refine sl_call rfl rfl (by kernel_rfl) rfl (by exact sub_) sSync_nil ?_; rintro _ -
  refine go_Skw ?_
  refine sl_call rfl rfl (by kernel_rfl) rfl (by exact sub_) sWaiting_nil ?_; rintro _ -
  refine go_Skw ?_
  refine sl_call rfl rfl (by kernel_rfl) rfl (by exact sub_) sAll_nil ?_; rintro _ -
  refine go_Skw ?_
  refine sl_call rfl rfl (by kernel_rfl) rfl (by exact sub_) sBook_nil ?_; rintro _ -
  refine go_Skw ?_
  refine sl_call rfl rfl (by kernel_rfl) rfl (by exact sub_) sRules_nil ?_; rintro _ -
  refine go_Skw ?_
  refine sl_pu (pu_build (v := .agg (Rl.c ⟨0, 0, 0⟩).toArray) rfl (fun W => by kernel_rfl)) rfl ?_
  refine sl_yes rfl rfl ?_
  refine sl_pu (pu_eqr rfl rfl) rfl ?_
  refine go_Skw ?_
  exact se_ret1 () trivial rfl rfl (by exact sub_)
theorem SNone_v (v0 v1 v2 : Value) (n e : Int) (W : World) (o0 : TaskV W v0) (o1 : RulesV W v1) (o2 : IdW W v2) (b3 : 0 ≤ n ∧ n ≤ 18446744073709551615) : Calls Tryz.prog 4 #[v0, v1, v2, .int .u64 n, .int .i64 e] W fun e w' => e = .returned (.bool true) ∧ Fr Nil W w' := by
  obtain ⟨t, rfl⟩ := o0
  obtain ⟨r, rfl, hr⟩ := o1
  obtain ⟨id, rfl⟩ := o2
  exact (snone_walk b3).top
end Go.Proofs.YtocaabnbmcpjmaaGreat
