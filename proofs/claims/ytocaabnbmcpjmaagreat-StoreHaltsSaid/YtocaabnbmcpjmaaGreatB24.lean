/- Several texts of one claim, one behind the other (Sqb). -/
import Derived.Test.YtocaabnbmcpjmaaGreatB23
set_option linter.unusedVariables false
set_option linter.unusedSimpArgs false
/- Package store: Sync, Open over a file of any bytes, at which no record is a commit's. -/
namespace Go.Proofs.YtocaabnbmcpjmaaGreat
open Go.RowKit Go.MapKept
attribute [local irreducible] Go.Calls Go.Exit.then Go.Exit.inBlock Go.bodyPost Go.Code.wp Go.wpList takeL recordL hashL recL allL decR
theorem nth_Sqb {φ : Prop} (h : φ := by (first | rfl | first | rfl | exact stC9_n9)) : φ := h
theorem mid_Sqb {φ : Prop} (h : φ := by (first | first | exact stC9_mid | exact stC9_ci | exact Mid.all | exact Mid.all | exact Mid.head)) : φ := h
theorem sz_Sqb {φ : Prop} (h : φ := by (first | rfl | ((first | done | rfl); first | done | fail))) : φ := h
theorem one_Sqb {φ : Prop} (h : φ := by (first | assumption | exact first | exact one_bytes _ | exact Ta.one _ | exact Rl.one _ | (simp only [List.mem_cons, List.not_mem_nil, or_false, forall_eq_or_imp, forall_eq]; decide) | exact one_bytes _ | (intro v hv; (repeat (rcases List.mem_cons.1 hv with rfl | hv; rfl)); cases hv))) : φ := h
theorem set_Sqb {φ : Prop} (h : φ := by (first | (exact stC9_set) | ((repeat (first | exact SetAt.here | apply SetAt.there)); first | done | fail))) : φ := h
theorem cl_Sqb {φ : Prop} (h : φ := by first | rfl | exact .t | exact .f | exact .t (by omega) | exact .f (by omega) | exact .u | exact .i (by (first | exact .t (by omega) | exact .f (by omega) | exact .u | exact .i (by omega) | exact .v (by omega) | exact .b (by omega) | exact .w | rfl | omega)) | exact .v (by omega) | exact .b (by omega) | exact .q (by omega) | exact .w | exact .b (by exact at_) rfl (by exact nth_Sqb) | exact .w (by exact at_) rfl rfl (by exact sz_Sqb) | exact .s (by exact at_) (by exact mid_Sqb) rfl rfl (by exact sz_Sqb) | exact .z rfl rfl ⟨by kernel_rfl⟩ | exact .b rfl rfl ⟨by kernel_rfl⟩ | exact .a rfl rfl ⟨by kernel_rfl⟩ | exact .o rfl | exact .s | exact .n | exact .p rfl | exact .q rfl | exact .c rfl | exact .d rfl | exact .n rfl rfl (by omega) | exact .a rfl rfl (by omega) | exact .p rfl rfl (by omega) (by omega) | exact .y rfl rfl (by omega) (by omega) | exact .o (by exact at_) (by omega) rfl (by exact nth_Sqb) | exact .m (by exact at_) (by omega) (by exact mid_Sqb) rfl rfl (by exact sz_Sqb) | exact .mlen (by exact at_) rfl | exact .t (by exact at_) rfl rfl (by first | exact True.intro | rfl) (by assumption) | exact .f (by exact at_) rfl rfl (by first | exact True.intro | rfl) (by assumption) rfl | exact .t1 (by exact at_) rfl rfl (by first | exact True.intro | rfl) (by assumption) | exact .f1 (by exact at_) rfl rfl (by first | exact True.intro | rfl) (by assumption) rfl | exact .tk (by exact at_) rfl (by assumption) (by assumption) | exact .fk (by exact at_) rfl (by assumption) (by assumption) rfl | exact .tk1 (by exact at_) rfl (by assumption) (by assumption) | exact .fk1 (by exact at_) rfl (by assumption) (by assumption) rfl | exact .r rfl rfl (by omega) (by omega) (by exact nth_Sqb) rfl | exact .s rfl (by omega) (by assumption) | exact at_ | assumption | exact .r rfl rfl | exact .h rfl rfl rfl (by omega) | exact .l rfl rfl rfl (by omega) (by omega) | exact .g rfl rfl rfl rfl (by omega) (by omega) | exact .h rfl rfl (toN_ (by omega)) (by omega) | exact .l rfl rfl (toN_ (by omega)) (by omega) (by omega) | exact .g rfl rfl (toN_ (by omega)) (toN_ (by omega)) (by omega) (by omega) | exact .o (by decide) | exact .f (by decide) | exact .n (by omega) (by first | decide | (show _ ≤ ((64 : Nat) : Int); omega)) | (constructor; (repeat (first | exact .t (by omega) | exact .f (by omega) | exact .u | exact .i (by omega) | exact .v (by omega) | exact .b (by omega) | exact .w | rfl | omega)); first | done | fail) | omega | (show _ ≤ ((64 : Nat) : Int); omega)) : φ := h
theorem pv_Sqb {φ : Prop} (h : φ := by constructor; (repeat exact cl_Sqb); first | done | fail) : φ := h
theorem su_Sqb {φ ψ : Prop} (k : ψ) (h : Hide ψ → φ := by (intro k; (first | refine sl_pu (PuI.sep (by exact pv_Sqb)) rfl ?_ | refine sl_yes rfl rfl ?_ | refine sl_no rfl rfl rfl ?_ | refine sl_off rfl rfl rfl ?_ | (fail)); exact k.out)) : φ := h ⟨k⟩
theorem sto_Sqb {φ ψ : Prop} (k : ψ) (h : Hide ψ → φ := by (intro k; (first | refine sl_store rfl (by exact pick_) rfl rfl (by kernel_rfl) (by exact set_Sqb) ?_ | refine sl_store_whole rfl (by exact pick_) rfl (by exact sz_Sqb) (by exact sz_Sqb) (by exact one_Sqb) ?_); exact k.out)) : φ := h ⟨k⟩
theorem go_Sqb {φ ψ : Prop} (k : ψ) (h : Hide ψ → φ := by (intro k; (repeat (first | refine su_Sqb ?_ | refine so_ ?_ | refine sto_Sqb ?_)); exact k.out)) : φ := h ⟨k⟩
set_option maxRecDepth 100000 in
theorem ssync_any {K : List Fa} {g gj gi gb mw ms gd md ckd k : Nat} {t : Ta} {life lim : Int} {f : DF} (hs : f.s = sj) (hsy : f.sy ≤ f.l.length) (hn : f.l.length ≤ 1048576) :
    Fn Tryz.prog 11 #[.pointer (some ⟨g, 0, none⟩)] (sB g t gj gi gb mw ms life :: jC gj gd sj k :: dB gd md lim :: dM md [f] ckd :: dS [f] :: K) (Ret (fun _ : DF => True) (fun _ => .int .i64 0) (fun q => sB g t gj gi gb mw ms life :: jC gj gd sj k :: dB gd md lim :: dM md [q] ckd :: dS [q] :: K)) := by
  refine fn_enter Tryz.func11 rfl _ Tryz.ntmps11 (by simp) [(0, .pointer (some ⟨g, 0, none⟩))] (args_of (by simp)) ?_
  refine go_Sqb ?_
  have hsj := sync_Jf (K := sB g t gj gi gb mw ms life :: K) (gj := gj) (g := gd) (m := md) (ck := ckd) (k := k) (lim := lim) (f := f) hsy hn
  rw [hs] at hsj
  refine sl_call rfl rfl (by kernel_rfl) rfl (by exact sub_) hsj ?_
  rintro q hq
  refine go_Sqb ?_
  exact se_ret1 q trivial rfl rfl (by exact sub_)
set_option maxRecDepth 100000 in
set_option maxHeartbeats 4000000 in
theorem open_any2 {K0 : List Fa} {gd md ckd k0 : Nat} {f : DF} {t : Ta} {r : Rl} {limit : Int} {out : List (List Int)}
    (hr : rErr r t = 0) (hw : 0 ≤ r.w) (hk0 : k0 ≤ 10000) (hol : out.length ≤ 10000) (hout : ∀ x ∈ out, ∀ y, x[0]? = some y → y ≠ 2)
    (hjo : ∀ E : List Fa, Fn Tryz.prog 42 #[.pointer (some ⟨gd, 0, none⟩), .string sj] (dB gd md 1048576 :: dM md [f] ckd :: dS [f] :: E) (Ret (fun p : Ok => (p.q.xs.map Sx.l = out ∧ ∀ x ∈ p.q.xs, x.ok) ∧ p.f.s = sj ∧ p.f.sy ≤ p.f.l.length ∧ p.f.l.length ≤ 640000) (fun p => .tuple #[.pointer (some ⟨p.gj, 0, none⟩), .slice p.q.R p.q.xs.length p.q.c, .int .i64 0]) (fun p => jC p.gj gd sj k0 :: dB gd md 1048576 :: dM md [p.f] ckd :: dS [p.f] :: KpO p :: E))) :
    Fn Tryz.prog 9 #[.pointer (some ⟨gd, 0, none⟩), .agg t.c.toArray, .agg r.c.toArray, .int .i64 limit] (dB gd md 1048576 :: dM md [f] ckd :: dS [f] :: K0)
      (Ret (fun _ : Option Nat => True) hoV (fun _ => K0)) := by
  refine fn_enter Tryz.func9 rfl _ Tryz.ntmps9 (by simp) [(0, .pointer (some ⟨gd, 0, none⟩)), (1, .agg t.c.toArray), (2, .agg r.c.toArray), (3, .int .i64 limit)] (args_of (by simp)) ?_
  refine go_Sqb ?_
  refine sl_box rfl rfl rfl ?_; intro g5
  refine go_Sqb ?_
  refine sl_box rfl rfl rfl ?_; intro g6
  refine go_Sqb ?_
  refine sl_call rfl rfl (by kernel_rfl) rfl Sub.refl (bnew_ok hr) ?_
  rintro ⟨gb, mb⟩ -
  dsimp only
  refine go_Sqb ?_
  refine sl_call rfl rfl (by kernel_rfl) rfl (by exact sub_) (hjo (bB gb t r mb :: bM mb [] 0 :: bS [] :: blk g6 38 r.c :: blk g5 34 t.c :: K0)) ?_
  rintro p hp
  obtain ⟨⟨hp1, hp2⟩, hp3, hp4, hp5⟩ := hp
  have hll : p.q.xs.length ≤ 10000 := by rw [← List.length_map (f := Sx.l), hp1]; exact hol
  have hJS3 : Vw [KpO p] (fun w => Reads w 1 p.q.R p.q.xs.length (sxV p.q.xs)) := kpo_row p
  refine go_Sqb ?_
  refine sc_join (α := Nat × Nat × Nat × Nat × Nat) (fun q => [(14, .pointer (some ⟨q.2.1, 0, none⟩)), (13, .slice p.q.R p.q.xs.length p.q.c)])
    (fun q => goB q.2.1 q.1 :: sB q.1 t p.gj q.2.2.1 gb q.2.2.2.1 q.2.2.2.2 0 :: ixb q.2.2.1 none 0 0 (min (max limit 0) 256) :: bB gb t r mb :: bM mb [] 0 :: bS [] :: wM q.2.2.2.1 [] 0 :: dMm q.2.2.2.2 [] 0 :: jC p.gj gd sj k0 :: dB gd md 1048576 :: dM md [p.f] ckd :: dS [p.f] :: KpO p :: K0) (fun _ => True) ?_ ?_
  · refine sd_drawn (fun W => AllP W [blk g5 34 t.c]) (fun _ => true) (by kernel_rfl) 11 rfl ?_
    refine sd_yes2 0 rfl (by exact gd_) (by kernel_rfl) (by kernel_rfl) (by exact nop_) (PuI.all (by exact pv_Sqb)) rfl (fun w hw => all_ hw) ?_
    refine sd_yes2 1 rfl (by exact gd_) (by kernel_rfl) (by kernel_rfl) (by exact nop_) (PuI.all (by exact pv_Sqb)) rfl (fun w hw => all_ hw) ?_
    refine sd_yes2 2 rfl (by exact gd_) (by kernel_rfl) (by kernel_rfl) (by exact nop_) (PuI.all (by exact pv_Sqb)) rfl (fun w hw => all_ hw) ?_
    refine sd_yes2 4 rfl (by exact gd_) (by kernel_rfl) (by kernel_rfl) (by exact nop_) (PuI.all (by exact pv_Sqb)) rfl (fun w hw => all_ hw) ?_
    refine sd_four 3 5 6 9 (by kernel_rfl) (sa_sl 3 rfl ?_) (sa_sl 5 rfl ?_) (sa_sl 6 rfl ?_) (sa_sl 9 rfl ?_)
    · refine sl_call rfl rfl (by kernel_rfl) rfl Sub.refl (new_ok limit) ?_
      rintro gi -
      refine sl_nil ?_
      refine se_sd (fun _ w hw => all_ hw) ?_
      refine sd_three 5 6 9 (by kernel_rfl) (sa_sl 5 rfl ?_) (sa_sl 6 rfl ?_) (sa_sl 9 rfl ?_)
      · refine sl_makeMap (d := .array 16 5) rfl ?_
        intro mw
        refine sl_nil ?_
        refine se_sd (fun _ w hw => all_ hw) ?_
        refine sd_two 6 9 (by kernel_rfl) (sa_sl 6 rfl ?_) (sa_sl 9 rfl ?_)
        · refine sl_makeMap (d := .array 16 5) rfl ?_
          intro ms
          refine sl_nil ?_
          refine se_sd (fun _ w hw => all_ hw) ?_
          refine sd_two 7 9 (by kernel_rfl) (sa_sl 7 rfl ?_) (sa_sl 9 rfl ?_)
          · refine sl_pu (pu_build (v := .agg (stC9 t p.gj gi gb mw ms 0).toArray) rfl (fun W => by kernel_rfl)) rfl ?_
            refine sl_nil ?_
            refine se_sd (fun _ w hw => all_ hw) ?_
            refine sd_two 8 9 (by kernel_rfl) (sa_sl 8 rfl ?_) (sa_sl 9 rfl ?_)
            · refine sl_box rfl rfl rfl ?_; intro g
              refine sl_nil ?_
              refine se_sd (fun _ w hw => all_ hw) ?_
              refine sd_one 9 (by kernel_rfl) (sa_sl 9 rfl ?_)
              refine sl_alloc rfl rfl rfl ?_; intro g14
              refine sl_nil ?_
              refine se_sd (fun _ w hw => all_ hw) ?_
              refine sd_one 10 (by kernel_rfl) (sa_sl 10 rfl ?_)
              refine sto_Sqb ?_
              refine sl_nil ?_
              refine se_sd (fun _ w hw => all_ hw) ?_
              refine sd_done (by kernel_rfl) ?_
              exact se_mid (g, g14, gi, mw, ms) (by exact has_) (by exact sub_) trivial
            · refine sl_alloc rfl rfl rfl ?_; intro g14
              refine sl_nil ?_
              refine se_sd (fun _ w hw => all_ hw) ?_
              refine sd_one 8 (by kernel_rfl) (sa_sl 8 rfl ?_)
              refine sl_box rfl rfl rfl ?_; intro g
              refine sl_nil ?_
              refine se_sd (fun _ w hw => all_ hw) ?_
              refine sd_one 10 (by kernel_rfl) (sa_sl 10 rfl ?_)
              refine sto_Sqb ?_
              refine sl_nil ?_
              refine se_sd (fun _ w hw => all_ hw) ?_
              refine sd_done (by kernel_rfl) ?_
              exact se_mid (g, g14, gi, mw, ms) (by exact has_) (by exact sub_) trivial
          · refine sl_alloc rfl rfl rfl ?_; intro g14
            refine sl_nil ?_
            refine se_sd (fun _ w hw => all_ hw) ?_
            refine sd_one 7 (by kernel_rfl) (sa_sl 7 rfl ?_)
            refine sl_pu (pu_build (v := .agg (stC9 t p.gj gi gb mw ms 0).toArray) rfl (fun W => by kernel_rfl)) rfl ?_
            refine sl_nil ?_
            refine se_sd (fun _ w hw => all_ hw) ?_
            refine sd_one 8 (by kernel_rfl) (sa_sl 8 rfl ?_)
            refine sl_box rfl rfl rfl ?_; intro g
            refine sl_nil ?_
            refine se_sd (fun _ w hw => all_ hw) ?_
            refine sd_one 10 (by kernel_rfl) (sa_sl 10 rfl ?_)
            refine sto_Sqb ?_
            refine sl_nil ?_
            refine se_sd (fun _ w hw => all_ hw) ?_
            refine sd_done (by kernel_rfl) ?_
            exact se_mid (g, g14, gi, mw, ms) (by exact has_) (by exact sub_) trivial
        · refine sl_alloc rfl rfl rfl ?_; intro g14
          refine sl_nil ?_
          refine se_sd (fun _ w hw => all_ hw) ?_
          refine sd_one 6 (by kernel_rfl) (sa_sl 6 rfl ?_)
          refine sl_makeMap (d := .array 16 5) rfl ?_
          intro ms
          refine sl_nil ?_
          refine se_sd (fun _ w hw => all_ hw) ?_
          refine sd_one 7 (by kernel_rfl) (sa_sl 7 rfl ?_)
          refine sl_pu (pu_build (v := .agg (stC9 t p.gj gi gb mw ms 0).toArray) rfl (fun W => by kernel_rfl)) rfl ?_
          refine sl_nil ?_
          refine se_sd (fun _ w hw => all_ hw) ?_
          refine sd_one 8 (by kernel_rfl) (sa_sl 8 rfl ?_)
          refine sl_box rfl rfl rfl ?_; intro g
          refine sl_nil ?_
          refine se_sd (fun _ w hw => all_ hw) ?_
          refine sd_one 10 (by kernel_rfl) (sa_sl 10 rfl ?_)
          refine sto_Sqb ?_
          refine sl_nil ?_
          refine se_sd (fun _ w hw => all_ hw) ?_
          refine sd_done (by kernel_rfl) ?_
          exact se_mid (g, g14, gi, mw, ms) (by exact has_) (by exact sub_) trivial
      · refine sl_makeMap (d := .array 16 5) rfl ?_
        intro ms
        refine sl_nil ?_
        refine se_sd (fun _ w hw => all_ hw) ?_
        refine sd_two 5 9 (by kernel_rfl) (sa_sl 5 rfl ?_) (sa_sl 9 rfl ?_)
        · refine sl_makeMap (d := .array 16 5) rfl ?_
          intro mw
          refine sl_nil ?_
          refine se_sd (fun _ w hw => all_ hw) ?_
          refine sd_two 7 9 (by kernel_rfl) (sa_sl 7 rfl ?_) (sa_sl 9 rfl ?_)
          · refine sl_pu (pu_build (v := .agg (stC9 t p.gj gi gb mw ms 0).toArray) rfl (fun W => by kernel_rfl)) rfl ?_
            refine sl_nil ?_
            refine se_sd (fun _ w hw => all_ hw) ?_
            refine sd_two 8 9 (by kernel_rfl) (sa_sl 8 rfl ?_) (sa_sl 9 rfl ?_)
            · refine sl_box rfl rfl rfl ?_; intro g
              refine sl_nil ?_
              refine se_sd (fun _ w hw => all_ hw) ?_
              refine sd_one 9 (by kernel_rfl) (sa_sl 9 rfl ?_)
              refine sl_alloc rfl rfl rfl ?_; intro g14
              refine sl_nil ?_
              refine se_sd (fun _ w hw => all_ hw) ?_
              refine sd_one 10 (by kernel_rfl) (sa_sl 10 rfl ?_)
              refine sto_Sqb ?_
              refine sl_nil ?_
              refine se_sd (fun _ w hw => all_ hw) ?_
              refine sd_done (by kernel_rfl) ?_
              exact se_mid (g, g14, gi, mw, ms) (by exact has_) (by exact sub_) trivial
            · refine sl_alloc rfl rfl rfl ?_; intro g14
              refine sl_nil ?_
              refine se_sd (fun _ w hw => all_ hw) ?_
              refine sd_one 8 (by kernel_rfl) (sa_sl 8 rfl ?_)
              refine sl_box rfl rfl rfl ?_; intro g
              refine sl_nil ?_
              refine se_sd (fun _ w hw => all_ hw) ?_
              refine sd_one 10 (by kernel_rfl) (sa_sl 10 rfl ?_)
              refine sto_Sqb ?_
              refine sl_nil ?_
              refine se_sd (fun _ w hw => all_ hw) ?_
              refine sd_done (by kernel_rfl) ?_
              exact se_mid (g, g14, gi, mw, ms) (by exact has_) (by exact sub_) trivial
          · refine sl_alloc rfl rfl rfl ?_; intro g14
            refine sl_nil ?_
            refine se_sd (fun _ w hw => all_ hw) ?_
            refine sd_one 7 (by kernel_rfl) (sa_sl 7 rfl ?_)
            refine sl_pu (pu_build (v := .agg (stC9 t p.gj gi gb mw ms 0).toArray) rfl (fun W => by kernel_rfl)) rfl ?_
            refine sl_nil ?_
            refine se_sd (fun _ w hw => all_ hw) ?_
            refine sd_one 8 (by kernel_rfl) (sa_sl 8 rfl ?_)
            refine sl_box rfl rfl rfl ?_; intro g
            refine sl_nil ?_
            refine se_sd (fun _ w hw => all_ hw) ?_
            refine sd_one 10 (by kernel_rfl) (sa_sl 10 rfl ?_)
            refine sto_Sqb ?_
            refine sl_nil ?_
            refine se_sd (fun _ w hw => all_ hw) ?_
            refine sd_done (by kernel_rfl) ?_
            exact se_mid (g, g14, gi, mw, ms) (by exact has_) (by exact sub_) trivial
        · refine sl_alloc rfl rfl rfl ?_; intro g14
          refine sl_nil ?_
          refine se_sd (fun _ w hw => all_ hw) ?_
          refine sd_one 5 (by kernel_rfl) (sa_sl 5 rfl ?_)
          refine sl_makeMap (d := .array 16 5) rfl ?_
          intro mw
          refine sl_nil ?_
          refine se_sd (fun _ w hw => all_ hw) ?_
          refine sd_one 7 (by kernel_rfl) (sa_sl 7 rfl ?_)
          refine sl_pu (pu_build (v := .agg (stC9 t p.gj gi gb mw ms 0).toArray) rfl (fun W => by kernel_rfl)) rfl ?_
          refine sl_nil ?_
          refine se_sd (fun _ w hw => all_ hw) ?_
          refine sd_one 8 (by kernel_rfl) (sa_sl 8 rfl ?_)
          refine sl_box rfl rfl rfl ?_; intro g
          refine sl_nil ?_
          refine se_sd (fun _ w hw => all_ hw) ?_
          refine sd_one 10 (by kernel_rfl) (sa_sl 10 rfl ?_)
          refine sto_Sqb ?_
          refine sl_nil ?_
          refine se_sd (fun _ w hw => all_ hw) ?_
          refine sd_done (by kernel_rfl) ?_
          exact se_mid (g, g14, gi, mw, ms) (by exact has_) (by exact sub_) trivial
      · refine sl_alloc rfl rfl rfl ?_; intro g14
        refine sl_nil ?_
        refine se_sd (fun _ w hw => all_ hw) ?_
        refine sd_two 5 6 (by kernel_rfl) (sa_sl 5 rfl ?_) (sa_sl 6 rfl ?_)
        · refine sl_makeMap (d := .array 16 5) rfl ?_
          intro mw
          refine sl_nil ?_
          refine se_sd (fun _ w hw => all_ hw) ?_
          refine sd_one 6 (by kernel_rfl) (sa_sl 6 rfl ?_)
          refine sl_makeMap (d := .array 16 5) rfl ?_
          intro ms
          refine sl_nil ?_
          refine se_sd (fun _ w hw => all_ hw) ?_
          refine sd_one 7 (by kernel_rfl) (sa_sl 7 rfl ?_)
          refine sl_pu (pu_build (v := .agg (stC9 t p.gj gi gb mw ms 0).toArray) rfl (fun W => by kernel_rfl)) rfl ?_
          refine sl_nil ?_
          refine se_sd (fun _ w hw => all_ hw) ?_
          refine sd_one 8 (by kernel_rfl) (sa_sl 8 rfl ?_)
          refine sl_box rfl rfl rfl ?_; intro g
          refine sl_nil ?_
          refine se_sd (fun _ w hw => all_ hw) ?_
          refine sd_one 10 (by kernel_rfl) (sa_sl 10 rfl ?_)
          refine sto_Sqb ?_
          refine sl_nil ?_
          refine se_sd (fun _ w hw => all_ hw) ?_
          refine sd_done (by kernel_rfl) ?_
          exact se_mid (g, g14, gi, mw, ms) (by exact has_) (by exact sub_) trivial
        · refine sl_makeMap (d := .array 16 5) rfl ?_
          intro ms
          refine sl_nil ?_
          refine se_sd (fun _ w hw => all_ hw) ?_
          refine sd_one 5 (by kernel_rfl) (sa_sl 5 rfl ?_)
          refine sl_makeMap (d := .array 16 5) rfl ?_
          intro mw
          refine sl_nil ?_
          refine se_sd (fun _ w hw => all_ hw) ?_
          refine sd_one 7 (by kernel_rfl) (sa_sl 7 rfl ?_)
          refine sl_pu (pu_build (v := .agg (stC9 t p.gj gi gb mw ms 0).toArray) rfl (fun W => by kernel_rfl)) rfl ?_
          refine sl_nil ?_
          refine se_sd (fun _ w hw => all_ hw) ?_
          refine sd_one 8 (by kernel_rfl) (sa_sl 8 rfl ?_)
          refine sl_box rfl rfl rfl ?_; intro g
          refine sl_nil ?_
          refine se_sd (fun _ w hw => all_ hw) ?_
          refine sd_one 10 (by kernel_rfl) (sa_sl 10 rfl ?_)
          refine sto_Sqb ?_
          refine sl_nil ?_
          refine se_sd (fun _ w hw => all_ hw) ?_
          refine sd_done (by kernel_rfl) ?_
          exact se_mid (g, g14, gi, mw, ms) (by exact has_) (by exact sub_) trivial
    · refine sl_makeMap (d := .array 16 5) rfl ?_
      intro mw
      refine sl_nil ?_
      refine se_sd (fun _ w hw => all_ hw) ?_
      refine sd_three 3 6 9 (by kernel_rfl) (sa_sl 3 rfl ?_) (sa_sl 6 rfl ?_) (sa_sl 9 rfl ?_)
      · refine sl_call rfl rfl (by kernel_rfl) rfl Sub.refl (new_ok limit) ?_
        rintro gi -
        refine sl_nil ?_
        refine se_sd (fun _ w hw => all_ hw) ?_
        refine sd_two 6 9 (by kernel_rfl) (sa_sl 6 rfl ?_) (sa_sl 9 rfl ?_)
        · refine sl_makeMap (d := .array 16 5) rfl ?_
          intro ms
          refine sl_nil ?_
          refine se_sd (fun _ w hw => all_ hw) ?_
          refine sd_two 7 9 (by kernel_rfl) (sa_sl 7 rfl ?_) (sa_sl 9 rfl ?_)
          · refine sl_pu (pu_build (v := .agg (stC9 t p.gj gi gb mw ms 0).toArray) rfl (fun W => by kernel_rfl)) rfl ?_
            refine sl_nil ?_
            refine se_sd (fun _ w hw => all_ hw) ?_
            refine sd_two 8 9 (by kernel_rfl) (sa_sl 8 rfl ?_) (sa_sl 9 rfl ?_)
            · refine sl_box rfl rfl rfl ?_; intro g
              refine sl_nil ?_
              refine se_sd (fun _ w hw => all_ hw) ?_
              refine sd_one 9 (by kernel_rfl) (sa_sl 9 rfl ?_)
              refine sl_alloc rfl rfl rfl ?_; intro g14
              refine sl_nil ?_
              refine se_sd (fun _ w hw => all_ hw) ?_
              refine sd_one 10 (by kernel_rfl) (sa_sl 10 rfl ?_)
              refine sto_Sqb ?_
              refine sl_nil ?_
              refine se_sd (fun _ w hw => all_ hw) ?_
              refine sd_done (by kernel_rfl) ?_
              exact se_mid (g, g14, gi, mw, ms) (by exact has_) (by exact sub_) trivial
            · refine sl_alloc rfl rfl rfl ?_; intro g14
              refine sl_nil ?_
              refine se_sd (fun _ w hw => all_ hw) ?_
              refine sd_one 8 (by kernel_rfl) (sa_sl 8 rfl ?_)
              refine sl_box rfl rfl rfl ?_; intro g
              refine sl_nil ?_
              refine se_sd (fun _ w hw => all_ hw) ?_
              refine sd_one 10 (by kernel_rfl) (sa_sl 10 rfl ?_)
              refine sto_Sqb ?_
              refine sl_nil ?_
              refine se_sd (fun _ w hw => all_ hw) ?_
              refine sd_done (by kernel_rfl) ?_
              exact se_mid (g, g14, gi, mw, ms) (by exact has_) (by exact sub_) trivial
          · refine sl_alloc rfl rfl rfl ?_; intro g14
            refine sl_nil ?_
            refine se_sd (fun _ w hw => all_ hw) ?_
            refine sd_one 7 (by kernel_rfl) (sa_sl 7 rfl ?_)
            refine sl_pu (pu_build (v := .agg (stC9 t p.gj gi gb mw ms 0).toArray) rfl (fun W => by kernel_rfl)) rfl ?_
            refine sl_nil ?_
            refine se_sd (fun _ w hw => all_ hw) ?_
            refine sd_one 8 (by kernel_rfl) (sa_sl 8 rfl ?_)
            refine sl_box rfl rfl rfl ?_; intro g
            refine sl_nil ?_
            refine se_sd (fun _ w hw => all_ hw) ?_
            refine sd_one 10 (by kernel_rfl) (sa_sl 10 rfl ?_)
            refine sto_Sqb ?_
            refine sl_nil ?_
            refine se_sd (fun _ w hw => all_ hw) ?_
            refine sd_done (by kernel_rfl) ?_
            exact se_mid (g, g14, gi, mw, ms) (by exact has_) (by exact sub_) trivial
        · refine sl_alloc rfl rfl rfl ?_; intro g14
          refine sl_nil ?_
          refine se_sd (fun _ w hw => all_ hw) ?_
          refine sd_one 6 (by kernel_rfl) (sa_sl 6 rfl ?_)
          refine sl_makeMap (d := .array 16 5) rfl ?_
          intro ms
          refine sl_nil ?_
          refine se_sd (fun _ w hw => all_ hw) ?_
          refine sd_one 7 (by kernel_rfl) (sa_sl 7 rfl ?_)
          refine sl_pu (pu_build (v := .agg (stC9 t p.gj gi gb mw ms 0).toArray) rfl (fun W => by kernel_rfl)) rfl ?_
          refine sl_nil ?_
          refine se_sd (fun _ w hw => all_ hw) ?_
          refine sd_one 8 (by kernel_rfl) (sa_sl 8 rfl ?_)
          refine sl_box rfl rfl rfl ?_; intro g
          refine sl_nil ?_
          refine se_sd (fun _ w hw => all_ hw) ?_
          refine sd_one 10 (by kernel_rfl) (sa_sl 10 rfl ?_)
          refine sto_Sqb ?_
          refine sl_nil ?_
          refine se_sd (fun _ w hw => all_ hw) ?_
          refine sd_done (by kernel_rfl) ?_
          exact se_mid (g, g14, gi, mw, ms) (by exact has_) (by exact sub_) trivial
      · refine sl_makeMap (d := .array 16 5) rfl ?_
        intro ms
        refine sl_nil ?_
        refine se_sd (fun _ w hw => all_ hw) ?_
        refine sd_two 3 9 (by kernel_rfl) (sa_sl 3 rfl ?_) (sa_sl 9 rfl ?_)
        · refine sl_call rfl rfl (by kernel_rfl) rfl Sub.refl (new_ok limit) ?_
          rintro gi -
          refine sl_nil ?_
          refine se_sd (fun _ w hw => all_ hw) ?_
          refine sd_two 7 9 (by kernel_rfl) (sa_sl 7 rfl ?_) (sa_sl 9 rfl ?_)
          · refine sl_pu (pu_build (v := .agg (stC9 t p.gj gi gb mw ms 0).toArray) rfl (fun W => by kernel_rfl)) rfl ?_
            refine sl_nil ?_
            refine se_sd (fun _ w hw => all_ hw) ?_
            refine sd_two 8 9 (by kernel_rfl) (sa_sl 8 rfl ?_) (sa_sl 9 rfl ?_)
            · refine sl_box rfl rfl rfl ?_; intro g
              refine sl_nil ?_
              refine se_sd (fun _ w hw => all_ hw) ?_
              refine sd_one 9 (by kernel_rfl) (sa_sl 9 rfl ?_)
              refine sl_alloc rfl rfl rfl ?_; intro g14
              refine sl_nil ?_
              refine se_sd (fun _ w hw => all_ hw) ?_
              refine sd_one 10 (by kernel_rfl) (sa_sl 10 rfl ?_)
              refine sto_Sqb ?_
              refine sl_nil ?_
              refine se_sd (fun _ w hw => all_ hw) ?_
              refine sd_done (by kernel_rfl) ?_
              exact se_mid (g, g14, gi, mw, ms) (by exact has_) (by exact sub_) trivial
            · refine sl_alloc rfl rfl rfl ?_; intro g14
              refine sl_nil ?_
              refine se_sd (fun _ w hw => all_ hw) ?_
              refine sd_one 8 (by kernel_rfl) (sa_sl 8 rfl ?_)
              refine sl_box rfl rfl rfl ?_; intro g
              refine sl_nil ?_
              refine se_sd (fun _ w hw => all_ hw) ?_
              refine sd_one 10 (by kernel_rfl) (sa_sl 10 rfl ?_)
              refine sto_Sqb ?_
              refine sl_nil ?_
              refine se_sd (fun _ w hw => all_ hw) ?_
              refine sd_done (by kernel_rfl) ?_
              exact se_mid (g, g14, gi, mw, ms) (by exact has_) (by exact sub_) trivial
          · refine sl_alloc rfl rfl rfl ?_; intro g14
            refine sl_nil ?_
            refine se_sd (fun _ w hw => all_ hw) ?_
            refine sd_one 7 (by kernel_rfl) (sa_sl 7 rfl ?_)
            refine sl_pu (pu_build (v := .agg (stC9 t p.gj gi gb mw ms 0).toArray) rfl (fun W => by kernel_rfl)) rfl ?_
            refine sl_nil ?_
            refine se_sd (fun _ w hw => all_ hw) ?_
            refine sd_one 8 (by kernel_rfl) (sa_sl 8 rfl ?_)
            refine sl_box rfl rfl rfl ?_; intro g
            refine sl_nil ?_
            refine se_sd (fun _ w hw => all_ hw) ?_
            refine sd_one 10 (by kernel_rfl) (sa_sl 10 rfl ?_)
            refine sto_Sqb ?_
            refine sl_nil ?_
            refine se_sd (fun _ w hw => all_ hw) ?_
            refine sd_done (by kernel_rfl) ?_
            exact se_mid (g, g14, gi, mw, ms) (by exact has_) (by exact sub_) trivial
        · refine sl_alloc rfl rfl rfl ?_; intro g14
          refine sl_nil ?_
          refine se_sd (fun _ w hw => all_ hw) ?_
          refine sd_one 3 (by kernel_rfl) (sa_sl 3 rfl ?_)
          refine sl_call rfl rfl (by kernel_rfl) rfl Sub.refl (new_ok limit) ?_
          rintro gi -
          refine sl_nil ?_
          refine se_sd (fun _ w hw => all_ hw) ?_
          refine sd_one 7 (by kernel_rfl) (sa_sl 7 rfl ?_)
          refine sl_pu (pu_build (v := .agg (stC9 t p.gj gi gb mw ms 0).toArray) rfl (fun W => by kernel_rfl)) rfl ?_
          refine sl_nil ?_
          refine se_sd (fun _ w hw => all_ hw) ?_
          refine sd_one 8 (by kernel_rfl) (sa_sl 8 rfl ?_)
          refine sl_box rfl rfl rfl ?_; intro g
          refine sl_nil ?_
          refine se_sd (fun _ w hw => all_ hw) ?_
          refine sd_one 10 (by kernel_rfl) (sa_sl 10 rfl ?_)
          refine sto_Sqb ?_
          refine sl_nil ?_
          refine se_sd (fun _ w hw => all_ hw) ?_
          refine sd_done (by kernel_rfl) ?_
          exact se_mid (g, g14, gi, mw, ms) (by exact has_) (by exact sub_) trivial
      · refine sl_alloc rfl rfl rfl ?_; intro g14
        refine sl_nil ?_
        refine se_sd (fun _ w hw => all_ hw) ?_
        refine sd_two 3 6 (by kernel_rfl) (sa_sl 3 rfl ?_) (sa_sl 6 rfl ?_)
        · refine sl_call rfl rfl (by kernel_rfl) rfl Sub.refl (new_ok limit) ?_
          rintro gi -
          refine sl_nil ?_
          refine se_sd (fun _ w hw => all_ hw) ?_
          refine sd_one 6 (by kernel_rfl) (sa_sl 6 rfl ?_)
          refine sl_makeMap (d := .array 16 5) rfl ?_
          intro ms
          refine sl_nil ?_
          refine se_sd (fun _ w hw => all_ hw) ?_
          refine sd_one 7 (by kernel_rfl) (sa_sl 7 rfl ?_)
          refine sl_pu (pu_build (v := .agg (stC9 t p.gj gi gb mw ms 0).toArray) rfl (fun W => by kernel_rfl)) rfl ?_
          refine sl_nil ?_
          refine se_sd (fun _ w hw => all_ hw) ?_
          refine sd_one 8 (by kernel_rfl) (sa_sl 8 rfl ?_)
          refine sl_box rfl rfl rfl ?_; intro g
          refine sl_nil ?_
          refine se_sd (fun _ w hw => all_ hw) ?_
          refine sd_one 10 (by kernel_rfl) (sa_sl 10 rfl ?_)
          refine sto_Sqb ?_
          refine sl_nil ?_
          refine se_sd (fun _ w hw => all_ hw) ?_
          refine sd_done (by kernel_rfl) ?_
          exact se_mid (g, g14, gi, mw, ms) (by exact has_) (by exact sub_) trivial
        · refine sl_makeMap (d := .array 16 5) rfl ?_
          intro ms
          refine sl_nil ?_
          refine se_sd (fun _ w hw => all_ hw) ?_
          refine sd_one 3 (by kernel_rfl) (sa_sl 3 rfl ?_)
          refine sl_call rfl rfl (by kernel_rfl) rfl Sub.refl (new_ok limit) ?_
          rintro gi -
          refine sl_nil ?_
          refine se_sd (fun _ w hw => all_ hw) ?_
          refine sd_one 7 (by kernel_rfl) (sa_sl 7 rfl ?_)
          refine sl_pu (pu_build (v := .agg (stC9 t p.gj gi gb mw ms 0).toArray) rfl (fun W => by kernel_rfl)) rfl ?_
          refine sl_nil ?_
          refine se_sd (fun _ w hw => all_ hw) ?_
          refine sd_one 8 (by kernel_rfl) (sa_sl 8 rfl ?_)
          refine sl_box rfl rfl rfl ?_; intro g
          refine sl_nil ?_
          refine se_sd (fun _ w hw => all_ hw) ?_
          refine sd_one 10 (by kernel_rfl) (sa_sl 10 rfl ?_)
          refine sto_Sqb ?_
          refine sl_nil ?_
          refine se_sd (fun _ w hw => all_ hw) ?_
          refine sd_done (by kernel_rfl) ?_
          exact se_mid (g, g14, gi, mw, ms) (by exact has_) (by exact sub_) trivial
    · refine sl_makeMap (d := .array 16 5) rfl ?_
      intro ms
      refine sl_nil ?_
      refine se_sd (fun _ w hw => all_ hw) ?_
      refine sd_three 3 5 9 (by kernel_rfl) (sa_sl 3 rfl ?_) (sa_sl 5 rfl ?_) (sa_sl 9 rfl ?_)
      · refine sl_call rfl rfl (by kernel_rfl) rfl Sub.refl (new_ok limit) ?_
        rintro gi -
        refine sl_nil ?_
        refine se_sd (fun _ w hw => all_ hw) ?_
        refine sd_two 5 9 (by kernel_rfl) (sa_sl 5 rfl ?_) (sa_sl 9 rfl ?_)
        · refine sl_makeMap (d := .array 16 5) rfl ?_
          intro mw
          refine sl_nil ?_
          refine se_sd (fun _ w hw => all_ hw) ?_
          refine sd_two 7 9 (by kernel_rfl) (sa_sl 7 rfl ?_) (sa_sl 9 rfl ?_)
          · refine sl_pu (pu_build (v := .agg (stC9 t p.gj gi gb mw ms 0).toArray) rfl (fun W => by kernel_rfl)) rfl ?_
            refine sl_nil ?_
            refine se_sd (fun _ w hw => all_ hw) ?_
            refine sd_two 8 9 (by kernel_rfl) (sa_sl 8 rfl ?_) (sa_sl 9 rfl ?_)
            · refine sl_box rfl rfl rfl ?_; intro g
              refine sl_nil ?_
              refine se_sd (fun _ w hw => all_ hw) ?_
              refine sd_one 9 (by kernel_rfl) (sa_sl 9 rfl ?_)
              refine sl_alloc rfl rfl rfl ?_; intro g14
              refine sl_nil ?_
              refine se_sd (fun _ w hw => all_ hw) ?_
              refine sd_one 10 (by kernel_rfl) (sa_sl 10 rfl ?_)
              refine sto_Sqb ?_
              refine sl_nil ?_
              refine se_sd (fun _ w hw => all_ hw) ?_
              refine sd_done (by kernel_rfl) ?_
              exact se_mid (g, g14, gi, mw, ms) (by exact has_) (by exact sub_) trivial
            · refine sl_alloc rfl rfl rfl ?_; intro g14
              refine sl_nil ?_
              refine se_sd (fun _ w hw => all_ hw) ?_
              refine sd_one 8 (by kernel_rfl) (sa_sl 8 rfl ?_)
              refine sl_box rfl rfl rfl ?_; intro g
              refine sl_nil ?_
              refine se_sd (fun _ w hw => all_ hw) ?_
              refine sd_one 10 (by kernel_rfl) (sa_sl 10 rfl ?_)
              refine sto_Sqb ?_
              refine sl_nil ?_
              refine se_sd (fun _ w hw => all_ hw) ?_
              refine sd_done (by kernel_rfl) ?_
              exact se_mid (g, g14, gi, mw, ms) (by exact has_) (by exact sub_) trivial
          · refine sl_alloc rfl rfl rfl ?_; intro g14
            refine sl_nil ?_
            refine se_sd (fun _ w hw => all_ hw) ?_
            refine sd_one 7 (by kernel_rfl) (sa_sl 7 rfl ?_)
            refine sl_pu (pu_build (v := .agg (stC9 t p.gj gi gb mw ms 0).toArray) rfl (fun W => by kernel_rfl)) rfl ?_
            refine sl_nil ?_
            refine se_sd (fun _ w hw => all_ hw) ?_
            refine sd_one 8 (by kernel_rfl) (sa_sl 8 rfl ?_)
            refine sl_box rfl rfl rfl ?_; intro g
            refine sl_nil ?_
            refine se_sd (fun _ w hw => all_ hw) ?_
            refine sd_one 10 (by kernel_rfl) (sa_sl 10 rfl ?_)
            refine sto_Sqb ?_
            refine sl_nil ?_
            refine se_sd (fun _ w hw => all_ hw) ?_
            refine sd_done (by kernel_rfl) ?_
            exact se_mid (g, g14, gi, mw, ms) (by exact has_) (by exact sub_) trivial
        · refine sl_alloc rfl rfl rfl ?_; intro g14
          refine sl_nil ?_
          refine se_sd (fun _ w hw => all_ hw) ?_
          refine sd_one 5 (by kernel_rfl) (sa_sl 5 rfl ?_)
          refine sl_makeMap (d := .array 16 5) rfl ?_
          intro mw
          refine sl_nil ?_
          refine se_sd (fun _ w hw => all_ hw) ?_
          refine sd_one 7 (by kernel_rfl) (sa_sl 7 rfl ?_)
          refine sl_pu (pu_build (v := .agg (stC9 t p.gj gi gb mw ms 0).toArray) rfl (fun W => by kernel_rfl)) rfl ?_
          refine sl_nil ?_
          refine se_sd (fun _ w hw => all_ hw) ?_
          refine sd_one 8 (by kernel_rfl) (sa_sl 8 rfl ?_)
          refine sl_box rfl rfl rfl ?_; intro g
          refine sl_nil ?_
          refine se_sd (fun _ w hw => all_ hw) ?_
          refine sd_one 10 (by kernel_rfl) (sa_sl 10 rfl ?_)
          refine sto_Sqb ?_
          refine sl_nil ?_
          refine se_sd (fun _ w hw => all_ hw) ?_
          refine sd_done (by kernel_rfl) ?_
          exact se_mid (g, g14, gi, mw, ms) (by exact has_) (by exact sub_) trivial
      · refine sl_makeMap (d := .array 16 5) rfl ?_
        intro mw
        refine sl_nil ?_
        refine se_sd (fun _ w hw => all_ hw) ?_
        refine sd_two 3 9 (by kernel_rfl) (sa_sl 3 rfl ?_) (sa_sl 9 rfl ?_)
        · refine sl_call rfl rfl (by kernel_rfl) rfl Sub.refl (new_ok limit) ?_
          rintro gi -
          refine sl_nil ?_
          refine se_sd (fun _ w hw => all_ hw) ?_
          refine sd_two 7 9 (by kernel_rfl) (sa_sl 7 rfl ?_) (sa_sl 9 rfl ?_)
          · refine sl_pu (pu_build (v := .agg (stC9 t p.gj gi gb mw ms 0).toArray) rfl (fun W => by kernel_rfl)) rfl ?_
            refine sl_nil ?_
            refine se_sd (fun _ w hw => all_ hw) ?_
            refine sd_two 8 9 (by kernel_rfl) (sa_sl 8 rfl ?_) (sa_sl 9 rfl ?_)
            · refine sl_box rfl rfl rfl ?_; intro g
              refine sl_nil ?_
              refine se_sd (fun _ w hw => all_ hw) ?_
              refine sd_one 9 (by kernel_rfl) (sa_sl 9 rfl ?_)
              refine sl_alloc rfl rfl rfl ?_; intro g14
              refine sl_nil ?_
              refine se_sd (fun _ w hw => all_ hw) ?_
              refine sd_one 10 (by kernel_rfl) (sa_sl 10 rfl ?_)
              refine sto_Sqb ?_
              refine sl_nil ?_
              refine se_sd (fun _ w hw => all_ hw) ?_
              refine sd_done (by kernel_rfl) ?_
              exact se_mid (g, g14, gi, mw, ms) (by exact has_) (by exact sub_) trivial
            · refine sl_alloc rfl rfl rfl ?_; intro g14
              refine sl_nil ?_
              refine se_sd (fun _ w hw => all_ hw) ?_
              refine sd_one 8 (by kernel_rfl) (sa_sl 8 rfl ?_)
              refine sl_box rfl rfl rfl ?_; intro g
              refine sl_nil ?_
              refine se_sd (fun _ w hw => all_ hw) ?_
              refine sd_one 10 (by kernel_rfl) (sa_sl 10 rfl ?_)
              refine sto_Sqb ?_
              refine sl_nil ?_
              refine se_sd (fun _ w hw => all_ hw) ?_
              refine sd_done (by kernel_rfl) ?_
              exact se_mid (g, g14, gi, mw, ms) (by exact has_) (by exact sub_) trivial
          · refine sl_alloc rfl rfl rfl ?_; intro g14
            refine sl_nil ?_
            refine se_sd (fun _ w hw => all_ hw) ?_
            refine sd_one 7 (by kernel_rfl) (sa_sl 7 rfl ?_)
            refine sl_pu (pu_build (v := .agg (stC9 t p.gj gi gb mw ms 0).toArray) rfl (fun W => by kernel_rfl)) rfl ?_
            refine sl_nil ?_
            refine se_sd (fun _ w hw => all_ hw) ?_
            refine sd_one 8 (by kernel_rfl) (sa_sl 8 rfl ?_)
            refine sl_box rfl rfl rfl ?_; intro g
            refine sl_nil ?_
            refine se_sd (fun _ w hw => all_ hw) ?_
            refine sd_one 10 (by kernel_rfl) (sa_sl 10 rfl ?_)
            refine sto_Sqb ?_
            refine sl_nil ?_
            refine se_sd (fun _ w hw => all_ hw) ?_
            refine sd_done (by kernel_rfl) ?_
            exact se_mid (g, g14, gi, mw, ms) (by exact has_) (by exact sub_) trivial
        · refine sl_alloc rfl rfl rfl ?_; intro g14
          refine sl_nil ?_
          refine se_sd (fun _ w hw => all_ hw) ?_
          refine sd_one 3 (by kernel_rfl) (sa_sl 3 rfl ?_)
          refine sl_call rfl rfl (by kernel_rfl) rfl Sub.refl (new_ok limit) ?_
          rintro gi -
          refine sl_nil ?_
          refine se_sd (fun _ w hw => all_ hw) ?_
          refine sd_one 7 (by kernel_rfl) (sa_sl 7 rfl ?_)
          refine sl_pu (pu_build (v := .agg (stC9 t p.gj gi gb mw ms 0).toArray) rfl (fun W => by kernel_rfl)) rfl ?_
          refine sl_nil ?_
          refine se_sd (fun _ w hw => all_ hw) ?_
          refine sd_one 8 (by kernel_rfl) (sa_sl 8 rfl ?_)
          refine sl_box rfl rfl rfl ?_; intro g
          refine sl_nil ?_
          refine se_sd (fun _ w hw => all_ hw) ?_
          refine sd_one 10 (by kernel_rfl) (sa_sl 10 rfl ?_)
          refine sto_Sqb ?_
          refine sl_nil ?_
          refine se_sd (fun _ w hw => all_ hw) ?_
          refine sd_done (by kernel_rfl) ?_
          exact se_mid (g, g14, gi, mw, ms) (by exact has_) (by exact sub_) trivial
      · refine sl_alloc rfl rfl rfl ?_; intro g14
        refine sl_nil ?_
        refine se_sd (fun _ w hw => all_ hw) ?_
        refine sd_two 3 5 (by kernel_rfl) (sa_sl 3 rfl ?_) (sa_sl 5 rfl ?_)
        · refine sl_call rfl rfl (by kernel_rfl) rfl Sub.refl (new_ok limit) ?_
          rintro gi -
          refine sl_nil ?_
          refine se_sd (fun _ w hw => all_ hw) ?_
          refine sd_one 5 (by kernel_rfl) (sa_sl 5 rfl ?_)
          refine sl_makeMap (d := .array 16 5) rfl ?_
          intro mw
          refine sl_nil ?_
          refine se_sd (fun _ w hw => all_ hw) ?_
          refine sd_one 7 (by kernel_rfl) (sa_sl 7 rfl ?_)
          refine sl_pu (pu_build (v := .agg (stC9 t p.gj gi gb mw ms 0).toArray) rfl (fun W => by kernel_rfl)) rfl ?_
          refine sl_nil ?_
          refine se_sd (fun _ w hw => all_ hw) ?_
          refine sd_one 8 (by kernel_rfl) (sa_sl 8 rfl ?_)
          refine sl_box rfl rfl rfl ?_; intro g
          refine sl_nil ?_
          refine se_sd (fun _ w hw => all_ hw) ?_
          refine sd_one 10 (by kernel_rfl) (sa_sl 10 rfl ?_)
          refine sto_Sqb ?_
          refine sl_nil ?_
          refine se_sd (fun _ w hw => all_ hw) ?_
          refine sd_done (by kernel_rfl) ?_
          exact se_mid (g, g14, gi, mw, ms) (by exact has_) (by exact sub_) trivial
        · refine sl_makeMap (d := .array 16 5) rfl ?_
          intro mw
          refine sl_nil ?_
          refine se_sd (fun _ w hw => all_ hw) ?_
          refine sd_one 3 (by kernel_rfl) (sa_sl 3 rfl ?_)
          refine sl_call rfl rfl (by kernel_rfl) rfl Sub.refl (new_ok limit) ?_
          rintro gi -
          refine sl_nil ?_
          refine se_sd (fun _ w hw => all_ hw) ?_
          refine sd_one 7 (by kernel_rfl) (sa_sl 7 rfl ?_)
          refine sl_pu (pu_build (v := .agg (stC9 t p.gj gi gb mw ms 0).toArray) rfl (fun W => by kernel_rfl)) rfl ?_
          refine sl_nil ?_
          refine se_sd (fun _ w hw => all_ hw) ?_
          refine sd_one 8 (by kernel_rfl) (sa_sl 8 rfl ?_)
          refine sl_box rfl rfl rfl ?_; intro g
          refine sl_nil ?_
          refine se_sd (fun _ w hw => all_ hw) ?_
          refine sd_one 10 (by kernel_rfl) (sa_sl 10 rfl ?_)
          refine sto_Sqb ?_
          refine sl_nil ?_
          refine se_sd (fun _ w hw => all_ hw) ?_
          refine sd_done (by kernel_rfl) ?_
          exact se_mid (g, g14, gi, mw, ms) (by exact has_) (by exact sub_) trivial
    · refine sl_alloc rfl rfl rfl ?_; intro g14
      refine sl_nil ?_
      refine se_sd (fun _ w hw => all_ hw) ?_
      refine sd_three 3 5 6 (by kernel_rfl) (sa_sl 3 rfl ?_) (sa_sl 5 rfl ?_) (sa_sl 6 rfl ?_)
      · refine sl_call rfl rfl (by kernel_rfl) rfl Sub.refl (new_ok limit) ?_
        rintro gi -
        refine sl_nil ?_
        refine se_sd (fun _ w hw => all_ hw) ?_
        refine sd_two 5 6 (by kernel_rfl) (sa_sl 5 rfl ?_) (sa_sl 6 rfl ?_)
        · refine sl_makeMap (d := .array 16 5) rfl ?_
          intro mw
          refine sl_nil ?_
          refine se_sd (fun _ w hw => all_ hw) ?_
          refine sd_one 6 (by kernel_rfl) (sa_sl 6 rfl ?_)
          refine sl_makeMap (d := .array 16 5) rfl ?_
          intro ms
          refine sl_nil ?_
          refine se_sd (fun _ w hw => all_ hw) ?_
          refine sd_one 7 (by kernel_rfl) (sa_sl 7 rfl ?_)
          refine sl_pu (pu_build (v := .agg (stC9 t p.gj gi gb mw ms 0).toArray) rfl (fun W => by kernel_rfl)) rfl ?_
          refine sl_nil ?_
          refine se_sd (fun _ w hw => all_ hw) ?_
          refine sd_one 8 (by kernel_rfl) (sa_sl 8 rfl ?_)
          refine sl_box rfl rfl rfl ?_; intro g
          refine sl_nil ?_
          refine se_sd (fun _ w hw => all_ hw) ?_
          refine sd_one 10 (by kernel_rfl) (sa_sl 10 rfl ?_)
          refine sto_Sqb ?_
          refine sl_nil ?_
          refine se_sd (fun _ w hw => all_ hw) ?_
          refine sd_done (by kernel_rfl) ?_
          exact se_mid (g, g14, gi, mw, ms) (by exact has_) (by exact sub_) trivial
        · refine sl_makeMap (d := .array 16 5) rfl ?_
          intro ms
          refine sl_nil ?_
          refine se_sd (fun _ w hw => all_ hw) ?_
          refine sd_one 5 (by kernel_rfl) (sa_sl 5 rfl ?_)
          refine sl_makeMap (d := .array 16 5) rfl ?_
          intro mw
          refine sl_nil ?_
          refine se_sd (fun _ w hw => all_ hw) ?_
          refine sd_one 7 (by kernel_rfl) (sa_sl 7 rfl ?_)
          refine sl_pu (pu_build (v := .agg (stC9 t p.gj gi gb mw ms 0).toArray) rfl (fun W => by kernel_rfl)) rfl ?_
          refine sl_nil ?_
          refine se_sd (fun _ w hw => all_ hw) ?_
          refine sd_one 8 (by kernel_rfl) (sa_sl 8 rfl ?_)
          refine sl_box rfl rfl rfl ?_; intro g
          refine sl_nil ?_
          refine se_sd (fun _ w hw => all_ hw) ?_
          refine sd_one 10 (by kernel_rfl) (sa_sl 10 rfl ?_)
          refine sto_Sqb ?_
          refine sl_nil ?_
          refine se_sd (fun _ w hw => all_ hw) ?_
          refine sd_done (by kernel_rfl) ?_
          exact se_mid (g, g14, gi, mw, ms) (by exact has_) (by exact sub_) trivial
      · refine sl_makeMap (d := .array 16 5) rfl ?_
        intro mw
        refine sl_nil ?_
        refine se_sd (fun _ w hw => all_ hw) ?_
        refine sd_two 3 6 (by kernel_rfl) (sa_sl 3 rfl ?_) (sa_sl 6 rfl ?_)
        · refine sl_call rfl rfl (by kernel_rfl) rfl Sub.refl (new_ok limit) ?_
          rintro gi -
          refine sl_nil ?_
          refine se_sd (fun _ w hw => all_ hw) ?_
          refine sd_one 6 (by kernel_rfl) (sa_sl 6 rfl ?_)
          refine sl_makeMap (d := .array 16 5) rfl ?_
          intro ms
          refine sl_nil ?_
          refine se_sd (fun _ w hw => all_ hw) ?_
          refine sd_one 7 (by kernel_rfl) (sa_sl 7 rfl ?_)
          refine sl_pu (pu_build (v := .agg (stC9 t p.gj gi gb mw ms 0).toArray) rfl (fun W => by kernel_rfl)) rfl ?_
          refine sl_nil ?_
          refine se_sd (fun _ w hw => all_ hw) ?_
          refine sd_one 8 (by kernel_rfl) (sa_sl 8 rfl ?_)
          refine sl_box rfl rfl rfl ?_; intro g
          refine sl_nil ?_
          refine se_sd (fun _ w hw => all_ hw) ?_
          refine sd_one 10 (by kernel_rfl) (sa_sl 10 rfl ?_)
          refine sto_Sqb ?_
          refine sl_nil ?_
          refine se_sd (fun _ w hw => all_ hw) ?_
          refine sd_done (by kernel_rfl) ?_
          exact se_mid (g, g14, gi, mw, ms) (by exact has_) (by exact sub_) trivial
        · refine sl_makeMap (d := .array 16 5) rfl ?_
          intro ms
          refine sl_nil ?_
          refine se_sd (fun _ w hw => all_ hw) ?_
          refine sd_one 3 (by kernel_rfl) (sa_sl 3 rfl ?_)
          refine sl_call rfl rfl (by kernel_rfl) rfl Sub.refl (new_ok limit) ?_
          rintro gi -
          refine sl_nil ?_
          refine se_sd (fun _ w hw => all_ hw) ?_
          refine sd_one 7 (by kernel_rfl) (sa_sl 7 rfl ?_)
          refine sl_pu (pu_build (v := .agg (stC9 t p.gj gi gb mw ms 0).toArray) rfl (fun W => by kernel_rfl)) rfl ?_
          refine sl_nil ?_
          refine se_sd (fun _ w hw => all_ hw) ?_
          refine sd_one 8 (by kernel_rfl) (sa_sl 8 rfl ?_)
          refine sl_box rfl rfl rfl ?_; intro g
          refine sl_nil ?_
          refine se_sd (fun _ w hw => all_ hw) ?_
          refine sd_one 10 (by kernel_rfl) (sa_sl 10 rfl ?_)
          refine sto_Sqb ?_
          refine sl_nil ?_
          refine se_sd (fun _ w hw => all_ hw) ?_
          refine sd_done (by kernel_rfl) ?_
          exact se_mid (g, g14, gi, mw, ms) (by exact has_) (by exact sub_) trivial
      · refine sl_makeMap (d := .array 16 5) rfl ?_
        intro ms
        refine sl_nil ?_
        refine se_sd (fun _ w hw => all_ hw) ?_
        refine sd_two 3 5 (by kernel_rfl) (sa_sl 3 rfl ?_) (sa_sl 5 rfl ?_)
        · refine sl_call rfl rfl (by kernel_rfl) rfl Sub.refl (new_ok limit) ?_
          rintro gi -
          refine sl_nil ?_
          refine se_sd (fun _ w hw => all_ hw) ?_
          refine sd_one 5 (by kernel_rfl) (sa_sl 5 rfl ?_)
          refine sl_makeMap (d := .array 16 5) rfl ?_
          intro mw
          refine sl_nil ?_
          refine se_sd (fun _ w hw => all_ hw) ?_
          refine sd_one 7 (by kernel_rfl) (sa_sl 7 rfl ?_)
          refine sl_pu (pu_build (v := .agg (stC9 t p.gj gi gb mw ms 0).toArray) rfl (fun W => by kernel_rfl)) rfl ?_
          refine sl_nil ?_
          refine se_sd (fun _ w hw => all_ hw) ?_
          refine sd_one 8 (by kernel_rfl) (sa_sl 8 rfl ?_)
          refine sl_box rfl rfl rfl ?_; intro g
          refine sl_nil ?_
          refine se_sd (fun _ w hw => all_ hw) ?_
          refine sd_one 10 (by kernel_rfl) (sa_sl 10 rfl ?_)
          refine sto_Sqb ?_
          refine sl_nil ?_
          refine se_sd (fun _ w hw => all_ hw) ?_
          refine sd_done (by kernel_rfl) ?_
          exact se_mid (g, g14, gi, mw, ms) (by exact has_) (by exact sub_) trivial
        · refine sl_makeMap (d := .array 16 5) rfl ?_
          intro mw
          refine sl_nil ?_
          refine se_sd (fun _ w hw => all_ hw) ?_
          refine sd_one 3 (by kernel_rfl) (sa_sl 3 rfl ?_)
          refine sl_call rfl rfl (by kernel_rfl) rfl Sub.refl (new_ok limit) ?_
          rintro gi -
          refine sl_nil ?_
          refine se_sd (fun _ w hw => all_ hw) ?_
          refine sd_one 7 (by kernel_rfl) (sa_sl 7 rfl ?_)
          refine sl_pu (pu_build (v := .agg (stC9 t p.gj gi gb mw ms 0).toArray) rfl (fun W => by kernel_rfl)) rfl ?_
          refine sl_nil ?_
          refine se_sd (fun _ w hw => all_ hw) ?_
          refine sd_one 8 (by kernel_rfl) (sa_sl 8 rfl ?_)
          refine sl_box rfl rfl rfl ?_; intro g
          refine sl_nil ?_
          refine se_sd (fun _ w hw => all_ hw) ?_
          refine sd_one 10 (by kernel_rfl) (sa_sl 10 rfl ?_)
          refine sto_Sqb ?_
          refine sl_nil ?_
          refine se_sd (fun _ w hw => all_ hw) ?_
          refine sd_done (by kernel_rfl) ?_
          exact se_mid (g, g14, gi, mw, ms) (by exact has_) (by exact sub_) trivial
  rintro ⟨g, g14, gi, mw, ms⟩ -
  dsimp only
  have hst : ∀ x q K', x ∈ p.q.xs → Sub K' [KpO p] → SI p.gj q → Fn Tryz.prog 44 #[.pointer (some ⟨g, 0, none⟩), x.v] (sF g t r (min (max limit 0) 256) q K') (Ret (fun z : Int × StM => z.1 = 0 → SI p.gj z.2) (fun z => .int .i64 z.1) (fun z => sF g t r (min (max limit 0) 256) z.2 K')) := by
    intro x q K' hm hK hI
    have hxo := hp2 x hm
    exact again_any (Z := [KpO p]) hK (kpo_rd hm hxo) hxo.2.2 (hout _ (by rw [← hp1]; exact List.mem_map.2 ⟨x, hm, rfl⟩)) hw (by omega) hI
  obtain ⟨R, hR⟩ : ∃ R, R = p.q.R := ⟨_, rfl⟩
  rw [← hR] at hJS3 ⊢
  refine go_Sqb ?_
  refine sc_for (fun z : Nat × StM => [(14, .pointer (some ⟨g14, 0, none⟩)), (46, .slice R p.q.xs.length p.q.c), (47, .int .i64 p.q.xs.length), (48, .int .i64 z.1)])
    (fun z => sF g t r (min (max limit 0) 256) z.2 (goB g14 g :: jC p.gj gd sj k0 :: dB gd md 1048576 :: dM md [p.f] ckd :: dS [p.f] :: KpO p :: K0)) (fun z => z.1 ≤ p.q.xs.length ∧ SI p.gj z.2) (fun z => p.q.xs.length - z.1)
    (0, ⟨p.gj, gi, gb, mw, mb, ms, none, 0, [], [], 0, [], 0, [], 0, 0⟩) (by exact has_)
    (by exact Sub.cons (by exact pick_) (Sub.cons (by exact pick_) (Sub.own_nil (Sub.cons (by exact pick_) (Sub.cons (by exact pick_) (Sub.cons (by exact pick_) (Sub.cons (by exact pick_) (sub_star0 (Sub.cons (by exact pick_) (sub_star0 (by exact sub_)))))))))))
    ⟨Nat.zero_le _, si0 p.gj _ rfl rfl rfl rfl rfl⟩ ?_
  rintro ⟨j, q⟩ ⟨hj, hI⟩
  dsimp only at hj hI ⊢
  by_cases hlt : j < p.q.xs.length
  · obtain ⟨x, hx⟩ : ∃ x, p.q.xs[j]? = some x := ⟨p.q.xs[j], List.getElem?_eq_getElem hlt⟩
    have hne : p.q.xs ≠ [] := fun e => by rw [e] at hlt; simp at hlt
    have hvw := hJS3
    refine sc_know (fun w hw => vw_form hvw (by omega) w (hw.sub (by exact Sub.cons (by exact pick_) Sub.nil))) ?_
    rintro ⟨ad, rfl⟩
    have hnth : nth (sxV p.q.xs) (j * 1) = some x.v := by
      rw [nth_eq, Nat.mul_one, sxV, List.getElem?_map, hx]
      rfl
    refine go_Sqb ?_
    refine sl_pu (pu_ldr (hvw.mono (by exact Sub.cons (by exact pick_) Sub.nil)) (by omega) rfl rfl hnth) rfl ?_
    refine go_Sqb ?_
    refine sl_call rfl rfl (by kernel_rfl) rfl Sub.refl (hst x q _ (List.mem_of_getElem? hx) (by exact Sub.cons (by exact pick_) Sub.nil) hI) ?_
    rintro ⟨z1, q2⟩ hz
    dsimp only at hz ⊢
    by_cases hz1 : z1 = 0
    · subst hz1
      refine go_Sqb ?_
      exact se_round (j + 1, q2) (by exact has_) (by exact sub_) ⟨hlt, hz rfl⟩ (by dsimp only; omega)
    · refine go_Sqb ?_
      exact se_ret2 none trivial rfl rfl rfl rfl (by exact sub_)
  · obtain rfl : j = p.q.xs.length := by omega
    have hIj := hI.gj
    have hIl := hI.life
    have hlr : (rcLife (q.life + 1)).length = 6 := le_len _ _
    have hml : manyL (5 :: rcLife (q.life + 1)).length = 1 := by rw [List.length_cons, hlr]; rfl
    have hrb : IsBytes (5 :: rcLife (q.life + 1)) := fun x hx => by
      rcases List.mem_cons.1 hx with e | e
      · omega
      · exact le_bytes _ _ x e
    rw [← hIj]
    refine go_Sqb ?_
    refine sl_call rfl rfl (by kernel_rfl) rfl (by exact sub_) (note_any (K := ixb q.gi q.iA q.ss.length q.ic (min (max limit 0) 256) :: ixo q.iA q.ic q.ss :: bB q.gb t r q.mb :: bM q.mb q.fs q.cb :: bS q.fs :: wM q.mw q.ws q.cw :: wS q.ws :: dMm q.ms q.sd q.cs :: dSs q.sd :: goB g14 g :: K0)
      (g := g) (gj := q.gj) (gi := q.gi) (gb := q.gb) (mw := q.mw) (ms := q.ms) (gd := gd) (md := md) (ckd := ckd) (t := t) (life := q.life + 1) (lim := 1048576) (kind := 5) (f := 46) (caps := [.pointer (some ⟨g14, 0, none⟩)]) (bs := rcLife (q.life + 1)) (kk := k0) (fd := p.f)
      (by kernel_rfl) hp3 (by omega) (by omega) hrb (by rw [List.length_cons, hlr]; decide) (by rw [hml]; omega) (by decide) (fun b A c => fLife_ok (by exact at_) (by exact at_) ⟨by omega, by omega⟩)) ?_
    rintro f2 ⟨hf1, hf2, hf3⟩
    have hrl : (recL k0 (5 :: rcLife (q.life + 1))).length = 64 := by rw [recL_len, hml]
    have hfl : f2.l.length = p.f.l.length + 64 := by rw [hf2, List.length_append, hrl]
    refine go_Sqb ?_
    refine sd_drawn (fun W => AllP W [goB g14 g]) (fun _ => true) (by kernel_rfl) 5 rfl ?_
    refine sd_yes2 0 rfl (by exact gd_) (by kernel_rfl) (by kernel_rfl) (by exact nop_) (PuI.all (by exact pv_Sqb)) rfl (fun w hw => all_ hw) ?_
    refine sd_yes2 1 rfl (by exact gd_) (by kernel_rfl) (by kernel_rfl) (by exact nop_) (PuI.all (by exact pv_Sqb)) rfl (fun w hw => all_ hw) ?_
    refine sd_one 2 (by kernel_rfl) (sa_sl 2 rfl ?_)
    refine sl_call rfl rfl (by kernel_rfl) rfl (by exact sub_) (ssync_any (K := ixb q.gi q.iA q.ss.length q.ic (min (max limit 0) 256) :: ixo q.iA q.ic q.ss :: bB q.gb t r q.mb :: bM q.mb q.fs q.cb :: bS q.fs :: wM q.mw q.ws q.cw :: wS q.ws :: dMm q.ms q.sd q.cs :: dSs q.sd :: goB g14 g :: K0) (g := g) (gj := q.gj) (gi := q.gi) (gb := q.gb) (mw := q.mw) (ms := q.ms) (gd := gd) (md := md) (ckd := ckd) (t := t) (life := q.life + 1) (lim := 1048576) (f := f2) hf1 (by omega) (by omega)) ?_
    rintro f3 -
    refine sl_nil ?_
    refine se_sd (fun _ w hw => all_ hw) ?_
    refine sd_yes2 3 rfl (by exact gd_) (by kernel_rfl) (by kernel_rfl) (by exact nop_) (PuI.all (by exact pv_Sqb)) rfl (fun w hw => all_ hw) ?_
    refine sd_yes2 4 rfl (by exact gd_) (by kernel_rfl) (by kernel_rfl) (by exact nop_) (PuI.all (by exact pv_Sqb)) rfl (fun w hw => all_ hw) ?_
    refine sd_done (by kernel_rfl) ?_
    refine go_Sqb ?_
    exact se_ret2 (some g) trivial rfl rfl rfl rfl (by exact sub_)
end Go.Proofs.YtocaabnbmcpjmaaGreat
