/- Several texts of one claim, one behind the other (Sky, Skz, Sqa). -/
import Derived.Test.YtocaabnbmcpjmaaGreatB22
import Derived.Test.YtocaabnbmcpjmaaGreatB10
set_option linter.unusedVariables false
set_option linter.unusedSimpArgs false
/- Package store: reject. -/
namespace Go.Proofs.YtocaabnbmcpjmaaGreat
open Go.RowKit Go.MapKept
attribute [local irreducible] Go.Calls Go.Exit.then Go.Exit.inBlock Go.bodyPost Go.Code.wp Go.wpList takeL recordL hashL recL allL decR
def rejE (q : StM) (id : Id) (c : Int) : Int := if (wfind q.ws id).isSome then (if c = 0 ∨ c = 30 then 10 else 0) else 19
def wdel (ws : List Wt) (id : Id) : List Wt := ws.eraseP (fun w => decide (w.id.l = id.l))
theorem wfind_split {ws : List Wt} {id : Id} {w : Wt} (h : wfind ws id = some w) : w.id = id ∧ ∃ X Y, ws = X ++ w :: Y ∧ wdel ws id = X ++ Y := by
  obtain ⟨h1, X, Y, h2, h3⟩ := List.find?_eq_some_iff_append.1 h
  refine ⟨(wfind_some h).2, X, Y, h2, ?_⟩
  unfold wdel
  rw [h2, List.eraseP_append_right _ (fun b hb => by simpa using h3 b hb), List.eraseP_cons_of_pos (p := fun w : Wt => decide (w.id.l = id.l)) h1]
theorem setI_len {ss : List Seen} {id : Id} {c : Int} {hc : -9223372036854775808 ≤ c ∧ c ≤ 9223372036854775807} : (setI ss id c hc).2.length = ss.length := by
  unfold setI
  split
  · exact List.length_set
  · rfl
theorem set_okL {K : List Fa} {x c : Nat} {A : Option Addr} {ss : List Seen} {lim : Int} (id : Id) {co : Int} (hc : -9223372036854775808 ≤ co ∧ co ≤ 9223372036854775807) (hs : Srt ss) (hn : ss.length ≤ 1000000) :
    Fn Tryz.prog 109 #[.pointer (some ⟨x, 0, none⟩), id.v, .int .i64 co] (ixb x A ss.length c lim :: ixo A c ss :: K) (Ret (fun _ : Option Addr × Nat => True) (fun _ => .int .i64 (setI ss id co hc).1) (fun p => ixb x p.1 (setI ss id co hc).2.length p.2 lim :: ixo p.1 p.2 (setI ss id co hc).2 :: K)) :=
  (set_ok id hc hs hn).say fun p w _ hw => ⟨p, trivial, rfl, by rw [setI_len]; exact hw⟩
theorem nth_Sky {φ : Prop} (h : φ := by (first | rfl | first | rfl | exact rpC_n16 | exact rpC_n17 | exact rpC_n18 | exact stC9_n9)) : φ := h
theorem mid_Sky {φ : Prop} (h : φ := by (first | first | exact rpC_id | exact stC9_mid | exact stC9_ci | exact Mid.all | exact Mid.all | exact Mid.head)) : φ := h
theorem sz_Sky {φ : Prop} (h : φ := by (first | rfl | ((try simp only [Wt.cells, rpC_len, bytes_length, Id.len, Seen.len]); (first | done | rfl); first | done | fail))) : φ := h
theorem one_Sky {φ : Prop} (h : φ := by (first | assumption | exact first | exact one_bytes _ | exact rpC_one rfl rfl | exact Seen.one _ | (simp only [List.mem_cons, List.not_mem_nil, or_false, forall_eq_or_imp, forall_eq]; decide) | exact one_bytes _ | (intro v hv; (repeat (rcases List.mem_cons.1 hv with rfl | hv; rfl)); cases hv))) : φ := h
theorem set_Sky {φ : Prop} (h : φ := by (first | (first | exact rpC_set16 | exact rpC_set17 | exact rpC_set18) | ((repeat (first | exact SetAt.here | apply SetAt.there)); first | done | fail))) : φ := h
theorem cl_Sky {φ : Prop} (h : φ := by first | rfl | exact .t | exact .f | exact .t (by omega) | exact .f (by omega) | exact .u | exact .i (by (first | exact .t (by omega) | exact .f (by omega) | exact .u | exact .i (by omega) | exact .v (by omega) | exact .b (by omega) | exact .w | rfl | omega)) | exact .v (by omega) | exact .b (by omega) | exact .q (by omega) | exact .w | exact .b (by exact at_) rfl (by exact nth_Sky) | exact .w (by exact at_) rfl rfl (by exact sz_Sky) | exact .s (by exact at_) (by exact mid_Sky) rfl rfl (by exact sz_Sky) | exact .z rfl rfl ⟨by kernel_rfl⟩ | exact .b rfl rfl ⟨by kernel_rfl⟩ | exact .a rfl rfl ⟨by kernel_rfl⟩ | exact .o rfl | exact .s | exact .n | exact .p rfl | exact .q rfl | exact .c rfl | exact .d rfl | exact .n rfl rfl (by omega) | exact .a rfl rfl (by omega) | exact .p rfl rfl (by omega) (by omega) | exact .y rfl rfl (by omega) (by omega) | exact .o (by exact at_) (by omega) rfl (by exact nth_Sky) | exact .m (by exact at_) (by omega) (by exact mid_Sky) rfl rfl (by exact sz_Sky) | exact .mlen (by exact at_) rfl | exact .t (by exact at_) rfl rfl (by first | exact True.intro | rfl) (by assumption) | exact .f (by exact at_) rfl rfl (by first | exact True.intro | rfl) (by assumption) rfl | exact .t1 (by exact at_) rfl rfl (by first | exact True.intro | rfl) (by assumption) | exact .f1 (by exact at_) rfl rfl (by first | exact True.intro | rfl) (by assumption) rfl | exact .tk (by exact at_) rfl (by assumption) (by assumption) | exact .fk (by exact at_) rfl (by assumption) (by assumption) rfl | exact .tk1 (by exact at_) rfl (by assumption) (by assumption) | exact .fk1 (by exact at_) rfl (by assumption) (by assumption) rfl | exact .r rfl rfl (by omega) (by omega) (by exact nth_Sky) rfl | exact .s rfl (by omega) (by assumption) | exact at_ | assumption | exact .r rfl rfl | exact .h rfl rfl rfl (by omega) | exact .l rfl rfl rfl (by omega) (by omega) | exact .g rfl rfl rfl rfl (by omega) (by omega) | exact .h rfl rfl (toN_ (by omega)) (by omega) | exact .l rfl rfl (toN_ (by omega)) (by omega) (by omega) | exact .g rfl rfl (toN_ (by omega)) (toN_ (by omega)) (by omega) (by omega) | exact .o (by decide) | exact .f (by decide) | exact .n (by omega) (by first | decide | (show _ ≤ ((64 : Nat) : Int); omega)) | (constructor; (repeat (first | exact .t (by omega) | exact .f (by omega) | exact .u | exact .i (by omega) | exact .v (by omega) | exact .b (by omega) | exact .w | rfl | omega)); first | done | fail) | omega | (show _ ≤ ((64 : Nat) : Int); omega)) : φ := h
theorem pv_Sky {φ : Prop} (h : φ := by constructor; (repeat exact cl_Sky); first | done | fail) : φ := h
theorem su_Sky {φ ψ : Prop} (k : ψ) (h : Hide ψ → φ := by (intro k; (first | refine sl_pu (PuI.sep (by exact pv_Sky)) rfl ?_ | refine sl_yes rfl rfl ?_ | refine sl_no rfl rfl rfl ?_ | refine sl_off rfl rfl rfl ?_ | (fail)); exact k.out)) : φ := h ⟨k⟩
theorem sto_Sky {φ ψ : Prop} (k : ψ) (h : Hide ψ → φ := by (intro k; (first | refine sl_store rfl (by exact pick_) rfl rfl (by kernel_rfl) (by exact set_Sky) ?_ | refine sl_store_whole rfl (by exact pick_) rfl (by exact sz_Sky) (by exact sz_Sky) (by exact one_Sky) ?_); exact k.out)) : φ := h ⟨k⟩
theorem go_Sky {φ ψ : Prop} (k : ψ) (h : Hide ψ → φ := by (intro k; (repeat (first | refine su_Sky ?_ | refine so_ ?_ | refine sto_Sky ?_)); exact k.out)) : φ := h ⟨k⟩
set_option maxRecDepth 100000 in
set_option maxHeartbeats 4000000 in
theorem sreject_ok {K : List Fa} {g : Nat} {t : Ta} {r : Rl} {lim c : Int} {q : StM} {id : Id} (hc : -9223372036854775808 ≤ c ∧ c ≤ 9223372036854775807) (hs : Srt q.ss) (hn : q.ss.length ≤ 1000000) :
    Fn Tryz.prog 69 #[.pointer (some ⟨g, 0, none⟩), id.v, .int .i64 c] (sF g t r lim q K)
      (Ret (fun z : Int × StM => z.1 = rejE q id c ∧ (z.1 ≠ 0 → z.2 = q) ∧ (z.1 = 0 → ∃ A1 c1, z.2 = { q with iA := A1, ic := c1, ss := (setI q.ss id c hc).2, ws := wdel q.ws id })) (fun z => .int .i64 z.1) (fun z => sF g t r lim z.2 K)) := by
  refine fn_enter Tryz.func69 rfl _ Tryz.ntmps69 (by simp) [(0, .pointer (some ⟨g, 0, none⟩)), (1, id.v), (2, .int .i64 c)] (args_of (by simp)) ?_
  have hk := id.klaw
  cases hf : wfind q.ws id with
  | none =>
    have hno : MNo (q.ws.map WM.ent) id.v := kno (M := WM) (wfind_none hf)
    have he : rejE q id c = 19 := by unfold rejE; rw [hf]; rfl
    refine go_Sky ?_
    refine sl_box rfl rfl rfl ?_; intro g4
    refine go_Sky ?_
    refine sd_drawn (fun W => AllP W [sB g t q.gj q.gi q.gb q.mw q.ms q.life, blk g4 47 (bytes id.l), wM q.mw q.ws q.cw]) (fun _ => true) (by kernel_rfl) 12 rfl ?_
    refine sd_yes2 0 rfl (by exact gd_) (by kernel_rfl) (by kernel_rfl) (by exact nop_) (PuI.all (by exact pv_Sky)) rfl (fun w hw => all_ hw) ?_
    refine sd_yes2 1 rfl (by exact gd_) (by kernel_rfl) (by kernel_rfl) (by exact nop_) (PuI.all (by exact pv_Sky)) rfl (fun w hw => all_ hw) ?_
    refine sd_yes2 2 rfl (by exact gd_) (by kernel_rfl) (by kernel_rfl) (by exact nop_) (PuI.all (by exact pv_Sky)) rfl (fun w hw => all_ hw) ?_
    refine sd_yes2 3 rfl (by exact gd_) (by kernel_rfl) (by kernel_rfl) (by exact nop_) (PuI.all (by exact pv_Sky)) rfl (fun w hw => all_ hw) ?_
    refine sd_yes2 4 rfl (by exact gd_) (by kernel_rfl) (by kernel_rfl) (by exact nop_) (PuI.all (by exact pv_Sky)) rfl (fun w hw => all_ hw) ?_
    refine sd_yes2 5 rfl (by exact gd_) (by kernel_rfl) (by kernel_rfl) (by exact nop_) (PuI.all (by exact pv_Sky)) rfl (fun w hw => all_ hw) ?_
    refine sd_yes2 6 rfl (by exact gd_) (by kernel_rfl) (by kernel_rfl) (by exact nop_) (PuI.all (by exact pv_Sky)) rfl (fun w hw => all_ hw) ?_
    refine sd_yes2 7 rfl (by exact gd_) (by kernel_rfl) (by kernel_rfl) (by exact nop_) (PuI.all (by exact pv_Sky)) rfl (fun w hw => all_ hw) ?_
    refine sd_yes2 8 rfl (by exact gd_) (by kernel_rfl) (by kernel_rfl) (by exact nop_) (PuI.all (by exact pv_Sky)) rfl (fun w hw => all_ hw) ?_
    refine sd_one 9 (by kernel_rfl) (sa_sl 9 rfl ?_)
    refine sl_alloc rfl rfl rfl ?_; intro g7
    refine sl_nil ?_
    refine se_sd (fun _ w hw => all_ hw) ?_
    refine sd_one 10 (by kernel_rfl) (sa_sl 10 rfl ?_)
    refine sto_Sky ?_
    refine sl_nil ?_
    refine se_sd (fun _ w hw => all_ hw) ?_
    refine sd_yes2 11 rfl (by exact gd_) (by kernel_rfl) (by kernel_rfl) (by exact nop_) (PuI.all (by exact pv_Sky)) rfl (fun w hw => all_ hw) ?_
    refine sd_done (by kernel_rfl) ?_
    refine go_Sky ?_
    exact se_ret1 ((19, q) : Int × StM) ⟨he.symm, fun _ => rfl, fun h => by cases h⟩ rfl rfl (by exact sub_)
  | some x =>
    obtain ⟨rfl, X, Y, hXY, hdel⟩ := wfind_split hf
    have hg : MGet (q.ws.map WM.ent) x.id.v (.agg x.cells.toArray) := kget (M := WM) (wfind_some hf).1
    refine go_Sky ?_
    refine sl_box rfl rfl rfl ?_; intro g4
    refine go_Sky ?_
    refine sd_drawn (fun W => AllP W [sB g t q.gj q.gi q.gb q.mw q.ms q.life, blk g4 47 (bytes x.id.l), wM q.mw q.ws q.cw]) (fun _ => true) (by kernel_rfl) 12 rfl ?_
    refine sd_yes2 0 rfl (by exact gd_) (by kernel_rfl) (by kernel_rfl) (by exact nop_) (PuI.all (by exact pv_Sky)) rfl (fun w hw => all_ hw) ?_
    refine sd_yes2 1 rfl (by exact gd_) (by kernel_rfl) (by kernel_rfl) (by exact nop_) (PuI.all (by exact pv_Sky)) rfl (fun w hw => all_ hw) ?_
    refine sd_yes2 2 rfl (by exact gd_) (by kernel_rfl) (by kernel_rfl) (by exact nop_) (PuI.all (by exact pv_Sky)) rfl (fun w hw => all_ hw) ?_
    refine sd_yes2 3 rfl (by exact gd_) (by kernel_rfl) (by kernel_rfl) (by exact nop_) (PuI.all (by exact pv_Sky)) rfl (fun w hw => all_ hw) ?_
    refine sd_yes2 4 rfl (by exact gd_) (by kernel_rfl) (by kernel_rfl) (by exact nop_) (PuI.all (by exact pv_Sky)) rfl (fun w hw => all_ hw) ?_
    refine sd_yes2 5 rfl (by exact gd_) (by kernel_rfl) (by kernel_rfl) (by exact nop_) (PuI.all (by exact pv_Sky)) rfl (fun w hw => all_ hw) ?_
    refine sd_yes2 6 rfl (by exact gd_) (by kernel_rfl) (by kernel_rfl) (by exact nop_) (PuI.all (by exact pv_Sky)) rfl (fun w hw => all_ hw) ?_
    refine sd_yes2 7 rfl (by exact gd_) (by kernel_rfl) (by kernel_rfl) (by exact nop_) (PuI.all (by exact pv_Sky)) rfl (fun w hw => all_ hw) ?_
    refine sd_yes2 8 rfl (by exact gd_) (by kernel_rfl) (by kernel_rfl) (by exact nop_) (PuI.all (by exact pv_Sky)) rfl (fun w hw => all_ hw) ?_
    refine sd_one 9 (by kernel_rfl) (sa_sl 9 rfl ?_)
    refine sl_alloc rfl rfl rfl ?_; intro g7
    refine sl_nil ?_
    refine se_sd (fun _ w hw => all_ hw) ?_
    refine sd_one 10 (by kernel_rfl) (sa_sl 10 rfl ?_)
    refine sto_Sky ?_
    refine sl_nil ?_
    refine se_sd (fun _ w hw => all_ hw) ?_
    refine sd_yes2 11 rfl (by exact gd_) (by kernel_rfl) (by kernel_rfl) (by exact nop_) (PuI.all (by exact pv_Sky)) rfl (fun w hw => all_ hw) ?_
    refine sd_done (by kernel_rfl) ?_
    by_cases h0 : c = 0
    · have he : rejE q x.id c = 10 := by unfold rejE; rw [hf]; show (if c = 0 ∨ c = 30 then (10 : Int) else 0) = _; rw [if_pos (.inl h0)]
      refine go_Sky ?_
      exact se_ret1 ((10, q) : Int × StM) ⟨he.symm, fun _ => rfl, fun h => by cases h⟩ rfl rfl (by exact sub_)
    by_cases h30 : c = 30
    · have he : rejE q x.id c = 10 := by unfold rejE; rw [hf]; show (if c = 0 ∨ c = 30 then (10 : Int) else 0) = _; rw [if_pos (.inr h30)]
      refine go_Sky ?_
      exact se_ret1 ((10, q) : Int × StM) ⟨he.symm, fun _ => rfl, fun h => by cases h⟩ rfl rfl (by exact sub_)
    have he : rejE q x.id c = 0 := by unfold rejE; rw [hf]; show (if c = 0 ∨ c = 30 then (10 : Int) else 0) = _; rw [if_neg (by omega)]
    refine go_Sky ?_
    refine sd_drawn (fun W => AllP W [sB g t q.gj q.gi q.gb q.mw q.ms q.life, blk g4 47 (bytes x.id.l)]) (fun _ => true) (by kernel_rfl) 7 rfl ?_
    refine sd_yes2 0 rfl (by exact gd_) (by kernel_rfl) (by kernel_rfl) (by exact nop_) (PuI.all (by exact pv_Sky)) rfl (fun w hw => all_ hw) ?_
    refine sd_yes2 1 rfl (by exact gd_) (by kernel_rfl) (by kernel_rfl) (by exact nop_) (PuI.all (by exact pv_Sky)) rfl (fun w hw => all_ hw) ?_
    refine sd_yes2 2 rfl (by exact gd_) (by kernel_rfl) (by kernel_rfl) (by exact nop_) (PuI.all (by exact pv_Sky)) rfl (fun w hw => all_ hw) ?_
    refine sd_yes2 3 rfl (by exact gd_) (by kernel_rfl) (by kernel_rfl) (by exact nop_) (PuI.all (by exact pv_Sky)) rfl (fun w hw => all_ hw) ?_
    refine sd_yes2 4 rfl (by exact gd_) (by kernel_rfl) (by kernel_rfl) (by exact nop_) (PuI.all (by exact pv_Sky)) rfl (fun w hw => all_ hw) ?_
    refine sd_yes2 5 rfl (by exact gd_) (by kernel_rfl) (by kernel_rfl) (by exact nop_) (PuI.all (by exact pv_Sky)) rfl (fun w hw => all_ hw) ?_
    refine sd_one 6 (by kernel_rfl) (sa_sl 6 rfl ?_)
    refine sl_call rfl rfl (by kernel_rfl) rfl (by exact Sub.cons (by exact pick_) (Sub.cons (by exact pick_) Sub.refl)) (set_okL (x := q.gi) (A := q.iA) (c := q.ic) (lim := lim) (ss := q.ss) x.id hc hs hn) ?_
    rintro ⟨A1, c1⟩ -
    refine sl_nil ?_
    refine se_sd (fun _ w hw => all_ hw) ?_
    refine sd_done (by kernel_rfl) ?_
    dsimp only
    refine go_Sky ?_
    refine sd_drawn (fun W => AllP W [sB g t q.gj q.gi q.gb q.mw q.ms q.life, blk g4 47 (bytes x.id.l)]) (fun _ => true) (by kernel_rfl) 6 rfl ?_
    refine sd_yes2 0 rfl (by exact gd_) (by kernel_rfl) (by kernel_rfl) (by exact nop_) (PuI.all (by exact pv_Sky)) rfl (fun w hw => all_ hw) ?_
    refine sd_yes2 1 rfl (by exact gd_) (by kernel_rfl) (by kernel_rfl) (by exact nop_) (PuI.all (by exact pv_Sky)) rfl (fun w hw => all_ hw) ?_
    refine sd_yes2 2 rfl (by exact gd_) (by kernel_rfl) (by kernel_rfl) (by exact nop_) (PuI.all (by exact pv_Sky)) rfl (fun w hw => all_ hw) ?_
    refine sd_yes2 3 rfl (by exact gd_) (by kernel_rfl) (by kernel_rfl) (by exact nop_) (PuI.all (by exact pv_Sky)) rfl (fun w hw => all_ hw) ?_
    refine sd_yes2 4 rfl (by exact gd_) (by kernel_rfl) (by kernel_rfl) (by exact nop_) (PuI.all (by exact pv_Sky)) rfl (fun w hw => all_ hw) ?_
    refine sd_one 5 (by kernel_rfl) (sa_sl 5 rfl ?_)
    refine sl_kdelK (M := WM) (X := X) (Y := Y) (f := x) rfl rfl (by rw [hXY]; exact pick_) rfl hk ?_
    refine sl_nil ?_
    refine se_sd (fun _ w hw => all_ hw) ?_
    refine sd_done (by kernel_rfl) ?_
    refine go_Sky ?_
    refine se_subK (L' := wS (X ++ x :: Y) :: wM q.mw (X ++ Y) q.cw :: sB g t q.gj q.gi q.gb q.mw q.ms q.life :: ixb q.gi A1 (setI q.ss x.id c hc).2.length c1 lim :: ixo A1 c1 (setI q.ss x.id c hc).2 :: bB q.gb t r q.mb :: bM q.mb q.fs q.cb :: bS q.fs :: dMm q.ms q.sd q.cs :: dSs q.sd :: K) (by rw [← hXY]; exact sub_) ?_
    refine se_ent (ks_del (M := WM)) ?_
    exact se_ret1 ((0, { q with iA := A1, ic := c1, ss := (setI q.ss x.id c hc).2, ws := X ++ Y }) : Int × StM) ⟨he.symm, fun h => absurd rfl h, fun _ => ⟨A1, c1, by rw [hdel]⟩⟩ rfl rfl (by exact sub_)
end Go.Proofs.YtocaabnbmcpjmaaGreat
/- Package store: again, whatever the record is, at a store with no windows. -/
namespace Go.Proofs.YtocaabnbmcpjmaaGreat
open Go.RowKit Go.MapKept
attribute [local irreducible] Go.Calls Go.Exit.then Go.Exit.inBlock Go.bodyPost Go.Code.wp Go.wpList takeL recordL hashL recL allL
theorem hasI_map {ss ss' : List Seen} (h : ss.map Seen.id = ss'.map Seen.id) (id : Id) : hasI ss id = hasI ss' id := by
  have e : ∀ l : List Seen, hasI l id = (l.map Seen.id).any (fun i => decide (cmpI i.l id.l = 0)) := fun l => by
    unfold hasI
    rw [List.any_map]
    rfl
  rw [e, e, h]
theorem setI_keeps {ss : List Seen} {id : Id} {c : Int} {hc : -9223372036854775808 ≤ c ∧ c ≤ 9223372036854775807} (hs : Srt ss) : Srt (setI ss id c hc).2 ∧ ∀ i, hasI (setI ss id c hc).2 i = hasI ss i := by
  unfold setI
  split
  · rename_i hh
    obtain ⟨s, h1, h2⟩ := hasI_pos hs hh
    have hg : getI ss id = s := by unfold getI; rw [h1]; rfl
    rw [hg]
    refine ⟨srt_set hs h1 rfl, fun i => hasI_map ?_ i⟩
    apply List.ext_getElem?
    intro k
    dsimp only
    rw [List.map_set, List.getElem?_set]
    split
    · rename_i e
      subst e
      rw [List.getElem?_map, h1]
      have := (List.getElem?_eq_some_iff.1 h1).1
      rw [List.length_map, if_pos this]
      rfl
    · rfl
  · exact ⟨hs, fun _ => rfl⟩
/-- What holds of a store that is done again, with no windows. -/
structure SI (gj : Nat) (q : StM) : Prop where
  gj : q.gj = gj
  srt : Srt q.ss
  len : q.ss.length ≤ 300
  fs : q.fs = []
  ws : ∀ w ∈ q.ws, hasI q.ss w.id = true
  life : 0 ≤ q.life ∧ q.life < 281474976710656
theorem SI.no {gj : Nat} {q : StM} (h : SI gj q) {id : Id} (hh : hasI q.ss id = false) : wfind q.ws id = none := by
  cases hf : wfind q.ws id with
  | none => rfl
  | some w =>
    obtain ⟨h1, h2⟩ := wfind_some hf
    have := h.ws w h1
    rw [h2, hh] at this
    cases this
def RcOk : Rc → Prop
  | .acc id t _ _ => (id.length = 16 ∧ IsBytes id) ∧ 0 ≤ t ∧ t < 281474976710656
  | .com .. => False
  | .rej id c => (id.length = 16 ∧ IsBytes id) ∧ 0 ≤ c ∧ c ≤ 255
  | .shut s => 0 ≤ s ∧ s < 281474976710656
  | .life n => 0 ≤ n ∧ n < 281474976710656
theorem gLong_ne {r : List Int} {c : Int} (h : gLong r = .inl c) : c ≠ 0 := by
  unfold gLong at h
  split at h
  · cases h; decide
  · split at h
    · cases h; decide
    · split at h
      · cases h; decide
      · cases h
theorem leV_tk {bs : List Int} (hb : IsBytes bs) (k : Nat) (hl : ¬ bs.length < k) : 0 ≤ leV (bs.take k) ∧ leV (bs.take k) < 2 ^ (8 * k) := by
  have h1 := leV_lt (xs := bs.take k) (fun x hx => hb x (List.mem_of_mem_take hx))
  rw [List.length_take, Nat.min_eq_left (by omega)] at h1
  exact h1
theorem bytes_drop {bs : List Int} (hb : IsBytes bs) (k : Nat) : IsBytes (bs.drop k) := fun x hx => hb x (List.mem_of_mem_drop hx)
theorem bytes_tk {bs : List Int} (hb : IsBytes bs) (k : Nat) : IsBytes (bs.take k) := fun x hx => hb x (List.mem_of_mem_take hx)
def DOk (x : Int ⊕ (Rc × Nat)) : Prop := (∀ c, x = .inl c → c ≠ 0) ∧ ∀ r m, x = .inr (r, m) → RcOk r
theorem DOk.err {c : Int} (h : c ≠ 0) : DOk (.inl c) := ⟨fun _ e => by cases e; exact h, fun _ _ e => by cases e⟩
theorem DOk.ok {r : Rc} {m : Nat} (h : RcOk r) : DOk (.inr (r, m)) := ⟨fun _ e => (by cases e), fun _ _ e => by cases e; exact h⟩
theorem dAcc_D {r : List Int} (hb : IsBytes r) : DOk (dAcc r) := by
  unfold dAcc
  split
  · exact .err (by decide)
  unfold dAcc2
  split
  · exact .err (by decide)
  rename_i h1 h2
  unfold dAcc3
  split
  · rename_i c hc
    exact .err (gLong_ne hc)
  unfold dAcc4
  split
  · rename_i c hc
    exact .err (gLong_ne hc)
  refine .ok ⟨⟨by rw [List.length_take]; omega, bytes_tk hb _⟩, ?_⟩
  exact leV_tk (bytes_drop hb 16) 6 h2
theorem dRej_D {r : List Int} (hb : IsBytes r) : DOk (dRej r) := by
  unfold dRej
  split
  · exact .err (by decide)
  unfold dRej2
  split
  · exact .err (by decide)
  rename_i h1 h2
  have h3 := leV_tk (bytes_drop hb 16) 1 h2
  exact .ok ⟨⟨by rw [List.length_take]; omega, bytes_tk hb _⟩, h3.1, by have := h3.2; omega⟩
theorem dShut_D {r : List Int} (hb : IsBytes r) : DOk (dShut r) := by
  unfold dShut
  split
  · exact .err (by decide)
  rename_i h1
  exact .ok (leV_tk hb 6 h1)
theorem dLife_D {r : List Int} (hb : IsBytes r) : DOk (dLife r) := by
  unfold dLife
  split
  · exact .err (by decide)
  rename_i h1
  exact .ok (leV_tk hb 6 h1)
theorem decR_D {bs : List Int} (hb : IsBytes bs) (h2 : ∀ x, bs[0]? = some x → x ≠ 2) : DOk (decR bs) := by
  unfold decR
  split
  · exact .err (by decide)
  rename_i h0
  have hbd := bytes_drop hb 1
  obtain ⟨x, rest, rfl⟩ : ∃ x rest, bs = x :: rest := by
    cases bs with
    | nil => simp at h0
    | cons x rest => exact ⟨x, rest, rfl⟩
  have hx2 := h2 x rfl
  have hv : leV ((x :: rest).take 1) = x := by
    show leV [x] = x
    simp [leV]
  rw [hv]
  split
  · exact dAcc_D hbd
  · split
    · exact dRej_D hbd
    · split
      · exact dShut_D hbd
      · split
        · exact dLife_D hbd
        · exact .err (by decide)
theorem nth_Skz {φ : Prop} (h : φ := by (first | rfl | first | rfl | exact stC9_n9)) : φ := h
theorem mid_Skz {φ : Prop} (h : φ := by (first | first | exact stC9_mid | exact stC9_ci | exact Mid.all | exact Mid.all | exact Mid.head)) : φ := h
theorem sz_Skz {φ : Prop} (h : φ := by (first | rfl | ((try simp only [tc_len, bytes_length, Id.len]); (first | done | rfl); first | done | fail))) : φ := h
theorem one_Skz {φ : Prop} (h : φ := by (first | assumption | exact first | exact one_bytes _ | exact tc_one | (simp only [List.mem_cons, List.not_mem_nil, or_false, forall_eq_or_imp, forall_eq]; decide) | exact one_bytes _ | (intro v hv; (repeat (rcases List.mem_cons.1 hv with rfl | hv; rfl)); cases hv))) : φ := h
theorem set_Skz {φ : Prop} (h : φ := by (first | (fail) | ((repeat (first | exact SetAt.here | apply SetAt.there)); first | done | fail))) : φ := h
theorem cl_Skz {φ : Prop} (h : φ := by first | rfl | exact .t | exact .f | exact .t (by omega) | exact .f (by omega) | exact .u | exact .i (by (first | exact .t (by omega) | exact .f (by omega) | exact .u | exact .i (by omega) | exact .v (by omega) | exact .b (by omega) | exact .w | rfl | omega)) | exact .v (by omega) | exact .b (by omega) | exact .q (by omega) | exact .w | exact .b (by exact at_) rfl (by exact nth_Skz) | exact .w (by exact at_) rfl rfl (by exact sz_Skz) | exact .s (by exact at_) (by exact mid_Skz) rfl rfl (by exact sz_Skz) | exact .z rfl rfl ⟨by kernel_rfl⟩ | exact .b rfl rfl ⟨by kernel_rfl⟩ | exact .a rfl rfl ⟨by kernel_rfl⟩ | exact .o rfl | exact .s | exact .n | exact .p rfl | exact .q rfl | exact .c rfl | exact .d rfl | exact .n rfl rfl (by omega) | exact .a rfl rfl (by omega) | exact .p rfl rfl (by omega) (by omega) | exact .y rfl rfl (by omega) (by omega) | exact .o (by exact at_) (by omega) rfl (by exact nth_Skz) | exact .m (by exact at_) (by omega) (by exact mid_Skz) rfl rfl (by exact sz_Skz) | exact .mlen (by exact at_) rfl | exact .t (by exact at_) rfl rfl (by first | exact True.intro | rfl) (by assumption) | exact .f (by exact at_) rfl rfl (by first | exact True.intro | rfl) (by assumption) rfl | exact .t1 (by exact at_) rfl rfl (by first | exact True.intro | rfl) (by assumption) | exact .f1 (by exact at_) rfl rfl (by first | exact True.intro | rfl) (by assumption) rfl | exact .tk (by exact at_) rfl (by assumption) (by assumption) | exact .fk (by exact at_) rfl (by assumption) (by assumption) rfl | exact .tk1 (by exact at_) rfl (by assumption) (by assumption) | exact .fk1 (by exact at_) rfl (by assumption) (by assumption) rfl | exact .r rfl rfl (by omega) (by omega) (by exact nth_Skz) rfl | exact .s rfl (by omega) (by assumption) | exact at_ | assumption | exact .r rfl rfl | exact .h rfl rfl rfl (by omega) | exact .l rfl rfl rfl (by omega) (by omega) | exact .g rfl rfl rfl rfl (by omega) (by omega) | exact .h rfl rfl (toN_ (by omega)) (by omega) | exact .l rfl rfl (toN_ (by omega)) (by omega) (by omega) | exact .g rfl rfl (toN_ (by omega)) (toN_ (by omega)) (by omega) (by omega) | exact .o (by decide) | exact .f (by decide) | exact .n (by omega) (by first | decide | (show _ ≤ ((64 : Nat) : Int); omega)) | (constructor; (repeat (first | exact .t (by omega) | exact .f (by omega) | exact .u | exact .i (by omega) | exact .v (by omega) | exact .b (by omega) | exact .w | rfl | omega)); first | done | fail) | omega | (show _ ≤ ((64 : Nat) : Int); omega)) : φ := h
theorem pv_Skz {φ : Prop} (h : φ := by constructor; (repeat exact cl_Skz); first | done | fail) : φ := h
theorem su_Skz {φ ψ : Prop} (k : ψ) (h : Hide ψ → φ := by (intro k; (first | refine sl_pu (PuI.sep (by exact pv_Skz)) rfl ?_ | refine sl_yes rfl rfl ?_ | refine sl_no rfl rfl rfl ?_ | refine sl_off rfl rfl rfl ?_ | (fail)); exact k.out)) : φ := h ⟨k⟩
theorem sto_Skz {φ ψ : Prop} (k : ψ) (h : Hide ψ → φ := by (intro k; (first | refine sl_store rfl (by exact pick_) rfl rfl (by kernel_rfl) (by exact set_Skz) ?_ | refine sl_store_whole rfl (by exact pick_) rfl (by exact sz_Skz) (by exact sz_Skz) (by exact one_Skz) ?_); exact k.out)) : φ := h ⟨k⟩
theorem go_Skz {φ ψ : Prop} (k : ψ) (h : Hide ψ → φ := by (intro k; (repeat (first | refine su_Skz ?_ | refine so_ ?_ | refine sto_Skz ?_)); exact k.out)) : φ := h ⟨k⟩
set_option maxRecDepth 100000 in
theorem dRej_ok {K : List Fa} {g go g1 g2 : Nat} {t : Ta} {r : Rl} {lim c : Int} {q : StM} {id : Id} (hc : -9223372036854775808 ≤ c ∧ c ≤ 9223372036854775807) (hs : Srt q.ss) (hn : q.ss.length ≤ 1000000) :
    Fn Tryz.prog 93 #[.pointer (some ⟨go, 0, none⟩), .pointer (some ⟨g1, 0, none⟩), .pointer (some ⟨g2, 0, none⟩)] (blk g1 47 (bytes id.l) :: blk g2 42 [.int .i64 c] :: goB go g :: sF g t r lim q K)
      (Ret (fun z : Int × StM => z.1 = rejE q id c ∧ (z.1 ≠ 0 → z.2 = q) ∧ (z.1 = 0 → ∃ A1 c1, z.2 = { q with iA := A1, ic := c1, ss := (setI q.ss id c hc).2, ws := wdel q.ws id })) (fun z => .int .i64 z.1) (fun z => sF g t r lim z.2 K)) := by
  refine fn_enter Tryz.func93 rfl _ Tryz.ntmps93 (by simp) [(0, .pointer (some ⟨go, 0, none⟩)), (1, .pointer (some ⟨g1, 0, none⟩)), (2, .pointer (some ⟨g2, 0, none⟩))] (args_of (by simp)) ?_
  refine go_Skz ?_
  refine sl_call rfl rfl (by kernel_rfl) rfl (by exact Sub.skip (Sub.skip (Sub.skip Sub.refl))) (sreject_ok (g := g) (t := t) (r := r) (lim := lim) (id := id) hc hs hn) ?_
  rintro z hz
  refine go_Skz ?_
  exact se_ret1 z hz rfl rfl (by exact sub_)
set_option maxRecDepth 100000 in
theorem dShut_no {K : List Fa} {g go g1 : Nat} {t : Ta} {r : Rl} {lim s : Int} {q : StM} (hw : 0 ≤ r.w) (h : 0 ≤ s ∧ s ≤ 18446744073709551615) (he : closeE r q.fs s ≠ 0) :
    Fn Tryz.prog 94 #[.pointer (some ⟨go, 0, none⟩), .pointer (some ⟨g1, 0, none⟩)] (blk g1 36 [.int .u64 s] :: goB go g :: sF g t r lim q K)
      (Ret (fun _ : Unit => True) (fun _ => .int .i64 (closeE r q.fs s)) (fun _ => sF g t r lim q K)) := by
  refine fn_enter Tryz.func94 rfl _ Tryz.ntmps94 (by simp) [(0, .pointer (some ⟨go, 0, none⟩)), (1, .pointer (some ⟨g1, 0, none⟩))] (args_of (by simp)) ?_
  refine go_Skz ?_
  refine sc_join (α := Nat) (fun _ => [(4, .int .i64 (closeE r q.fs s))]) (fun _ => sF g t r lim q K) (fun _ => True) ?_ ?_
  · refine sd_drawn (fun W => AllP W [goB go g, sB g t q.gj q.gi q.gb q.mw q.ms q.life, blk g1 36 [.int .u64 s]]) (fun _ => true) (by kernel_rfl) 12 rfl ?_
    refine sd_yes2 0 rfl (by exact gd_) (by kernel_rfl) (by kernel_rfl) (by exact nop_) (PuI.all (by exact pv_Skz)) rfl (fun w hw => all_ hw) ?_
    refine sd_yes2 1 rfl (by exact gd_) (by kernel_rfl) (by kernel_rfl) (by exact nop_) (PuI.all (by exact pv_Skz)) rfl (fun w hw => all_ hw) ?_
    refine sd_yes2 2 rfl (by exact gd_) (by kernel_rfl) (by kernel_rfl) (by exact nop_) (PuI.all (by exact pv_Skz)) rfl (fun w hw => all_ hw) ?_
    refine sd_yes2 3 rfl (by exact gd_) (by kernel_rfl) (by kernel_rfl) (by exact nop_) (PuI.all (by exact pv_Skz)) rfl (fun w hw => all_ hw) ?_
    refine sd_yes2 4 rfl (by exact gd_) (by kernel_rfl) (by kernel_rfl) (by exact nop_) (PuI.all (by exact pv_Skz)) rfl (fun w hw => all_ hw) ?_
    refine sd_two 5 9 (by kernel_rfl) (sa_sl 5 rfl ?_) (sa_sl 9 rfl ?_)
    · refine sl_call rfl rfl (by kernel_rfl) rfl Sub.refl (close_no (g := q.gb) (m := q.mb) (ck := q.cb) (t := t) (r := r) (fs := q.fs) (s := s) (by exact at_) (by exact at_) hw h he) ?_
      rintro _ -
      refine sl_nil ?_
      refine se_sd (fun _ w hw => all_ hw) ?_
      refine sd_yes2 6 rfl (by exact gd_) (by kernel_rfl) (by kernel_rfl) (by exact nop_) (PuI.all (by exact pv_Skz)) rfl (fun w hw => all_ hw) ?_
      refine sd_yes2 7 rfl (by exact gd_) (by kernel_rfl) (by kernel_rfl) (by exact nop_) (PuI.all (by exact pv_Skz)) rfl (fun w hw => all_ hw) ?_
      refine sd_yes2 8 rfl (by exact gd_) (by kernel_rfl) (by kernel_rfl) (by exact nop_) (PuI.all (by exact pv_Skz)) rfl (fun w hw => all_ hw) ?_
      refine sd_one 9 (by kernel_rfl) (sa_sl 9 rfl ?_)
      refine sl_alloc rfl rfl rfl ?_; intro g3
      refine sl_nil ?_
      refine se_sd (fun _ w hw => all_ hw) ?_
      refine sd_one 10 (by kernel_rfl) (sa_sl 10 rfl ?_)
      refine sto_Skz ?_
      refine sl_nil ?_
      refine se_sd (fun _ w hw => all_ hw) ?_
      refine sd_yes2 11 rfl (by exact gd_) (by kernel_rfl) (by kernel_rfl) (by exact nop_) (PuI.all (by exact pv_Skz)) rfl (fun w hw => all_ hw) ?_
      refine sd_done (by kernel_rfl) ?_
      exact se_mid 0 (by exact has_) (by exact sub_) trivial
    · refine sl_alloc rfl rfl rfl ?_; intro g3
      refine sl_nil ?_
      refine se_sd (fun _ w hw => all_ hw) ?_
      refine sd_one 5 (by kernel_rfl) (sa_sl 5 rfl ?_)
      refine sl_call rfl rfl (by kernel_rfl) rfl Sub.refl (close_no (g := q.gb) (m := q.mb) (ck := q.cb) (t := t) (r := r) (fs := q.fs) (s := s) (by exact at_) (by exact at_) hw h he) ?_
      rintro _ -
      refine sl_nil ?_
      refine se_sd (fun _ w hw => all_ hw) ?_
      refine sd_yes2 6 rfl (by exact gd_) (by kernel_rfl) (by kernel_rfl) (by exact nop_) (PuI.all (by exact pv_Skz)) rfl (fun w hw => all_ hw) ?_
      refine sd_yes2 7 rfl (by exact gd_) (by kernel_rfl) (by kernel_rfl) (by exact nop_) (PuI.all (by exact pv_Skz)) rfl (fun w hw => all_ hw) ?_
      refine sd_yes2 8 rfl (by exact gd_) (by kernel_rfl) (by kernel_rfl) (by exact nop_) (PuI.all (by exact pv_Skz)) rfl (fun w hw => all_ hw) ?_
      refine sd_one 10 (by kernel_rfl) (sa_sl 10 rfl ?_)
      refine sto_Skz ?_
      refine sl_nil ?_
      refine se_sd (fun _ w hw => all_ hw) ?_
      refine sd_yes2 11 rfl (by exact gd_) (by kernel_rfl) (by kernel_rfl) (by exact nop_) (PuI.all (by exact pv_Skz)) rfl (fun w hw => all_ hw) ?_
      refine sd_done (by kernel_rfl) ?_
      exact se_mid 0 (by exact has_) (by exact sub_) trivial
  rintro _ -
  refine go_Skz ?_
  exact se_ret1 () trivial rfl rfl (by exact sub_)
theorem addI_yes {lim : Int} {ss : List Seen} {s : Seen} (h : (addI lim ss s).1 = 0) : addI lim ss s = (0, insAt ss s) ∧ hasI ss s.id = false ∧ (ss.length : Int) < lim := by
  unfold addI at h ⊢
  split at h
  · cases h
  · split at h
    · cases h
    · split at h
      · cases h
      · rename_i h1 h2 h3
        rw [if_neg h1, if_neg h2, if_neg h3]
        exact ⟨rfl, by simpa using h2, by omega⟩
theorem SI.acc {gj : Nat} {q : StM} {lim tm : Int} {id : Id} {ht : 0 ≤ tm ∧ tm ≤ 18446744073709551615} {A1 : Option Addr} {c1 : Nat} {w : Wt} (hI : SI gj q) (hlm : lim ≤ 256) (hwid : w.id = id) (h : (addI lim q.ss ⟨id, tm, 30, ht, by decide⟩).1 = 0) : SI gj (q.acc lim ⟨id, tm, 30, ht, by decide⟩ A1 c1 w) := by
  obtain ⟨h1, h2, h3⟩ := addI_yes h
  refine ⟨hI.gj, ?_, ?_, hI.fs, ?_, hI.life⟩
  · show Srt (addI lim q.ss _).2
    rw [h1]
    exact srt_ins hI.srt h2
  · show (addI lim q.ss _).2.length ≤ 300
    rw [h1]
    show (insAt q.ss _).length ≤ 300
    rw [insAt_len]
    omega
  · show ∀ x ∈ (if (addI lim q.ss _).1 = 0 then q.ws ++ [w] else q.ws), hasI (addI lim q.ss _).2 x.id = true
    rw [if_pos h, h1]
    intro x hx
    show hasI (insAt q.ss _) x.id = true
    rw [has_ins]
    rcases List.mem_append.1 hx with e | e
    · rw [hI.ws x e]; rfl
    · rw [List.mem_singleton] at e
      subst e
      rw [hwid]
      simp [cmpI_self]
theorem SI.rej {gj : Nat} {q : StM} {id : Id} {c : Int} {hc : -9223372036854775808 ≤ c ∧ c ≤ 9223372036854775807} {A1 : Option Addr} {c1 : Nat} (hI : SI gj q) : SI gj { q with iA := A1, ic := c1, ss := (setI q.ss id c hc).2, ws := wdel q.ws id } := by
  obtain ⟨h1, h2⟩ := setI_keeps (id := id) (c := c) (hc := hc) hI.srt
  refine ⟨hI.gj, h1, by rw [setI_len]; exact hI.len, hI.fs, fun w hw => ?_, hI.life⟩
  rw [h2]
  exact hI.ws w (List.mem_of_mem_eraseP hw)
theorem again_any {K Z : List Fa} {g nn c gj : Nat} {A : Option Addr} {t : Ta} {r : Rl} {lim : Int} {q : StM} {bs : List Int} (hz : Sub K Z) (h : Rd Z A nn c bs) (hb : IsBytes bs) (h2 : ∀ x, bs[0]? = some x → x ≠ 2) (hw : 0 ≤ r.w) (hlm : lim ≤ 256) (hI : SI gj q) :
    Fn Tryz.prog 44 #[.pointer (some ⟨g, 0, none⟩), .slice A nn c] (sF g t r lim q K) (Ret (fun z : Int × StM => z.1 = 0 → SI gj z.2) (fun z => .int .i64 z.1) (fun z => sF g t r lim z.2 K)) := by
  have hz' : Sub (sF g t r lim q K) Z := Sub.skip (Sub.skip (Sub.skip (Sub.skip (Sub.skip (Sub.skip (Sub.skip (Sub.skip (Sub.skip (Sub.skip hz)))))))))
  obtain ⟨d1, d2⟩ := decR_D hb h2
  have hlen := hI.len
  cases hd : decR bs with
  | inl cc => exact (again_err (Z := Z) hz' h hd (d1 cc hd)).say fun _ w _ hw => ⟨(cc, q), fun e => absurd e (d1 cc hd), rfl, hw⟩
  | inr rm =>
    obtain ⟨rc, m⟩ := rm
    by_cases hm : m = 0
    · subst hm
      have hr := d2 rc 0 hd
      cases rc with
      | acc id tm p s =>
        obtain ⟨⟨hl, hi⟩, ht⟩ := hr
        refine again_do (r := .acc id tm p s) (Z := Z) hz' h hd (fun go x => ?_)
        refine Fn.sub ((dAcc_ok (g := g) (go := go) (g1 := x.g1) (t := t) (r := r) (lim := lim) (q := q) (id := ⟨id, hl, hi⟩) (tm := tm) (pA := x.A) (pc := x.c) (sA := x.B) (sc := x.d) (p := p) (s := s) (K := K) hI.srt (by omega) ⟨ht.1, by omega⟩ hI.no).say fun z w hq hw => ?_) Sub.refl
        obtain ⟨A1, c1, rfl⟩ := hq
        exact ⟨_, fun e => hI.acc (A1 := A1) (c1 := c1) (w := ⟨⟨id, hl, hi⟩, tm, x.A, x.c, p, x.B, x.d, s, q.cw⟩) hlm rfl e, rfl, hw⟩
      | com id b d => exact hr.elim
      | rej id co =>
        obtain ⟨⟨hl, hi⟩, hc⟩ := hr
        refine again_do (r := .rej id co) (Z := Z) hz' h hd (fun go x => ?_)
        refine Fn.sub ((dRej_ok (g := g) (go := go) (g1 := x.g1) (g2 := x.g2) (t := t) (r := r) (lim := lim) (q := q) (id := ⟨id, hl, hi⟩) (c := co) (K := K) ⟨by omega, by omega⟩ hI.srt (by omega)).say fun z w hq hw => ?_) Sub.refl
        obtain ⟨q1, q2, q3⟩ := hq
        refine ⟨z, fun e => ?_, rfl, hw⟩
        obtain ⟨A1, c1, e1⟩ := q3 e
        rw [e1]
        exact hI.rej
      | shut s =>
        have hce : closeE r q.fs s ≠ 0 := by
          rw [hI.fs]
          unfold closeE
          split
          · decide
          · show (19 : Int) ≠ 0
            decide
        refine again_do (r := .shut s) (Z := Z) hz' h hd (fun go x => ?_)
        exact Fn.sub ((dShut_no (g := g) (go := go) (g1 := x.g1) (t := t) (r := r) (lim := lim) (q := q) (K := K) hw ⟨hr.1, by have := hr.2; omega⟩ hce).say fun _ w _ hw => ⟨(closeE r q.fs s, q), fun e => absurd e hce, rfl, hw⟩) Sub.refl
      | life n =>
        refine again_do (r := .life n) (Z := Z) hz' h hd (fun go x => ?_)
        refine Fn.sub ((dLife_ok (gl := x.g1) (go := go) (g := g) (t := t) (gj := q.gj) (gi := q.gi) (gb := q.gb) (mw := q.mw) (ms := q.ms) (life := q.life) (n := n)).say fun _ w _ hw => ⟨(0, { q with life := n }), fun _ => ⟨hI.gj, hI.srt, hI.len, hI.fs, hI.ws, hr⟩, rfl, hw⟩) ?_
        exact Sub.refl
    · exact (again_rest (Z := Z) hz' h hd hm).say fun _ w _ hw => ⟨(27, q), fun e => (by cases e), rfl, hw⟩
end Go.Proofs.YtocaabnbmcpjmaaGreat
/- Package store: Open over a file of any bytes, at which no record is a commit's. -/
namespace Go.Proofs.YtocaabnbmcpjmaaGreat
open Go.RowKit Go.MapKept
attribute [local irreducible] Go.Calls Go.Exit.then Go.Exit.inBlock Go.bodyPost Go.Code.wp Go.wpList takeL recordL hashL recL allL decR
abbrev KpO (p : Ok) : Fa := star [own 27 1 p.q.R p.q.xs.length p.q.c (sxV p.q.xs), star (sxO p.q.xs)]
theorem kpo_row (p : Ok) : Vw [KpO p] (fun w => Reads w 1 p.q.R p.q.xs.length (sxV p.q.xs)) := fun w hw => by
  have h1 := star_out w hw
  exact Vw.of_own (e := 27) .here w h1
theorem kpo_rd {p : Ok} {x : Sx} (hm : x ∈ p.q.xs) (hok : x.ok) : Rd [KpO p] x.A x.l.length x.c x.l := by
  obtain ⟨⟨k1, k2⟩, k3, k4⟩ := hok
  refine ⟨fun w hw => ?_, k1, by omega, k2, rfl, k4⟩
  have h4 := star_out w hw
  have h5 : Sep w [star (sxO p.q.xs)] := h4.tl
  have h6 := kstar_get (f := x.fa) (G := sxO p.q.xs) (L := [star (sxO p.q.xs)]) .here (List.mem_map.2 ⟨x, hm, rfl⟩) w h5
  exact Reads.of_own (own_PK h6)
/-- What a store opened answers: none and 23, or one and 0. -/
def hoV : Option Nat → Value
  | none => .tuple #[.pointer none, .int .i64 23]
  | some g => .tuple #[.pointer (some ⟨g, 0, none⟩), .int .i64 0]
theorem si0 (gj : Nat) (q : StM) (h0 : q.gj = gj) (h1 : q.ss = []) (h2 : q.fs = []) (h3 : q.ws = []) (h4 : q.life = 0) : SI gj q :=
  ⟨h0, by rw [h1]; exact srt_nil, by rw [h1]; decide, h2, fun w hw => (by rw [h3] at hw; cases hw), by rw [h4]; decide⟩
theorem nth_Sqa {φ : Prop} (h : φ := by (first | rfl | first | rfl | exact rpC_n16 | exact rpC_n17 | exact rpC_n18)) : φ := h
theorem mid_Sqa {φ : Prop} (h : φ := by (first | first | exact rpC_id | exact Mid.all | exact Mid.all | exact Mid.head)) : φ := h
theorem sz_Sqa {φ : Prop} (h : φ := by (first | rfl | ((try simp only [rpC_len, bytes_length, Id.len]); (first | done | rfl); first | done | fail))) : φ := h
theorem one_Sqa {φ : Prop} (h : φ := by (first | assumption | exact exact one_bytes _ | (simp only [List.mem_cons, List.not_mem_nil, or_false, forall_eq_or_imp, forall_eq]; decide) | exact one_bytes _ | (intro v hv; (repeat (rcases List.mem_cons.1 hv with rfl | hv; rfl)); cases hv))) : φ := h
theorem set_Sqa {φ : Prop} (h : φ := by (first | (fail) | ((repeat (first | exact SetAt.here | apply SetAt.there)); first | done | fail))) : φ := h
theorem cl_Sqa {φ : Prop} (h : φ := by first | rfl | exact .t | exact .f | exact .t (by omega) | exact .f (by omega) | exact .u | exact .i (by (first | exact .t (by omega) | exact .f (by omega) | exact .u | exact .i (by omega) | exact .v (by omega) | exact .b (by omega) | exact .w | rfl | omega)) | exact .v (by omega) | exact .b (by omega) | exact .q (by omega) | exact .w | exact .b (by exact at_) rfl (by exact nth_Sqa) | exact .w (by exact at_) rfl rfl (by exact sz_Sqa) | exact .s (by exact at_) (by exact mid_Sqa) rfl rfl (by exact sz_Sqa) | exact .z rfl rfl ⟨by kernel_rfl⟩ | exact .b rfl rfl ⟨by kernel_rfl⟩ | exact .a rfl rfl ⟨by kernel_rfl⟩ | exact .o rfl | exact .s | exact .n | exact .p rfl | exact .q rfl | exact .c rfl | exact .d rfl | exact .n rfl rfl (by omega) | exact .a rfl rfl (by omega) | exact .p rfl rfl (by omega) (by omega) | exact .y rfl rfl (by omega) (by omega) | exact .o (by exact at_) (by omega) rfl (by exact nth_Sqa) | exact .m (by exact at_) (by omega) (by exact mid_Sqa) rfl rfl (by exact sz_Sqa) | exact .mlen (by exact at_) rfl | exact .t (by exact at_) rfl rfl (by first | exact True.intro | rfl) (by assumption) | exact .f (by exact at_) rfl rfl (by first | exact True.intro | rfl) (by assumption) rfl | exact .t1 (by exact at_) rfl rfl (by first | exact True.intro | rfl) (by assumption) | exact .f1 (by exact at_) rfl rfl (by first | exact True.intro | rfl) (by assumption) rfl | exact .tk (by exact at_) rfl (by assumption) (by assumption) | exact .fk (by exact at_) rfl (by assumption) (by assumption) rfl | exact .tk1 (by exact at_) rfl (by assumption) (by assumption) | exact .fk1 (by exact at_) rfl (by assumption) (by assumption) rfl | exact .r rfl rfl (by omega) (by omega) (by exact nth_Sqa) rfl | exact .s rfl (by omega) (by assumption) | exact at_ | assumption | exact .r rfl rfl | exact .h rfl rfl rfl (by omega) | exact .l rfl rfl rfl (by omega) (by omega) | exact .g rfl rfl rfl rfl (by omega) (by omega) | exact .h rfl rfl (toN_ (by omega)) (by omega) | exact .l rfl rfl (toN_ (by omega)) (by omega) (by omega) | exact .g rfl rfl (toN_ (by omega)) (toN_ (by omega)) (by omega) (by omega) | exact .o (by decide) | exact .f (by decide) | exact .n (by omega) (by first | decide | (show _ ≤ ((64 : Nat) : Int); omega)) | (constructor; (repeat (first | exact .t (by omega) | exact .f (by omega) | exact .u | exact .i (by omega) | exact .v (by omega) | exact .b (by omega) | exact .w | rfl | omega)); first | done | fail) | omega | (show _ ≤ ((64 : Nat) : Int); omega)) : φ := h
theorem pv_Sqa {φ : Prop} (h : φ := by constructor; (repeat exact cl_Sqa); first | done | fail) : φ := h
theorem su_Sqa {φ ψ : Prop} (k : ψ) (h : Hide ψ → φ := by (intro k; (first | refine sl_pu (PuI.sep (by exact pv_Sqa)) rfl ?_ | refine sl_yes rfl rfl ?_ | refine sl_no rfl rfl rfl ?_ | refine sl_off rfl rfl rfl ?_ | (fail)); exact k.out)) : φ := h ⟨k⟩
theorem sto_Sqa {φ ψ : Prop} (k : ψ) (h : Hide ψ → φ := by (intro k; (first | refine sl_store rfl (by exact pick_) rfl rfl (by kernel_rfl) (by exact set_Sqa) ?_ | refine sl_store_whole rfl (by exact pick_) rfl (by exact sz_Sqa) (by exact sz_Sqa) (by exact one_Sqa) ?_); exact k.out)) : φ := h ⟨k⟩
theorem go_Sqa {φ ψ : Prop} (k : ψ) (h : Hide ψ → φ := by (intro k; (repeat (first | refine su_Sqa ?_ | refine so_ ?_ | refine sto_Sqa ?_)); exact k.out)) : φ := h ⟨k⟩
set_option maxRecDepth 100000 in
set_option maxHeartbeats 4000000 in
theorem note_any {K : List Fa} {g gj gi gb mw ms gd md ckd : Nat} {t : Ta} {life lim kind : Int} {kk : Nat} {fd : DF} {f : FuncId} {caps : List Value} {bs : List Int}
    (hf : callable Tryz.prog f = true) (hs : fd.s = sj) (hkk : kk < 1048576) (hfl : fd.l.length ≤ 1048576) (hb : IsBytes (kind :: bs)) (hl : (kind :: bs).length ≤ 5000) (hlim : ((fd.l.length + manyL (kind :: bs).length * 64 : Nat) : Int) ≤ lim) (hlm : lim ≤ 1048576)
    (hfill : ∀ (b : Nat) (A : Option Addr) (c : Nat), Fn Tryz.prog f ([Value.pointer (some ⟨b, 0, none⟩)] ++ caps).toArray (wrb b A [kind].length c :: u8o A c [kind] :: sB g t gj gi gb mw ms life :: jC gj gd sj kk :: dB gd md lim :: dM md [fd] ckd :: dS [fd] :: K)
      (Ret (fun _ : Option Addr × Nat => True) (fun _ => .tuple #[]) (fun p => wrb b p.1 (kind :: bs).length p.2 :: u8o p.1 p.2 (kind :: bs) :: sB g t gj gi gb mw ms life :: jC gj gd sj kk :: dB gd md lim :: dM md [fd] ckd :: dS [fd] :: K))) :
    Fn Tryz.prog 45 #[.pointer (some ⟨g, 0, none⟩), .int .u8 kind, .func (.func f) #[] caps.toArray] (sB g t gj gi gb mw ms life :: jC gj gd sj kk :: dB gd md lim :: dM md [fd] ckd :: dS [fd] :: K)
      (Ret (fun q : DF => q.s = sj ∧ q.l = fd.l ++ recL kk (kind :: bs) ∧ q.sy = fd.sy) (fun _ => .int .i64 0) (fun q => sB g t gj gi gb mw ms life :: jC gj gd sj (kk + manyL (kind :: bs).length) :: dB gd md lim :: dM md [q] ckd :: dS [q] :: K)) := by
  refine fn_enter Tryz.func45 rfl _ Tryz.ntmps45 (by simp) [(0, .pointer (some ⟨g, 0, none⟩)), (1, .int .u8 kind), (2, .func (.func f) #[] caps.toArray)] (args_of (by simp)) ?_
  refine go_Sqa ?_
  refine sl_alloc rfl rfl rfl ?_; intro b
  refine go_Sqa ?_
  refine sl_build (size := 1) (e := 5) (cells := [.int .u8 kind]) rfl (fun W => by kernel_rfl) rfl (by decide) rfl ?_
  intro g1
  refine go_Sqa ?_
  refine sl_call rfl rfl (by kernel_rfl) rfl (by exact Sub.cons (by exact pick_) (Sub.own_nil Sub.refl)) (wRaw (bs := []) (xs := [kind]) (b := b) (A := none) (c := 0) (Vw.of_own (e := 5) (A := some ⟨g1, 0, none⟩) (c := 1) (by exact at_)) (by decide)) ?_
  rintro ⟨A1, c1⟩ -
  dsimp only [List.nil_append]
  refine go_Sqa ?_
  refine sl_call rfl rfl hf rfl (by exact sub_) (hfill b A1 c1) ?_
  rintro ⟨A2, c2⟩ -
  dsimp only
  refine go_Sqa ?_
  refine sd_drawn (fun W => AllP W [sB g t gj gi gb mw ms life]) (fun _ => true) (by kernel_rfl) 7 rfl ?_
  refine sd_yes2 0 rfl (by exact gd_) (by kernel_rfl) (by kernel_rfl) (by exact nop_) (PuI.all (by exact pv_Sqa)) rfl (fun w hw => all_ hw) ?_
  refine sd_yes2 1 rfl (by exact gd_) (by kernel_rfl) (by kernel_rfl) (by exact nop_) (PuI.all (by exact pv_Sqa)) rfl (fun w hw => all_ hw) ?_
  refine sd_yes2 2 rfl (by exact gd_) (by kernel_rfl) (by kernel_rfl) (by exact nop_) (PuI.all (by exact pv_Sqa)) rfl (fun w hw => all_ hw) ?_
  refine sd_yes2 3 rfl (by exact gd_) (by kernel_rfl) (by kernel_rfl) (by exact nop_) (PuI.all (by exact pv_Sqa)) rfl (fun w hw => all_ hw) ?_
  refine sd_one 4 (by kernel_rfl) (sa_sl 4 rfl ?_)
  refine sl_call rfl rfl (by kernel_rfl) rfl (by exact sub_) (wBytes (b := b) (A := A2) (c := c2) (bs := kind :: bs) (by omega)) ?_
  rintro ⟨A3, c3⟩ -
  dsimp only
  refine sl_know (fun w hw => own_len (e := 5) (size := 1) (A := A3) hw (by exact at_)) ?_
  rintro ⟨-, l1, l2⟩
  refine sl_nil ?_
  refine se_sd (fun _ w hw => all_ hw) ?_
  refine sd_one 5 (by kernel_rfl) (sa_sl 5 rfl ?_)
  have hap := app_Jyes (K := u8o A3 c3 (kind :: bs) :: sB g t gj gi gb mw ms life :: K) (gj := gj) (g := gd) (m := md) (ck := ckd) (k := kk) (lim := lim) (f := fd) ⟨Vw.of_own (e := 5) (A := A3) (c := c3) .here, l1, by omega, l2, rfl, hb⟩ hl hkk (by rw [hs]; decide) (by rw [hs]; decide) hlim hfl hlm
  rw [hs] at hap
  refine sl_call rfl rfl (by kernel_rfl) rfl (by exact sub_) hap ?_
  clear hap
  rintro q hq
  refine sl_nil ?_
  refine se_sd (fun _ w hw => all_ hw) ?_
  refine sd_yes2 6 rfl (by exact gd_) (by kernel_rfl) (by kernel_rfl) (by exact nop_) (PuI.all (by exact pv_Sqa)) rfl (fun w hw => all_ hw) ?_
  refine sd_done (by kernel_rfl) ?_
  refine go_Sqa ?_
  exact se_ret1 q hq rfl rfl (by exact sub_)
end Go.Proofs.YtocaabnbmcpjmaaGreat
