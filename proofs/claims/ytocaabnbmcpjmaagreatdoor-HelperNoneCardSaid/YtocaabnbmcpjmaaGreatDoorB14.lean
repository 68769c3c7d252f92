/- Several texts of one claim, one behind the other (Sko, Skp, Skq, Gh, Sks, Gi). -/
import Derived.Test.YtocaabnbmcpjmaaGreatDoorB13
import Derived.Test.YtocaabnbmcpjmaaGreatDoorB11
set_option linter.unusedVariables false
set_option linter.unusedSimpArgs false
/- Package store: Sync; Open, whatever the records are. -/
namespace Go.Proofs.YtocaabnbmcpjmaaGreatDoor
open Go.RowKit Go.MapKept
attribute [local irreducible] Go.Calls Go.Exit.then Go.Exit.inBlock Go.bodyPost Go.Code.wp Go.wpList takeL recordL hashL recL allL
/-- A store in memory. -/
structure StM where
  gj : Nat
  gi : Nat
  gb : Nat
  mw : Nat
  mb : Nat
  ms : Nat
  iA : Option Addr
  ic : Nat
  ss : List Seen
  fs : List BK
  cb : Nat
  ws : List Wt
  cw : Nat
  sd : List Sd
  cs : Nat
  life : Int
abbrev sF (g : Nat) (t : Ta) (r : Rl) (lim : Int) (q : StM) (K : List Fa) : List Fa := sB g t q.gj q.gi q.gb q.mw q.ms q.life :: ixb q.gi q.iA q.ss.length q.ic lim :: ixo q.iA q.ic q.ss :: bB q.gb t r q.mb :: bM q.mb q.fs q.cb :: bS q.fs :: wM q.mw q.ws q.cw :: wS q.ws :: dMm q.ms q.sd q.cs :: dSs q.sd :: K
/-- A journal opened. -/
structure JO where
  gj : Nat
  R : Option Addr
  c : Nat
  xs : List Sx
  fs : List DF
  ck : Nat
structure OpR where
  g : Nat
  q : StM
  f : DF
  ck : Nat
def orV : JO ⊕ OpR → Value
  | .inl _ => .tuple #[.pointer none, .int .i64 23]
  | .inr x => .tuple #[.pointer (some ⟨x.g, 0, none⟩), .int .i64 0]
def orP (ψ Ev : JO → Prop) (I : JO → Nat → Nat → StM → Prop) (ls : List (List Int)) : JO ⊕ OpR → Prop
  | .inl p => ψ p ∧ Ev p
  | .inr x => ∃ p q, ψ p ∧ I p x.g ls.length q ∧ x.q = { q with life := q.life + 1 } ∧ JFl (ls ++ [5 :: rcLife (q.life + 1)]) (cellsA (ls ++ [5 :: rcLife (q.life + 1)]) * 64) x.f
def orH (t : Ta) (r : Rl) (lim limd : Int) (gd md : Nat) (ls : List (List Int)) (K : List Fa) : JO ⊕ OpR → List Fa
  | .inl p => dB gd md limd :: dM md p.fs p.ck :: dS p.fs :: K
  | .inr x => sF x.g t r lim x.q (jC x.q.gj gd sj (cellsA (ls ++ [5 :: rcLife x.q.life])) :: dB gd md limd :: dM md [x.f] x.ck :: dS [x.f] :: K)
theorem stC9_n9 {t : Ta} {gj gi gb mw ms : Nat} {life : Int} : nth (stC9 t gj gi gb mw ms life) 13 = some (.int .u64 life) := rfl
theorem stC9_set {t : Ta} {gj gi gb mw ms : Nat} {life v : Int} : SetAt 13 (.int .u64 v) (stC9 t gj gi gb mw ms life) (stC9 t gj gi gb mw ms v) := SetAt.tail (k := 8) (a := t.c) (i := 5) rfl (SetAt.there (SetAt.there (SetAt.there (SetAt.there (SetAt.there SetAt.here)))))
theorem cells_len (ls : List (List Int)) : ls.length ≤ cellsA ls := by
  refine snoc_ind (P := fun ls => ls.length ≤ cellsA ls) (Nat.zero_le _) (fun l x ih => ?_) ls
  rw [cellsA_snoc, List.length_append]
  have := many_pos x.length
  simp
  omega
theorem nth_Sko {φ : Prop} (h : φ := by (first | rfl | first | rfl | exact stC9_n9)) : φ := h
theorem mid_Sko {φ : Prop} (h : φ := by (first | first | exact stC9_mid | exact stC9_ci | exact Mid.all | exact Mid.all | exact Mid.head)) : φ := h
theorem sz_Sko {φ : Prop} (h : φ := by (first | rfl | ((first | done | rfl); first | done | fail))) : φ := h
theorem one_Sko {φ : Prop} (h : φ := by (first | assumption | exact first | exact one_bytes _ | exact Ta.one _ | exact Rl.one _ | (simp only [List.mem_cons, List.not_mem_nil, or_false, forall_eq_or_imp, forall_eq]; decide) | exact one_bytes _ | (intro v hv; (repeat (rcases List.mem_cons.1 hv with rfl | hv; rfl)); cases hv))) : φ := h
theorem set_Sko {φ : Prop} (h : φ := by (first | (exact stC9_set) | ((repeat (first | exact SetAt.here | apply SetAt.there)); first | done | fail))) : φ := h
theorem cl_Sko {φ : Prop} (h : φ := by first | rfl | exact .t | exact .f | exact .t (by omega) | exact .f (by omega) | exact .u | exact .i (by (first | exact .t (by omega) | exact .f (by omega) | exact .u | exact .i (by omega) | exact .v (by omega) | exact .b (by omega) | exact .w | rfl | omega)) | exact .v (by omega) | exact .b (by omega) | exact .q (by omega) | exact .w | exact .b (by exact at_) rfl (by exact nth_Sko) | exact .w (by exact at_) rfl rfl (by exact sz_Sko) | exact .s (by exact at_) (by exact mid_Sko) rfl rfl (by exact sz_Sko) | exact .z rfl rfl ⟨by kernel_rfl⟩ | exact .b rfl rfl ⟨by kernel_rfl⟩ | exact .a rfl rfl ⟨by kernel_rfl⟩ | exact .o rfl | exact .s | exact .n | exact .p rfl | exact .q rfl | exact .c rfl | exact .d rfl | exact .n rfl rfl (by omega) | exact .a rfl rfl (by omega) | exact .p rfl rfl (by omega) (by omega) | exact .y rfl rfl (by omega) (by omega) | exact .o (by exact at_) (by omega) rfl (by exact nth_Sko) | exact .m (by exact at_) (by omega) (by exact mid_Sko) rfl rfl (by exact sz_Sko) | exact .mlen (by exact at_) rfl | exact .t (by exact at_) rfl rfl (by first | exact True.intro | rfl) (by assumption) | exact .f (by exact at_) rfl rfl (by first | exact True.intro | rfl) (by assumption) rfl | exact .t1 (by exact at_) rfl rfl (by first | exact True.intro | rfl) (by assumption) | exact .f1 (by exact at_) rfl rfl (by first | exact True.intro | rfl) (by assumption) rfl | exact .tk (by exact at_) rfl (by assumption) (by assumption) | exact .fk (by exact at_) rfl (by assumption) (by assumption) rfl | exact .tk1 (by exact at_) rfl (by assumption) (by assumption) | exact .fk1 (by exact at_) rfl (by assumption) (by assumption) rfl | exact .r rfl rfl (by omega) (by omega) (by exact nth_Sko) rfl | exact .s rfl (by omega) (by assumption) | exact at_ | assumption | exact .r rfl rfl | exact .h rfl rfl rfl (by omega) | exact .l rfl rfl rfl (by omega) (by omega) | exact .g rfl rfl rfl rfl (by omega) (by omega) | exact .h rfl rfl (toN_ (by omega)) (by omega) | exact .l rfl rfl (toN_ (by omega)) (by omega) (by omega) | exact .g rfl rfl (toN_ (by omega)) (toN_ (by omega)) (by omega) (by omega) | exact .o (by decide) | exact .f (by decide) | exact .n (by omega) (by first | decide | (show _ ≤ ((64 : Nat) : Int); omega)) | (constructor; (repeat (first | exact .t (by omega) | exact .f (by omega) | exact .u | exact .i (by omega) | exact .v (by omega) | exact .b (by omega) | exact .w | rfl | omega)); first | done | fail) | omega | (show _ ≤ ((64 : Nat) : Int); omega)) : φ := h
theorem pv_Sko {φ : Prop} (h : φ := by constructor; (repeat exact cl_Sko); first | done | fail) : φ := h
theorem su_Sko {φ ψ : Prop} (k : ψ) (h : Hide ψ → φ := by (intro k; (first | refine sl_pu (PuI.sep (by exact pv_Sko)) rfl ?_ | refine sl_yes rfl rfl ?_ | refine sl_no rfl rfl rfl ?_ | refine sl_off rfl rfl rfl ?_ | (fail)); exact k.out)) : φ := h ⟨k⟩
theorem sto_Sko {φ ψ : Prop} (k : ψ) (h : Hide ψ → φ := by (intro k; (first | refine sl_store rfl (by exact pick_) rfl rfl (by kernel_rfl) (by exact set_Sko) ?_ | refine sl_store_whole rfl (by exact pick_) rfl (by exact sz_Sko) (by exact sz_Sko) (by exact one_Sko) ?_); exact k.out)) : φ := h ⟨k⟩
theorem go_Sko {φ ψ : Prop} (k : ψ) (h : Hide ψ → φ := by (intro k; (repeat (first | refine su_Sko ?_ | refine so_ ?_ | refine sto_Sko ?_)); exact k.out)) : φ := h ⟨k⟩
set_option maxRecDepth 100000 in
theorem ssync_ok {K : List Fa} {g gj gi gb mw ms gd md ckd σ k : Nat} {t : Ta} {life lim : Int} {ls : List (List Int)} {f : DF} (hF : JFl ls σ f) (hn : f.l.length ≤ 1048576) :
    Fn Tryz.prog 29 #[.pointer (some ⟨g, 0, none⟩)] (sB g t gj gi gb mw ms life :: jC gj gd sj k :: dB gd md lim :: dM md [f] ckd :: dS [f] :: K) (Ret (fun q : DF => JFl ls f.l.length q) (fun _ => .int .i64 0) (fun q => sB g t gj gi gb mw ms life :: jC gj gd sj k :: dB gd md lim :: dM md [q] ckd :: dS [q] :: K)) := by
  refine fn_enter Tryz.func29 rfl _ Tryz.ntmps29 (by simp) [(0, .pointer (some ⟨g, 0, none⟩))] (args_of (by simp)) ?_
  refine go_Sko ?_
  refine sl_call rfl rfl (by kernel_rfl) rfl (by exact sub_) (sync_Js (K := sB g t gj gi gb mw ms life :: K) (gj := gj) (g := gd) (m := md) (ck := ckd) (k := k) (lim := lim) hF hn) ?_
  rintro q hq
  refine go_Sko ?_
  exact se_ret1 q hq rfl rfl (by exact sub_)
set_option maxRecDepth 100000 in
set_option maxHeartbeats 4000000 in
theorem open_ok {K0 : List Fa} {fsd : List DF} {gd md ckd σ : Nat} {limd : Int} {t : Ta} {r : Rl} {limit : Int} {ls : List (List Int)} {ψ Ev : JO → Prop} {Kp : JO → Fa} {I : JO → Nat → Nat → StM → Prop}
    (hr : rErr r t = 0) (hcc : cellsA ls ≤ 15000) (hlim : (((cellsA ls + 1) * 64 : Nat) : Int) ≤ limd) (hlm : limd ≤ 1048576)
    (hjo : ∀ E : List Fa, Fn Tryz.prog 23 #[.pointer (some ⟨gd, 0, none⟩), .string sj] (dB gd md limd :: dM md fsd ckd :: dS fsd :: E) (Ret ψ (fun p => .tuple #[.pointer (some ⟨p.gj, 0, none⟩), .slice p.R p.xs.length p.c, .int .i64 0]) (fun p => jC p.gj gd sj (cellsA ls) :: dB gd md limd :: dM md p.fs p.ck :: dS p.fs :: Kp p :: E)))
    (hJS : ∀ p, ψ p → JSt ls p.fs p.ck σ ∧ p.xs.length = ls.length ∧ (p.xs ≠ [] → Vw [Kp p] (fun w => Reads w 1 p.R p.xs.length (sxV p.xs))))
    (hI0 : ∀ p g q, ψ p → q.gj = p.gj → q.ss = [] → q.fs = [] → q.ws = [] → q.sd = [] → q.life = 0 → I p g 0 q)
    (hst : ∀ p g j x q K', ψ p → p.xs[j]? = some x → Sub K' [Kp p] → I p g j q → Fn Tryz.prog 25 #[.pointer (some ⟨g, 0, none⟩), x.v] (sF g t r (min (max limit 0) 256) q K') (Ret (fun z : Int × StM => (z.1 = 0 → I p g (j + 1) z.2) ∧ (z.1 ≠ 0 → Ev p)) (fun z => .int .i64 z.1) (fun z => sF g t r (min (max limit 0) 256) z.2 K')))
    (hIl : ∀ p g q, I p g ls.length q → q.gj = p.gj ∧ 0 ≤ q.life ∧ q.life ≤ 281474976710000) :
    Fn Tryz.prog 13 #[.pointer (some ⟨gd, 0, none⟩), .agg t.c.toArray, .agg r.c.toArray, .int .i64 limit] (dB gd md limd :: dM md fsd ckd :: dS fsd :: K0)
      (Ret (orP ψ Ev I ls) orV (orH t r (min (max limit 0) 256) limd gd md ls K0)) := by
  refine fn_enter Tryz.func13 rfl _ Tryz.ntmps13 (by simp) [(0, .pointer (some ⟨gd, 0, none⟩)), (1, .agg t.c.toArray), (2, .agg r.c.toArray), (3, .int .i64 limit)] (args_of (by simp)) ?_
  refine go_Sko ?_
  refine sl_box rfl rfl rfl ?_; intro g5
  refine go_Sko ?_
  refine sl_box rfl rfl rfl ?_; intro g6
  refine go_Sko ?_
  refine sl_call rfl rfl (by kernel_rfl) rfl Sub.refl (bnew_ok hr) ?_
  rintro ⟨gb, mb⟩ -
  dsimp only
  refine go_Sko ?_
  refine sl_call rfl rfl (by kernel_rfl) rfl (by exact sub_) (hjo (bB gb t r mb :: bM mb [] 0 :: bS [] :: blk g6 30 r.c :: blk g5 27 t.c :: K0)) ?_
  rintro p hp
  obtain ⟨hJS1, hJS2, hJS3⟩ := hJS p hp
  have hll := cells_len ls
  refine go_Sko ?_
  refine sc_join (α := Nat × Nat × Nat × Nat × Nat) (fun q => [(14, .pointer (some ⟨q.2.1, 0, none⟩)), (13, .slice p.R p.xs.length p.c)])
    (fun q => goB q.2.1 q.1 :: sB q.1 t p.gj q.2.2.1 gb q.2.2.2.1 q.2.2.2.2 0 :: ixb q.2.2.1 none 0 0 (min (max limit 0) 256) :: bB gb t r mb :: bM mb [] 0 :: bS [] :: wM q.2.2.2.1 [] 0 :: dMm q.2.2.2.2 [] 0 :: jC p.gj gd sj (cellsA ls) :: dB gd md limd :: dM md p.fs p.ck :: dS p.fs :: Kp p :: K0) (fun _ => True) ?_ ?_
  · refine sd_drawn (fun W => AllP W [blk g5 27 t.c]) (fun _ => true) (by kernel_rfl) 11 rfl ?_
    refine sd_yes2 0 rfl (by exact gd_) (by kernel_rfl) (by kernel_rfl) (by exact nop_) (PuI.all (by exact pv_Sko)) rfl (fun w hw => all_ hw) ?_
    refine sd_yes2 1 rfl (by exact gd_) (by kernel_rfl) (by kernel_rfl) (by exact nop_) (PuI.all (by exact pv_Sko)) rfl (fun w hw => all_ hw) ?_
    refine sd_yes2 2 rfl (by exact gd_) (by kernel_rfl) (by kernel_rfl) (by exact nop_) (PuI.all (by exact pv_Sko)) rfl (fun w hw => all_ hw) ?_
    refine sd_yes2 4 rfl (by exact gd_) (by kernel_rfl) (by kernel_rfl) (by exact nop_) (PuI.all (by exact pv_Sko)) rfl (fun w hw => all_ hw) ?_
    refine sd_four 3 5 6 9 (by kernel_rfl) (sa_sl 3 rfl ?_) (sa_sl 5 rfl ?_) (sa_sl 6 rfl ?_) (sa_sl 9 rfl ?_)
    · refine sl_call rfl rfl (by kernel_rfl) rfl Sub.refl (new_ok limit) ?_
      rintro gi -
      refine sl_nil ?_
      refine se_sd (fun _ w hw => all_ hw) ?_
      refine sd_three 5 6 9 (by kernel_rfl) (sa_sl 5 rfl ?_) (sa_sl 6 rfl ?_) (sa_sl 9 rfl ?_)
      · refine sl_makeMap (d := .array 16 5) rfl ?_
        intro mw
        refine sl_nil ?_
        refine se_sd (fun _ w hw => all_ hw) ?_
        refine sd_two 6 9 (by kernel_rfl) (sa_sl 6 rfl ?_) (sa_sl 9 rfl ?_)
        · refine sl_makeMap (d := .array 16 5) rfl ?_
          intro ms
          refine sl_nil ?_
          refine se_sd (fun _ w hw => all_ hw) ?_
          refine sd_two 7 9 (by kernel_rfl) (sa_sl 7 rfl ?_) (sa_sl 9 rfl ?_)
          · refine sl_pu (pu_build (v := .agg (stC9 t p.gj gi gb mw ms 0).toArray) rfl (fun W => by kernel_rfl)) rfl ?_
            refine sl_nil ?_
            refine se_sd (fun _ w hw => all_ hw) ?_
            refine sd_two 8 9 (by kernel_rfl) (sa_sl 8 rfl ?_) (sa_sl 9 rfl ?_)
            · refine sl_box rfl rfl rfl ?_; intro g
              refine sl_nil ?_
              refine se_sd (fun _ w hw => all_ hw) ?_
              refine sd_one 9 (by kernel_rfl) (sa_sl 9 rfl ?_)
              refine sl_alloc rfl rfl rfl ?_; intro g14
              refine sl_nil ?_
              refine se_sd (fun _ w hw => all_ hw) ?_
              refine sd_one 10 (by kernel_rfl) (sa_sl 10 rfl ?_)
              refine sto_Sko ?_
              refine sl_nil ?_
              refine se_sd (fun _ w hw => all_ hw) ?_
              refine sd_done (by kernel_rfl) ?_
              exact se_mid (g, g14, gi, mw, ms) (by exact has_) (by exact sub_) trivial
            · refine sl_alloc rfl rfl rfl ?_; intro g14
              refine sl_nil ?_
              refine se_sd (fun _ w hw => all_ hw) ?_
              refine sd_one 8 (by kernel_rfl) (sa_sl 8 rfl ?_)
              refine sl_box rfl rfl rfl ?_; intro g
              refine sl_nil ?_
              refine se_sd (fun _ w hw => all_ hw) ?_
              refine sd_one 10 (by kernel_rfl) (sa_sl 10 rfl ?_)
              refine sto_Sko ?_
              refine sl_nil ?_
              refine se_sd (fun _ w hw => all_ hw) ?_
              refine sd_done (by kernel_rfl) ?_
              exact se_mid (g, g14, gi, mw, ms) (by exact has_) (by exact sub_) trivial
          · refine sl_alloc rfl rfl rfl ?_; intro g14
            refine sl_nil ?_
            refine se_sd (fun _ w hw => all_ hw) ?_
            refine sd_one 7 (by kernel_rfl) (sa_sl 7 rfl ?_)
            refine sl_pu (pu_build (v := .agg (stC9 t p.gj gi gb mw ms 0).toArray) rfl (fun W => by kernel_rfl)) rfl ?_
            refine sl_nil ?_
            refine se_sd (fun _ w hw => all_ hw) ?_
            refine sd_one 8 (by kernel_rfl) (sa_sl 8 rfl ?_)
            refine sl_box rfl rfl rfl ?_; intro g
            refine sl_nil ?_
            refine se_sd (fun _ w hw => all_ hw) ?_
            refine sd_one 10 (by kernel_rfl) (sa_sl 10 rfl ?_)
            refine sto_Sko ?_
            refine sl_nil ?_
            refine se_sd (fun _ w hw => all_ hw) ?_
            refine sd_done (by kernel_rfl) ?_
            exact se_mid (g, g14, gi, mw, ms) (by exact has_) (by exact sub_) trivial
        · refine sl_alloc rfl rfl rfl ?_; intro g14
          refine sl_nil ?_
          refine se_sd (fun _ w hw => all_ hw) ?_
          refine sd_one 6 (by kernel_rfl) (sa_sl 6 rfl ?_)
          refine sl_makeMap (d := .array 16 5) rfl ?_
          intro ms
          refine sl_nil ?_
          refine se_sd (fun _ w hw => all_ hw) ?_
          refine sd_one 7 (by kernel_rfl) (sa_sl 7 rfl ?_)
          refine sl_pu (pu_build (v := .agg (stC9 t p.gj gi gb mw ms 0).toArray) rfl (fun W => by kernel_rfl)) rfl ?_
          refine sl_nil ?_
          refine se_sd (fun _ w hw => all_ hw) ?_
          refine sd_one 8 (by kernel_rfl) (sa_sl 8 rfl ?_)
          refine sl_box rfl rfl rfl ?_; intro g
          refine sl_nil ?_
          refine se_sd (fun _ w hw => all_ hw) ?_
          refine sd_one 10 (by kernel_rfl) (sa_sl 10 rfl ?_)
          refine sto_Sko ?_
          refine sl_nil ?_
          refine se_sd (fun _ w hw => all_ hw) ?_
          refine sd_done (by kernel_rfl) ?_
          exact se_mid (g, g14, gi, mw, ms) (by exact has_) (by exact sub_) trivial
      · refine sl_makeMap (d := .array 16 5) rfl ?_
        intro ms
        refine sl_nil ?_
        refine se_sd (fun _ w hw => all_ hw) ?_
        refine sd_two 5 9 (by kernel_rfl) (sa_sl 5 rfl ?_) (sa_sl 9 rfl ?_)
        · refine sl_makeMap (d := .array 16 5) rfl ?_
          intro mw
          refine sl_nil ?_
          refine se_sd (fun _ w hw => all_ hw) ?_
          refine sd_two 7 9 (by kernel_rfl) (sa_sl 7 rfl ?_) (sa_sl 9 rfl ?_)
          · refine sl_pu (pu_build (v := .agg (stC9 t p.gj gi gb mw ms 0).toArray) rfl (fun W => by kernel_rfl)) rfl ?_
            refine sl_nil ?_
            refine se_sd (fun _ w hw => all_ hw) ?_
            refine sd_two 8 9 (by kernel_rfl) (sa_sl 8 rfl ?_) (sa_sl 9 rfl ?_)
            · refine sl_box rfl rfl rfl ?_; intro g
              refine sl_nil ?_
              refine se_sd (fun _ w hw => all_ hw) ?_
              refine sd_one 9 (by kernel_rfl) (sa_sl 9 rfl ?_)
              refine sl_alloc rfl rfl rfl ?_; intro g14
              refine sl_nil ?_
              refine se_sd (fun _ w hw => all_ hw) ?_
              refine sd_one 10 (by kernel_rfl) (sa_sl 10 rfl ?_)
              refine sto_Sko ?_
              refine sl_nil ?_
              refine se_sd (fun _ w hw => all_ hw) ?_
              refine sd_done (by kernel_rfl) ?_
              exact se_mid (g, g14, gi, mw, ms) (by exact has_) (by exact sub_) trivial
            · refine sl_alloc rfl rfl rfl ?_; intro g14
              refine sl_nil ?_
              refine se_sd (fun _ w hw => all_ hw) ?_
              refine sd_one 8 (by kernel_rfl) (sa_sl 8 rfl ?_)
              refine sl_box rfl rfl rfl ?_; intro g
              refine sl_nil ?_
              refine se_sd (fun _ w hw => all_ hw) ?_
              refine sd_one 10 (by kernel_rfl) (sa_sl 10 rfl ?_)
              refine sto_Sko ?_
              refine sl_nil ?_
              refine se_sd (fun _ w hw => all_ hw) ?_
              refine sd_done (by kernel_rfl) ?_
              exact se_mid (g, g14, gi, mw, ms) (by exact has_) (by exact sub_) trivial
          · refine sl_alloc rfl rfl rfl ?_; intro g14
            refine sl_nil ?_
            refine se_sd (fun _ w hw => all_ hw) ?_
            refine sd_one 7 (by kernel_rfl) (sa_sl 7 rfl ?_)
            refine sl_pu (pu_build (v := .agg (stC9 t p.gj gi gb mw ms 0).toArray) rfl (fun W => by kernel_rfl)) rfl ?_
            refine sl_nil ?_
            refine se_sd (fun _ w hw => all_ hw) ?_
            refine sd_one 8 (by kernel_rfl) (sa_sl 8 rfl ?_)
            refine sl_box rfl rfl rfl ?_; intro g
            refine sl_nil ?_
            refine se_sd (fun _ w hw => all_ hw) ?_
            refine sd_one 10 (by kernel_rfl) (sa_sl 10 rfl ?_)
            refine sto_Sko ?_
            refine sl_nil ?_
            refine se_sd (fun _ w hw => all_ hw) ?_
            refine sd_done (by kernel_rfl) ?_
            exact se_mid (g, g14, gi, mw, ms) (by exact has_) (by exact sub_) trivial
        · refine sl_alloc rfl rfl rfl ?_; intro g14
          refine sl_nil ?_
          refine se_sd (fun _ w hw => all_ hw) ?_
          refine sd_one 5 (by kernel_rfl) (sa_sl 5 rfl ?_)
          refine sl_makeMap (d := .array 16 5) rfl ?_
          intro mw
          refine sl_nil ?_
          refine se_sd (fun _ w hw => all_ hw) ?_
          refine sd_one 7 (by kernel_rfl) (sa_sl 7 rfl ?_)
          refine sl_pu (pu_build (v := .agg (stC9 t p.gj gi gb mw ms 0).toArray) rfl (fun W => by kernel_rfl)) rfl ?_
          refine sl_nil ?_
          refine se_sd (fun _ w hw => all_ hw) ?_
          refine sd_one 8 (by kernel_rfl) (sa_sl 8 rfl ?_)
          refine sl_box rfl rfl rfl ?_; intro g
          refine sl_nil ?_
          refine se_sd (fun _ w hw => all_ hw) ?_
          refine sd_one 10 (by kernel_rfl) (sa_sl 10 rfl ?_)
          refine sto_Sko ?_
          refine sl_nil ?_
          refine se_sd (fun _ w hw => all_ hw) ?_
          refine sd_done (by kernel_rfl) ?_
          exact se_mid (g, g14, gi, mw, ms) (by exact has_) (by exact sub_) trivial
      · refine sl_alloc rfl rfl rfl ?_; intro g14
        refine sl_nil ?_
        refine se_sd (fun _ w hw => all_ hw) ?_
        refine sd_two 5 6 (by kernel_rfl) (sa_sl 5 rfl ?_) (sa_sl 6 rfl ?_)
        · refine sl_makeMap (d := .array 16 5) rfl ?_
          intro mw
          refine sl_nil ?_
          refine se_sd (fun _ w hw => all_ hw) ?_
          refine sd_one 6 (by kernel_rfl) (sa_sl 6 rfl ?_)
          refine sl_makeMap (d := .array 16 5) rfl ?_
          intro ms
          refine sl_nil ?_
          refine se_sd (fun _ w hw => all_ hw) ?_
          refine sd_one 7 (by kernel_rfl) (sa_sl 7 rfl ?_)
          refine sl_pu (pu_build (v := .agg (stC9 t p.gj gi gb mw ms 0).toArray) rfl (fun W => by kernel_rfl)) rfl ?_
          refine sl_nil ?_
          refine se_sd (fun _ w hw => all_ hw) ?_
          refine sd_one 8 (by kernel_rfl) (sa_sl 8 rfl ?_)
          refine sl_box rfl rfl rfl ?_; intro g
          refine sl_nil ?_
          refine se_sd (fun _ w hw => all_ hw) ?_
          refine sd_one 10 (by kernel_rfl) (sa_sl 10 rfl ?_)
          refine sto_Sko ?_
          refine sl_nil ?_
          refine se_sd (fun _ w hw => all_ hw) ?_
          refine sd_done (by kernel_rfl) ?_
          exact se_mid (g, g14, gi, mw, ms) (by exact has_) (by exact sub_) trivial
        · refine sl_makeMap (d := .array 16 5) rfl ?_
          intro ms
          refine sl_nil ?_
          refine se_sd (fun _ w hw => all_ hw) ?_
          refine sd_one 5 (by kernel_rfl) (sa_sl 5 rfl ?_)
          refine sl_makeMap (d := .array 16 5) rfl ?_
          intro mw
          refine sl_nil ?_
          refine se_sd (fun _ w hw => all_ hw) ?_
          refine sd_one 7 (by kernel_rfl) (sa_sl 7 rfl ?_)
          refine sl_pu (pu_build (v := .agg (stC9 t p.gj gi gb mw ms 0).toArray) rfl (fun W => by kernel_rfl)) rfl ?_
          refine sl_nil ?_
          refine se_sd (fun _ w hw => all_ hw) ?_
          refine sd_one 8 (by kernel_rfl) (sa_sl 8 rfl ?_)
          refine sl_box rfl rfl rfl ?_; intro g
          refine sl_nil ?_
          refine se_sd (fun _ w hw => all_ hw) ?_
          refine sd_one 10 (by kernel_rfl) (sa_sl 10 rfl ?_)
          refine sto_Sko ?_
          refine sl_nil ?_
          refine se_sd (fun _ w hw => all_ hw) ?_
          refine sd_done (by kernel_rfl) ?_
          exact se_mid (g, g14, gi, mw, ms) (by exact has_) (by exact sub_) trivial
    · refine sl_makeMap (d := .array 16 5) rfl ?_
      intro mw
      refine sl_nil ?_
      refine se_sd (fun _ w hw => all_ hw) ?_
      refine sd_three 3 6 9 (by kernel_rfl) (sa_sl 3 rfl ?_) (sa_sl 6 rfl ?_) (sa_sl 9 rfl ?_)
      · refine sl_call rfl rfl (by kernel_rfl) rfl Sub.refl (new_ok limit) ?_
        rintro gi -
        refine sl_nil ?_
        refine se_sd (fun _ w hw => all_ hw) ?_
        refine sd_two 6 9 (by kernel_rfl) (sa_sl 6 rfl ?_) (sa_sl 9 rfl ?_)
        · refine sl_makeMap (d := .array 16 5) rfl ?_
          intro ms
          refine sl_nil ?_
          refine se_sd (fun _ w hw => all_ hw) ?_
          refine sd_two 7 9 (by kernel_rfl) (sa_sl 7 rfl ?_) (sa_sl 9 rfl ?_)
          · refine sl_pu (pu_build (v := .agg (stC9 t p.gj gi gb mw ms 0).toArray) rfl (fun W => by kernel_rfl)) rfl ?_
            refine sl_nil ?_
            refine se_sd (fun _ w hw => all_ hw) ?_
            refine sd_two 8 9 (by kernel_rfl) (sa_sl 8 rfl ?_) (sa_sl 9 rfl ?_)
            · refine sl_box rfl rfl rfl ?_; intro g
              refine sl_nil ?_
              refine se_sd (fun _ w hw => all_ hw) ?_
              refine sd_one 9 (by kernel_rfl) (sa_sl 9 rfl ?_)
              refine sl_alloc rfl rfl rfl ?_; intro g14
              refine sl_nil ?_
              refine se_sd (fun _ w hw => all_ hw) ?_
              refine sd_one 10 (by kernel_rfl) (sa_sl 10 rfl ?_)
              refine sto_Sko ?_
              refine sl_nil ?_
              refine se_sd (fun _ w hw => all_ hw) ?_
              refine sd_done (by kernel_rfl) ?_
              exact se_mid (g, g14, gi, mw, ms) (by exact has_) (by exact sub_) trivial
            · refine sl_alloc rfl rfl rfl ?_; intro g14
              refine sl_nil ?_
              refine se_sd (fun _ w hw => all_ hw) ?_
              refine sd_one 8 (by kernel_rfl) (sa_sl 8 rfl ?_)
              refine sl_box rfl rfl rfl ?_; intro g
              refine sl_nil ?_
              refine se_sd (fun _ w hw => all_ hw) ?_
              refine sd_one 10 (by kernel_rfl) (sa_sl 10 rfl ?_)
              refine sto_Sko ?_
              refine sl_nil ?_
              refine se_sd (fun _ w hw => all_ hw) ?_
              refine sd_done (by kernel_rfl) ?_
              exact se_mid (g, g14, gi, mw, ms) (by exact has_) (by exact sub_) trivial
          · refine sl_alloc rfl rfl rfl ?_; intro g14
            refine sl_nil ?_
            refine se_sd (fun _ w hw => all_ hw) ?_
            refine sd_one 7 (by kernel_rfl) (sa_sl 7 rfl ?_)
            refine sl_pu (pu_build (v := .agg (stC9 t p.gj gi gb mw ms 0).toArray) rfl (fun W => by kernel_rfl)) rfl ?_
            refine sl_nil ?_
            refine se_sd (fun _ w hw => all_ hw) ?_
            refine sd_one 8 (by kernel_rfl) (sa_sl 8 rfl ?_)
            refine sl_box rfl rfl rfl ?_; intro g
            refine sl_nil ?_
            refine se_sd (fun _ w hw => all_ hw) ?_
            refine sd_one 10 (by kernel_rfl) (sa_sl 10 rfl ?_)
            refine sto_Sko ?_
            refine sl_nil ?_
            refine se_sd (fun _ w hw => all_ hw) ?_
            refine sd_done (by kernel_rfl) ?_
            exact se_mid (g, g14, gi, mw, ms) (by exact has_) (by exact sub_) trivial
        · refine sl_alloc rfl rfl rfl ?_; intro g14
          refine sl_nil ?_
          refine se_sd (fun _ w hw => all_ hw) ?_
          refine sd_one 6 (by kernel_rfl) (sa_sl 6 rfl ?_)
          refine sl_makeMap (d := .array 16 5) rfl ?_
          intro ms
          refine sl_nil ?_
          refine se_sd (fun _ w hw => all_ hw) ?_
          refine sd_one 7 (by kernel_rfl) (sa_sl 7 rfl ?_)
          refine sl_pu (pu_build (v := .agg (stC9 t p.gj gi gb mw ms 0).toArray) rfl (fun W => by kernel_rfl)) rfl ?_
          refine sl_nil ?_
          refine se_sd (fun _ w hw => all_ hw) ?_
          refine sd_one 8 (by kernel_rfl) (sa_sl 8 rfl ?_)
          refine sl_box rfl rfl rfl ?_; intro g
          refine sl_nil ?_
          refine se_sd (fun _ w hw => all_ hw) ?_
          refine sd_one 10 (by kernel_rfl) (sa_sl 10 rfl ?_)
          refine sto_Sko ?_
          refine sl_nil ?_
          refine se_sd (fun _ w hw => all_ hw) ?_
          refine sd_done (by kernel_rfl) ?_
          exact se_mid (g, g14, gi, mw, ms) (by exact has_) (by exact sub_) trivial
      · refine sl_makeMap (d := .array 16 5) rfl ?_
        intro ms
        refine sl_nil ?_
        refine se_sd (fun _ w hw => all_ hw) ?_
        refine sd_two 3 9 (by kernel_rfl) (sa_sl 3 rfl ?_) (sa_sl 9 rfl ?_)
        · refine sl_call rfl rfl (by kernel_rfl) rfl Sub.refl (new_ok limit) ?_
          rintro gi -
          refine sl_nil ?_
          refine se_sd (fun _ w hw => all_ hw) ?_
          refine sd_two 7 9 (by kernel_rfl) (sa_sl 7 rfl ?_) (sa_sl 9 rfl ?_)
          · refine sl_pu (pu_build (v := .agg (stC9 t p.gj gi gb mw ms 0).toArray) rfl (fun W => by kernel_rfl)) rfl ?_
            refine sl_nil ?_
            refine se_sd (fun _ w hw => all_ hw) ?_
            refine sd_two 8 9 (by kernel_rfl) (sa_sl 8 rfl ?_) (sa_sl 9 rfl ?_)
            · refine sl_box rfl rfl rfl ?_; intro g
              refine sl_nil ?_
              refine se_sd (fun _ w hw => all_ hw) ?_
              refine sd_one 9 (by kernel_rfl) (sa_sl 9 rfl ?_)
              refine sl_alloc rfl rfl rfl ?_; intro g14
              refine sl_nil ?_
              refine se_sd (fun _ w hw => all_ hw) ?_
              refine sd_one 10 (by kernel_rfl) (sa_sl 10 rfl ?_)
              refine sto_Sko ?_
              refine sl_nil ?_
              refine se_sd (fun _ w hw => all_ hw) ?_
              refine sd_done (by kernel_rfl) ?_
              exact se_mid (g, g14, gi, mw, ms) (by exact has_) (by exact sub_) trivial
            · refine sl_alloc rfl rfl rfl ?_; intro g14
              refine sl_nil ?_
              refine se_sd (fun _ w hw => all_ hw) ?_
              refine sd_one 8 (by kernel_rfl) (sa_sl 8 rfl ?_)
              refine sl_box rfl rfl rfl ?_; intro g
              refine sl_nil ?_
              refine se_sd (fun _ w hw => all_ hw) ?_
              refine sd_one 10 (by kernel_rfl) (sa_sl 10 rfl ?_)
              refine sto_Sko ?_
              refine sl_nil ?_
              refine se_sd (fun _ w hw => all_ hw) ?_
              refine sd_done (by kernel_rfl) ?_
              exact se_mid (g, g14, gi, mw, ms) (by exact has_) (by exact sub_) trivial
          · refine sl_alloc rfl rfl rfl ?_; intro g14
            refine sl_nil ?_
            refine se_sd (fun _ w hw => all_ hw) ?_
            refine sd_one 7 (by kernel_rfl) (sa_sl 7 rfl ?_)
            refine sl_pu (pu_build (v := .agg (stC9 t p.gj gi gb mw ms 0).toArray) rfl (fun W => by kernel_rfl)) rfl ?_
            refine sl_nil ?_
            refine se_sd (fun _ w hw => all_ hw) ?_
            refine sd_one 8 (by kernel_rfl) (sa_sl 8 rfl ?_)
            refine sl_box rfl rfl rfl ?_; intro g
            refine sl_nil ?_
            refine se_sd (fun _ w hw => all_ hw) ?_
            refine sd_one 10 (by kernel_rfl) (sa_sl 10 rfl ?_)
            refine sto_Sko ?_
            refine sl_nil ?_
            refine se_sd (fun _ w hw => all_ hw) ?_
            refine sd_done (by kernel_rfl) ?_
            exact se_mid (g, g14, gi, mw, ms) (by exact has_) (by exact sub_) trivial
        · refine sl_alloc rfl rfl rfl ?_; intro g14
          refine sl_nil ?_
          refine se_sd (fun _ w hw => all_ hw) ?_
          refine sd_one 3 (by kernel_rfl) (sa_sl 3 rfl ?_)
          refine sl_call rfl rfl (by kernel_rfl) rfl Sub.refl (new_ok limit) ?_
          rintro gi -
          refine sl_nil ?_
          refine se_sd (fun _ w hw => all_ hw) ?_
          refine sd_one 7 (by kernel_rfl) (sa_sl 7 rfl ?_)
          refine sl_pu (pu_build (v := .agg (stC9 t p.gj gi gb mw ms 0).toArray) rfl (fun W => by kernel_rfl)) rfl ?_
          refine sl_nil ?_
          refine se_sd (fun _ w hw => all_ hw) ?_
          refine sd_one 8 (by kernel_rfl) (sa_sl 8 rfl ?_)
          refine sl_box rfl rfl rfl ?_; intro g
          refine sl_nil ?_
          refine se_sd (fun _ w hw => all_ hw) ?_
          refine sd_one 10 (by kernel_rfl) (sa_sl 10 rfl ?_)
          refine sto_Sko ?_
          refine sl_nil ?_
          refine se_sd (fun _ w hw => all_ hw) ?_
          refine sd_done (by kernel_rfl) ?_
          exact se_mid (g, g14, gi, mw, ms) (by exact has_) (by exact sub_) trivial
      · refine sl_alloc rfl rfl rfl ?_; intro g14
        refine sl_nil ?_
        refine se_sd (fun _ w hw => all_ hw) ?_
        refine sd_two 3 6 (by kernel_rfl) (sa_sl 3 rfl ?_) (sa_sl 6 rfl ?_)
        · refine sl_call rfl rfl (by kernel_rfl) rfl Sub.refl (new_ok limit) ?_
          rintro gi -
          refine sl_nil ?_
          refine se_sd (fun _ w hw => all_ hw) ?_
          refine sd_one 6 (by kernel_rfl) (sa_sl 6 rfl ?_)
          refine sl_makeMap (d := .array 16 5) rfl ?_
          intro ms
          refine sl_nil ?_
          refine se_sd (fun _ w hw => all_ hw) ?_
          refine sd_one 7 (by kernel_rfl) (sa_sl 7 rfl ?_)
          refine sl_pu (pu_build (v := .agg (stC9 t p.gj gi gb mw ms 0).toArray) rfl (fun W => by kernel_rfl)) rfl ?_
          refine sl_nil ?_
          refine se_sd (fun _ w hw => all_ hw) ?_
          refine sd_one 8 (by kernel_rfl) (sa_sl 8 rfl ?_)
          refine sl_box rfl rfl rfl ?_; intro g
          refine sl_nil ?_
          refine se_sd (fun _ w hw => all_ hw) ?_
          refine sd_one 10 (by kernel_rfl) (sa_sl 10 rfl ?_)
          refine sto_Sko ?_
          refine sl_nil ?_
          refine se_sd (fun _ w hw => all_ hw) ?_
          refine sd_done (by kernel_rfl) ?_
          exact se_mid (g, g14, gi, mw, ms) (by exact has_) (by exact sub_) trivial
        · refine sl_makeMap (d := .array 16 5) rfl ?_
          intro ms
          refine sl_nil ?_
          refine se_sd (fun _ w hw => all_ hw) ?_
          refine sd_one 3 (by kernel_rfl) (sa_sl 3 rfl ?_)
          refine sl_call rfl rfl (by kernel_rfl) rfl Sub.refl (new_ok limit) ?_
          rintro gi -
          refine sl_nil ?_
          refine se_sd (fun _ w hw => all_ hw) ?_
          refine sd_one 7 (by kernel_rfl) (sa_sl 7 rfl ?_)
          refine sl_pu (pu_build (v := .agg (stC9 t p.gj gi gb mw ms 0).toArray) rfl (fun W => by kernel_rfl)) rfl ?_
          refine sl_nil ?_
          refine se_sd (fun _ w hw => all_ hw) ?_
          refine sd_one 8 (by kernel_rfl) (sa_sl 8 rfl ?_)
          refine sl_box rfl rfl rfl ?_; intro g
          refine sl_nil ?_
          refine se_sd (fun _ w hw => all_ hw) ?_
          refine sd_one 10 (by kernel_rfl) (sa_sl 10 rfl ?_)
          refine sto_Sko ?_
          refine sl_nil ?_
          refine se_sd (fun _ w hw => all_ hw) ?_
          refine sd_done (by kernel_rfl) ?_
          exact se_mid (g, g14, gi, mw, ms) (by exact has_) (by exact sub_) trivial
    · refine sl_makeMap (d := .array 16 5) rfl ?_
      intro ms
      refine sl_nil ?_
      refine se_sd (fun _ w hw => all_ hw) ?_
      refine sd_three 3 5 9 (by kernel_rfl) (sa_sl 3 rfl ?_) (sa_sl 5 rfl ?_) (sa_sl 9 rfl ?_)
      · refine sl_call rfl rfl (by kernel_rfl) rfl Sub.refl (new_ok limit) ?_
        rintro gi -
        refine sl_nil ?_
        refine se_sd (fun _ w hw => all_ hw) ?_
        refine sd_two 5 9 (by kernel_rfl) (sa_sl 5 rfl ?_) (sa_sl 9 rfl ?_)
        · refine sl_makeMap (d := .array 16 5) rfl ?_
          intro mw
          refine sl_nil ?_
          refine se_sd (fun _ w hw => all_ hw) ?_
          refine sd_two 7 9 (by kernel_rfl) (sa_sl 7 rfl ?_) (sa_sl 9 rfl ?_)
          · refine sl_pu (pu_build (v := .agg (stC9 t p.gj gi gb mw ms 0).toArray) rfl (fun W => by kernel_rfl)) rfl ?_
            refine sl_nil ?_
            refine se_sd (fun _ w hw => all_ hw) ?_
            refine sd_two 8 9 (by kernel_rfl) (sa_sl 8 rfl ?_) (sa_sl 9 rfl ?_)
            · refine sl_box rfl rfl rfl ?_; intro g
              refine sl_nil ?_
              refine se_sd (fun _ w hw => all_ hw) ?_
              refine sd_one 9 (by kernel_rfl) (sa_sl 9 rfl ?_)
              refine sl_alloc rfl rfl rfl ?_; intro g14
              refine sl_nil ?_
              refine se_sd (fun _ w hw => all_ hw) ?_
              refine sd_one 10 (by kernel_rfl) (sa_sl 10 rfl ?_)
              refine sto_Sko ?_
              refine sl_nil ?_
              refine se_sd (fun _ w hw => all_ hw) ?_
              refine sd_done (by kernel_rfl) ?_
              exact se_mid (g, g14, gi, mw, ms) (by exact has_) (by exact sub_) trivial
            · refine sl_alloc rfl rfl rfl ?_; intro g14
              refine sl_nil ?_
              refine se_sd (fun _ w hw => all_ hw) ?_
              refine sd_one 8 (by kernel_rfl) (sa_sl 8 rfl ?_)
              refine sl_box rfl rfl rfl ?_; intro g
              refine sl_nil ?_
              refine se_sd (fun _ w hw => all_ hw) ?_
              refine sd_one 10 (by kernel_rfl) (sa_sl 10 rfl ?_)
              refine sto_Sko ?_
              refine sl_nil ?_
              refine se_sd (fun _ w hw => all_ hw) ?_
              refine sd_done (by kernel_rfl) ?_
              exact se_mid (g, g14, gi, mw, ms) (by exact has_) (by exact sub_) trivial
          · refine sl_alloc rfl rfl rfl ?_; intro g14
            refine sl_nil ?_
            refine se_sd (fun _ w hw => all_ hw) ?_
            refine sd_one 7 (by kernel_rfl) (sa_sl 7 rfl ?_)
            refine sl_pu (pu_build (v := .agg (stC9 t p.gj gi gb mw ms 0).toArray) rfl (fun W => by kernel_rfl)) rfl ?_
            refine sl_nil ?_
            refine se_sd (fun _ w hw => all_ hw) ?_
            refine sd_one 8 (by kernel_rfl) (sa_sl 8 rfl ?_)
            refine sl_box rfl rfl rfl ?_; intro g
            refine sl_nil ?_
            refine se_sd (fun _ w hw => all_ hw) ?_
            refine sd_one 10 (by kernel_rfl) (sa_sl 10 rfl ?_)
            refine sto_Sko ?_
            refine sl_nil ?_
            refine se_sd (fun _ w hw => all_ hw) ?_
            refine sd_done (by kernel_rfl) ?_
            exact se_mid (g, g14, gi, mw, ms) (by exact has_) (by exact sub_) trivial
        · refine sl_alloc rfl rfl rfl ?_; intro g14
          refine sl_nil ?_
          refine se_sd (fun _ w hw => all_ hw) ?_
          refine sd_one 5 (by kernel_rfl) (sa_sl 5 rfl ?_)
          refine sl_makeMap (d := .array 16 5) rfl ?_
          intro mw
          refine sl_nil ?_
          refine se_sd (fun _ w hw => all_ hw) ?_
          refine sd_one 7 (by kernel_rfl) (sa_sl 7 rfl ?_)
          refine sl_pu (pu_build (v := .agg (stC9 t p.gj gi gb mw ms 0).toArray) rfl (fun W => by kernel_rfl)) rfl ?_
          refine sl_nil ?_
          refine se_sd (fun _ w hw => all_ hw) ?_
          refine sd_one 8 (by kernel_rfl) (sa_sl 8 rfl ?_)
          refine sl_box rfl rfl rfl ?_; intro g
          refine sl_nil ?_
          refine se_sd (fun _ w hw => all_ hw) ?_
          refine sd_one 10 (by kernel_rfl) (sa_sl 10 rfl ?_)
          refine sto_Sko ?_
          refine sl_nil ?_
          refine se_sd (fun _ w hw => all_ hw) ?_
          refine sd_done (by kernel_rfl) ?_
          exact se_mid (g, g14, gi, mw, ms) (by exact has_) (by exact sub_) trivial
      · refine sl_makeMap (d := .array 16 5) rfl ?_
        intro mw
        refine sl_nil ?_
        refine se_sd (fun _ w hw => all_ hw) ?_
        refine sd_two 3 9 (by kernel_rfl) (sa_sl 3 rfl ?_) (sa_sl 9 rfl ?_)
        · refine sl_call rfl rfl (by kernel_rfl) rfl Sub.refl (new_ok limit) ?_
          rintro gi -
          refine sl_nil ?_
          refine se_sd (fun _ w hw => all_ hw) ?_
          refine sd_two 7 9 (by kernel_rfl) (sa_sl 7 rfl ?_) (sa_sl 9 rfl ?_)
          · refine sl_pu (pu_build (v := .agg (stC9 t p.gj gi gb mw ms 0).toArray) rfl (fun W => by kernel_rfl)) rfl ?_
            refine sl_nil ?_
            refine se_sd (fun _ w hw => all_ hw) ?_
            refine sd_two 8 9 (by kernel_rfl) (sa_sl 8 rfl ?_) (sa_sl 9 rfl ?_)
            · refine sl_box rfl rfl rfl ?_; intro g
              refine sl_nil ?_
              refine se_sd (fun _ w hw => all_ hw) ?_
              refine sd_one 9 (by kernel_rfl) (sa_sl 9 rfl ?_)
              refine sl_alloc rfl rfl rfl ?_; intro g14
              refine sl_nil ?_
              refine se_sd (fun _ w hw => all_ hw) ?_
              refine sd_one 10 (by kernel_rfl) (sa_sl 10 rfl ?_)
              refine sto_Sko ?_
              refine sl_nil ?_
              refine se_sd (fun _ w hw => all_ hw) ?_
              refine sd_done (by kernel_rfl) ?_
              exact se_mid (g, g14, gi, mw, ms) (by exact has_) (by exact sub_) trivial
            · refine sl_alloc rfl rfl rfl ?_; intro g14
              refine sl_nil ?_
              refine se_sd (fun _ w hw => all_ hw) ?_
              refine sd_one 8 (by kernel_rfl) (sa_sl 8 rfl ?_)
              refine sl_box rfl rfl rfl ?_; intro g
              refine sl_nil ?_
              refine se_sd (fun _ w hw => all_ hw) ?_
              refine sd_one 10 (by kernel_rfl) (sa_sl 10 rfl ?_)
              refine sto_Sko ?_
              refine sl_nil ?_
              refine se_sd (fun _ w hw => all_ hw) ?_
              refine sd_done (by kernel_rfl) ?_
              exact se_mid (g, g14, gi, mw, ms) (by exact has_) (by exact sub_) trivial
          · refine sl_alloc rfl rfl rfl ?_; intro g14
            refine sl_nil ?_
            refine se_sd (fun _ w hw => all_ hw) ?_
            refine sd_one 7 (by kernel_rfl) (sa_sl 7 rfl ?_)
            refine sl_pu (pu_build (v := .agg (stC9 t p.gj gi gb mw ms 0).toArray) rfl (fun W => by kernel_rfl)) rfl ?_
            refine sl_nil ?_
            refine se_sd (fun _ w hw => all_ hw) ?_
            refine sd_one 8 (by kernel_rfl) (sa_sl 8 rfl ?_)
            refine sl_box rfl rfl rfl ?_; intro g
            refine sl_nil ?_
            refine se_sd (fun _ w hw => all_ hw) ?_
            refine sd_one 10 (by kernel_rfl) (sa_sl 10 rfl ?_)
            refine sto_Sko ?_
            refine sl_nil ?_
            refine se_sd (fun _ w hw => all_ hw) ?_
            refine sd_done (by kernel_rfl) ?_
            exact se_mid (g, g14, gi, mw, ms) (by exact has_) (by exact sub_) trivial
        · refine sl_alloc rfl rfl rfl ?_; intro g14
          refine sl_nil ?_
          refine se_sd (fun _ w hw => all_ hw) ?_
          refine sd_one 3 (by kernel_rfl) (sa_sl 3 rfl ?_)
          refine sl_call rfl rfl (by kernel_rfl) rfl Sub.refl (new_ok limit) ?_
          rintro gi -
          refine sl_nil ?_
          refine se_sd (fun _ w hw => all_ hw) ?_
          refine sd_one 7 (by kernel_rfl) (sa_sl 7 rfl ?_)
          refine sl_pu (pu_build (v := .agg (stC9 t p.gj gi gb mw ms 0).toArray) rfl (fun W => by kernel_rfl)) rfl ?_
          refine sl_nil ?_
          refine se_sd (fun _ w hw => all_ hw) ?_
          refine sd_one 8 (by kernel_rfl) (sa_sl 8 rfl ?_)
          refine sl_box rfl rfl rfl ?_; intro g
          refine sl_nil ?_
          refine se_sd (fun _ w hw => all_ hw) ?_
          refine sd_one 10 (by kernel_rfl) (sa_sl 10 rfl ?_)
          refine sto_Sko ?_
          refine sl_nil ?_
          refine se_sd (fun _ w hw => all_ hw) ?_
          refine sd_done (by kernel_rfl) ?_
          exact se_mid (g, g14, gi, mw, ms) (by exact has_) (by exact sub_) trivial
      · refine sl_alloc rfl rfl rfl ?_; intro g14
        refine sl_nil ?_
        refine se_sd (fun _ w hw => all_ hw) ?_
        refine sd_two 3 5 (by kernel_rfl) (sa_sl 3 rfl ?_) (sa_sl 5 rfl ?_)
        · refine sl_call rfl rfl (by kernel_rfl) rfl Sub.refl (new_ok limit) ?_
          rintro gi -
          refine sl_nil ?_
          refine se_sd (fun _ w hw => all_ hw) ?_
          refine sd_one 5 (by kernel_rfl) (sa_sl 5 rfl ?_)
          refine sl_makeMap (d := .array 16 5) rfl ?_
          intro mw
          refine sl_nil ?_
          refine se_sd (fun _ w hw => all_ hw) ?_
          refine sd_one 7 (by kernel_rfl) (sa_sl 7 rfl ?_)
          refine sl_pu (pu_build (v := .agg (stC9 t p.gj gi gb mw ms 0).toArray) rfl (fun W => by kernel_rfl)) rfl ?_
          refine sl_nil ?_
          refine se_sd (fun _ w hw => all_ hw) ?_
          refine sd_one 8 (by kernel_rfl) (sa_sl 8 rfl ?_)
          refine sl_box rfl rfl rfl ?_; intro g
          refine sl_nil ?_
          refine se_sd (fun _ w hw => all_ hw) ?_
          refine sd_one 10 (by kernel_rfl) (sa_sl 10 rfl ?_)
          refine sto_Sko ?_
          refine sl_nil ?_
          refine se_sd (fun _ w hw => all_ hw) ?_
          refine sd_done (by kernel_rfl) ?_
          exact se_mid (g, g14, gi, mw, ms) (by exact has_) (by exact sub_) trivial
        · refine sl_makeMap (d := .array 16 5) rfl ?_
          intro mw
          refine sl_nil ?_
          refine se_sd (fun _ w hw => all_ hw) ?_
          refine sd_one 3 (by kernel_rfl) (sa_sl 3 rfl ?_)
          refine sl_call rfl rfl (by kernel_rfl) rfl Sub.refl (new_ok limit) ?_
          rintro gi -
          refine sl_nil ?_
          refine se_sd (fun _ w hw => all_ hw) ?_
          refine sd_one 7 (by kernel_rfl) (sa_sl 7 rfl ?_)
          refine sl_pu (pu_build (v := .agg (stC9 t p.gj gi gb mw ms 0).toArray) rfl (fun W => by kernel_rfl)) rfl ?_
          refine sl_nil ?_
          refine se_sd (fun _ w hw => all_ hw) ?_
          refine sd_one 8 (by kernel_rfl) (sa_sl 8 rfl ?_)
          refine sl_box rfl rfl rfl ?_; intro g
          refine sl_nil ?_
          refine se_sd (fun _ w hw => all_ hw) ?_
          refine sd_one 10 (by kernel_rfl) (sa_sl 10 rfl ?_)
          refine sto_Sko ?_
          refine sl_nil ?_
          refine se_sd (fun _ w hw => all_ hw) ?_
          refine sd_done (by kernel_rfl) ?_
          exact se_mid (g, g14, gi, mw, ms) (by exact has_) (by exact sub_) trivial
    · refine sl_alloc rfl rfl rfl ?_; intro g14
      refine sl_nil ?_
      refine se_sd (fun _ w hw => all_ hw) ?_
      refine sd_three 3 5 6 (by kernel_rfl) (sa_sl 3 rfl ?_) (sa_sl 5 rfl ?_) (sa_sl 6 rfl ?_)
      · refine sl_call rfl rfl (by kernel_rfl) rfl Sub.refl (new_ok limit) ?_
        rintro gi -
        refine sl_nil ?_
        refine se_sd (fun _ w hw => all_ hw) ?_
        refine sd_two 5 6 (by kernel_rfl) (sa_sl 5 rfl ?_) (sa_sl 6 rfl ?_)
        · refine sl_makeMap (d := .array 16 5) rfl ?_
          intro mw
          refine sl_nil ?_
          refine se_sd (fun _ w hw => all_ hw) ?_
          refine sd_one 6 (by kernel_rfl) (sa_sl 6 rfl ?_)
          refine sl_makeMap (d := .array 16 5) rfl ?_
          intro ms
          refine sl_nil ?_
          refine se_sd (fun _ w hw => all_ hw) ?_
          refine sd_one 7 (by kernel_rfl) (sa_sl 7 rfl ?_)
          refine sl_pu (pu_build (v := .agg (stC9 t p.gj gi gb mw ms 0).toArray) rfl (fun W => by kernel_rfl)) rfl ?_
          refine sl_nil ?_
          refine se_sd (fun _ w hw => all_ hw) ?_
          refine sd_one 8 (by kernel_rfl) (sa_sl 8 rfl ?_)
          refine sl_box rfl rfl rfl ?_; intro g
          refine sl_nil ?_
          refine se_sd (fun _ w hw => all_ hw) ?_
          refine sd_one 10 (by kernel_rfl) (sa_sl 10 rfl ?_)
          refine sto_Sko ?_
          refine sl_nil ?_
          refine se_sd (fun _ w hw => all_ hw) ?_
          refine sd_done (by kernel_rfl) ?_
          exact se_mid (g, g14, gi, mw, ms) (by exact has_) (by exact sub_) trivial
        · refine sl_makeMap (d := .array 16 5) rfl ?_
          intro ms
          refine sl_nil ?_
          refine se_sd (fun _ w hw => all_ hw) ?_
          refine sd_one 5 (by kernel_rfl) (sa_sl 5 rfl ?_)
          refine sl_makeMap (d := .array 16 5) rfl ?_
          intro mw
          refine sl_nil ?_
          refine se_sd (fun _ w hw => all_ hw) ?_
          refine sd_one 7 (by kernel_rfl) (sa_sl 7 rfl ?_)
          refine sl_pu (pu_build (v := .agg (stC9 t p.gj gi gb mw ms 0).toArray) rfl (fun W => by kernel_rfl)) rfl ?_
          refine sl_nil ?_
          refine se_sd (fun _ w hw => all_ hw) ?_
          refine sd_one 8 (by kernel_rfl) (sa_sl 8 rfl ?_)
          refine sl_box rfl rfl rfl ?_; intro g
          refine sl_nil ?_
          refine se_sd (fun _ w hw => all_ hw) ?_
          refine sd_one 10 (by kernel_rfl) (sa_sl 10 rfl ?_)
          refine sto_Sko ?_
          refine sl_nil ?_
          refine se_sd (fun _ w hw => all_ hw) ?_
          refine sd_done (by kernel_rfl) ?_
          exact se_mid (g, g14, gi, mw, ms) (by exact has_) (by exact sub_) trivial
      · refine sl_makeMap (d := .array 16 5) rfl ?_
        intro mw
        refine sl_nil ?_
        refine se_sd (fun _ w hw => all_ hw) ?_
        refine sd_two 3 6 (by kernel_rfl) (sa_sl 3 rfl ?_) (sa_sl 6 rfl ?_)
        · refine sl_call rfl rfl (by kernel_rfl) rfl Sub.refl (new_ok limit) ?_
          rintro gi -
          refine sl_nil ?_
          refine se_sd (fun _ w hw => all_ hw) ?_
          refine sd_one 6 (by kernel_rfl) (sa_sl 6 rfl ?_)
          refine sl_makeMap (d := .array 16 5) rfl ?_
          intro ms
          refine sl_nil ?_
          refine se_sd (fun _ w hw => all_ hw) ?_
          refine sd_one 7 (by kernel_rfl) (sa_sl 7 rfl ?_)
          refine sl_pu (pu_build (v := .agg (stC9 t p.gj gi gb mw ms 0).toArray) rfl (fun W => by kernel_rfl)) rfl ?_
          refine sl_nil ?_
          refine se_sd (fun _ w hw => all_ hw) ?_
          refine sd_one 8 (by kernel_rfl) (sa_sl 8 rfl ?_)
          refine sl_box rfl rfl rfl ?_; intro g
          refine sl_nil ?_
          refine se_sd (fun _ w hw => all_ hw) ?_
          refine sd_one 10 (by kernel_rfl) (sa_sl 10 rfl ?_)
          refine sto_Sko ?_
          refine sl_nil ?_
          refine se_sd (fun _ w hw => all_ hw) ?_
          refine sd_done (by kernel_rfl) ?_
          exact se_mid (g, g14, gi, mw, ms) (by exact has_) (by exact sub_) trivial
        · refine sl_makeMap (d := .array 16 5) rfl ?_
          intro ms
          refine sl_nil ?_
          refine se_sd (fun _ w hw => all_ hw) ?_
          refine sd_one 3 (by kernel_rfl) (sa_sl 3 rfl ?_)
          refine sl_call rfl rfl (by kernel_rfl) rfl Sub.refl (new_ok limit) ?_
          rintro gi -
          refine sl_nil ?_
          refine se_sd (fun _ w hw => all_ hw) ?_
          refine sd_one 7 (by kernel_rfl) (sa_sl 7 rfl ?_)
          refine sl_pu (pu_build (v := .agg (stC9 t p.gj gi gb mw ms 0).toArray) rfl (fun W => by kernel_rfl)) rfl ?_
          refine sl_nil ?_
          refine se_sd (fun _ w hw => all_ hw) ?_
          refine sd_one 8 (by kernel_rfl) (sa_sl 8 rfl ?_)
          refine sl_box rfl rfl rfl ?_; intro g
          refine sl_nil ?_
          refine se_sd (fun _ w hw => all_ hw) ?_
          refine sd_one 10 (by kernel_rfl) (sa_sl 10 rfl ?_)
          refine sto_Sko ?_
          refine sl_nil ?_
          refine se_sd (fun _ w hw => all_ hw) ?_
          refine sd_done (by kernel_rfl) ?_
          exact se_mid (g, g14, gi, mw, ms) (by exact has_) (by exact sub_) trivial
      · refine sl_makeMap (d := .array 16 5) rfl ?_
        intro ms
        refine sl_nil ?_
        refine se_sd (fun _ w hw => all_ hw) ?_
        refine sd_two 3 5 (by kernel_rfl) (sa_sl 3 rfl ?_) (sa_sl 5 rfl ?_)
        · refine sl_call rfl rfl (by kernel_rfl) rfl Sub.refl (new_ok limit) ?_
          rintro gi -
          refine sl_nil ?_
          refine se_sd (fun _ w hw => all_ hw) ?_
          refine sd_one 5 (by kernel_rfl) (sa_sl 5 rfl ?_)
          refine sl_makeMap (d := .array 16 5) rfl ?_
          intro mw
          refine sl_nil ?_
          refine se_sd (fun _ w hw => all_ hw) ?_
          refine sd_one 7 (by kernel_rfl) (sa_sl 7 rfl ?_)
          refine sl_pu (pu_build (v := .agg (stC9 t p.gj gi gb mw ms 0).toArray) rfl (fun W => by kernel_rfl)) rfl ?_
          refine sl_nil ?_
          refine se_sd (fun _ w hw => all_ hw) ?_
          refine sd_one 8 (by kernel_rfl) (sa_sl 8 rfl ?_)
          refine sl_box rfl rfl rfl ?_; intro g
          refine sl_nil ?_
          refine se_sd (fun _ w hw => all_ hw) ?_
          refine sd_one 10 (by kernel_rfl) (sa_sl 10 rfl ?_)
          refine sto_Sko ?_
          refine sl_nil ?_
          refine se_sd (fun _ w hw => all_ hw) ?_
          refine sd_done (by kernel_rfl) ?_
          exact se_mid (g, g14, gi, mw, ms) (by exact has_) (by exact sub_) trivial
        · refine sl_makeMap (d := .array 16 5) rfl ?_
          intro mw
          refine sl_nil ?_
          refine se_sd (fun _ w hw => all_ hw) ?_
          refine sd_one 3 (by kernel_rfl) (sa_sl 3 rfl ?_)
          refine sl_call rfl rfl (by kernel_rfl) rfl Sub.refl (new_ok limit) ?_
          rintro gi -
          refine sl_nil ?_
          refine se_sd (fun _ w hw => all_ hw) ?_
          refine sd_one 7 (by kernel_rfl) (sa_sl 7 rfl ?_)
          refine sl_pu (pu_build (v := .agg (stC9 t p.gj gi gb mw ms 0).toArray) rfl (fun W => by kernel_rfl)) rfl ?_
          refine sl_nil ?_
          refine se_sd (fun _ w hw => all_ hw) ?_
          refine sd_one 8 (by kernel_rfl) (sa_sl 8 rfl ?_)
          refine sl_box rfl rfl rfl ?_; intro g
          refine sl_nil ?_
          refine se_sd (fun _ w hw => all_ hw) ?_
          refine sd_one 10 (by kernel_rfl) (sa_sl 10 rfl ?_)
          refine sto_Sko ?_
          refine sl_nil ?_
          refine se_sd (fun _ w hw => all_ hw) ?_
          refine sd_done (by kernel_rfl) ?_
          exact se_mid (g, g14, gi, mw, ms) (by exact has_) (by exact sub_) trivial
  rintro ⟨g, g14, gi, mw, ms⟩ -
  dsimp only
  obtain ⟨R, hR⟩ : ∃ R, R = p.R := ⟨_, rfl⟩
  rw [← hR] at hJS3 ⊢
  refine go_Sko ?_
  refine sc_for (fun z : Nat × StM => [(14, .pointer (some ⟨g14, 0, none⟩)), (46, .slice R p.xs.length p.c), (47, .int .i64 p.xs.length), (48, .int .i64 z.1)])
    (fun z => sF g t r (min (max limit 0) 256) z.2 (goB g14 g :: jC p.gj gd sj (cellsA ls) :: dB gd md limd :: dM md p.fs p.ck :: dS p.fs :: Kp p :: K0)) (fun z => z.1 ≤ p.xs.length ∧ I p g z.1 z.2) (fun z => p.xs.length - z.1)
    (0, ⟨p.gj, gi, gb, mw, mb, ms, none, 0, [], [], 0, [], 0, [], 0, 0⟩) (by exact has_)
    (by exact Sub.cons (by exact pick_) (Sub.cons (by exact pick_) (Sub.own_nil (Sub.cons (by exact pick_) (Sub.cons (by exact pick_) (Sub.cons (by exact pick_) (Sub.cons (by exact pick_) (sub_star0 (Sub.cons (by exact pick_) (sub_star0 (by exact sub_)))))))))))
    ⟨Nat.zero_le _, hI0 _ _ _ hp rfl rfl rfl rfl rfl rfl⟩ ?_
  rintro ⟨j, q⟩ ⟨hj, hI⟩
  dsimp only at hj hI ⊢
  by_cases hlt : j < p.xs.length
  · obtain ⟨x, hx⟩ : ∃ x, p.xs[j]? = some x := ⟨p.xs[j], List.getElem?_eq_getElem hlt⟩
    have hne : p.xs ≠ [] := fun e => by rw [e] at hlt; simp at hlt
    have hvw := hJS3 hne
    refine sc_know (fun w hw => vw_form hvw (by omega) w (hw.sub (by exact Sub.cons (by exact pick_) Sub.nil))) ?_
    rintro ⟨ad, rfl⟩
    have hnth : nth (sxV p.xs) (j * 1) = some x.v := by
      rw [nth_eq, Nat.mul_one, sxV, List.getElem?_map, hx]
      rfl
    refine go_Sko ?_
    refine sl_pu (pu_ldr (hvw.mono (by exact Sub.cons (by exact pick_) Sub.nil)) (by omega) rfl rfl hnth) rfl ?_
    refine go_Sko ?_
    refine sl_call rfl rfl (by kernel_rfl) rfl Sub.refl (hst p g j x q _ hp hx (by exact Sub.cons (by exact pick_) Sub.nil) hI) ?_
    rintro ⟨z1, q2⟩ hz
    dsimp only at hz ⊢
    by_cases hz1 : z1 = 0
    · subst hz1
      refine go_Sko ?_
      exact se_round (j + 1, q2) (by exact has_) (by exact sub_) ⟨hlt, hz.1 rfl⟩ (by dsimp only; omega)
    · refine go_Sko ?_
      exact se_ret2 (.inl p) ⟨hp, hz.2 hz1⟩ rfl rfl rfl rfl (by exact sub_)
  · obtain rfl : j = p.xs.length := by omega
    rw [hJS2] at hI
    obtain ⟨hIj, hIa, hIb⟩ := hIl _ _ _ hI
    have hlr : (rcLife (q.life + 1)).length = 6 := le_len _ _
    have hml : manyL (5 :: rcLife (q.life + 1)).length = 1 := by rw [List.length_cons, hlr]; rfl
    have hrb : IsBytes (5 :: rcLife (q.life + 1)) := fun x hx => by
      rcases List.mem_cons.1 hx with e | e
      · omega
      · exact le_bytes _ _ x e
    have hcs : cellsA (ls ++ [5 :: rcLife (q.life + 1)]) = cellsA ls + 1 := by rw [cellsA_snoc, hml]
    rw [← hIj]
    refine go_Sko ?_
    refine sl_call rfl rfl (by kernel_rfl) rfl (by exact sub_) (note_ok (K := ixb q.gi q.iA q.ss.length q.ic (min (max limit 0) 256) :: ixo q.iA q.ic q.ss :: bB q.gb t r q.mb :: bM q.mb q.fs q.cb :: bS q.fs :: wM q.mw q.ws q.cw :: wS q.ws :: dMm q.ms q.sd q.cs :: dSs q.sd :: goB g14 g :: K0)
      (g := g) (gj := q.gj) (gi := q.gi) (gb := q.gb) (mw := q.mw) (ms := q.ms) (gd := gd) (md := md) (t := t) (life := q.life + 1) (lim := limd) (kind := 5) (f := 27) (caps := [.pointer (some ⟨g14, 0, none⟩)]) (bs := rcLife (q.life + 1))
      (by kernel_rfl) hJS1 hrb (by rw [List.length_cons, hlr]; decide) (by omega) (by rw [hml]; exact hlim) hlm (fun b A c => fLife_ok (by exact at_) (by exact at_) ⟨by omega, by omega⟩)) ?_
    rintro ⟨f, ck2⟩ hf
    dsimp only at hf ⊢
    have hfl : f.l.length = cellsA (ls ++ [5 :: rcLife (q.life + 1)]) * 64 := by rw [hf.2.1, allL_len]
    refine go_Sko ?_
    refine sd_drawn (fun W => AllP W [goB g14 g]) (fun _ => true) (by kernel_rfl) 5 rfl ?_
    refine sd_yes2 0 rfl (by exact gd_) (by kernel_rfl) (by kernel_rfl) (by exact nop_) (PuI.all (by exact pv_Sko)) rfl (fun w hw => all_ hw) ?_
    refine sd_yes2 1 rfl (by exact gd_) (by kernel_rfl) (by kernel_rfl) (by exact nop_) (PuI.all (by exact pv_Sko)) rfl (fun w hw => all_ hw) ?_
    refine sd_one 2 (by kernel_rfl) (sa_sl 2 rfl ?_)
    refine sl_call rfl rfl (by kernel_rfl) rfl (by exact sub_) (ssync_ok (K := ixb q.gi q.iA q.ss.length q.ic (min (max limit 0) 256) :: ixo q.iA q.ic q.ss :: bB q.gb t r q.mb :: bM q.mb q.fs q.cb :: bS q.fs :: wM q.mw q.ws q.cw :: wS q.ws :: dMm q.ms q.sd q.cs :: dSs q.sd :: goB g14 g :: K0) (g := g) (gj := q.gj) (gi := q.gi) (gb := q.gb) (mw := q.mw) (ms := q.ms) (gd := gd) (md := md) (ckd := ck2) (t := t) (life := q.life + 1) (lim := limd) hf (by omega)) ?_
    rintro f2 hf2
    refine sl_nil ?_
    refine se_sd (fun _ w hw => all_ hw) ?_
    refine sd_yes2 3 rfl (by exact gd_) (by kernel_rfl) (by kernel_rfl) (by exact nop_) (PuI.all (by exact pv_Sko)) rfl (fun w hw => all_ hw) ?_
    refine sd_yes2 4 rfl (by exact gd_) (by kernel_rfl) (by kernel_rfl) (by exact nop_) (PuI.all (by exact pv_Sko)) rfl (fun w hw => all_ hw) ?_
    refine sd_done (by kernel_rfl) ?_
    refine go_Sko ?_
    rw [hfl] at hf2
    exact se_ret2 (.inr ⟨g, { q with life := q.life + 1 }, f2, ck2⟩) ⟨p, q, hp, hI, rfl, hf2⟩ rfl rfl rfl rfl (by exact sub_)
end Go.Proofs.YtocaabnbmcpjmaaGreatDoor
/- Package store: records of reports and of lives, written and read; again at such; a journal opened. -/
namespace Go.Proofs.YtocaabnbmcpjmaaGreatDoor
open Go.RowKit Go.MapKept
attribute [local irreducible] Go.Calls Go.Exit.then Go.Exit.inBlock Go.bodyPost Go.Code.wp Go.wpList takeL recordL hashL recL allL
end Go.Proofs.YtocaabnbmcpjmaaGreatDoor
/- Package store: again at a report; a journal's file opened: none, or one that is cut. -/
namespace Go.Proofs.YtocaabnbmcpjmaaGreatDoor
open Go.RowKit Go.MapKept
attribute [local irreducible] Go.Calls Go.Exit.then Go.Exit.inBlock Go.bodyPost Go.Code.wp Go.wpList takeL recordL hashL recL allL
/-- A report more. -/
def StM.acc (q : StM) (lim : Int) (sn : Seen) (A1 : Option Addr) (c1 : Nat) (w : Wt) : StM := { q with iA := A1, ic := c1, ss := (addI lim q.ss sn).2, ws := if (addI lim q.ss sn).1 = 0 then q.ws ++ [w] else q.ws, cw := if (addI lim q.ss sn).1 = 0 then q.cw + 1 else q.cw }
abbrev KpN : JO → Fa := fun _ => star []
theorem jopen_new {gd md : Nat} {limd : Int} (E : List Fa) : Fn Tryz.prog 23 #[.pointer (some ⟨gd, 0, none⟩), .string sj] (dB gd md limd :: dM md [] 0 :: dS [] :: E)
    (Ret (fun p : JO => p.xs = [] ∧ p.fs = [] ∧ p.ck = 0) (fun p => .tuple #[.pointer (some ⟨p.gj, 0, none⟩), .slice p.R p.xs.length p.c, .int .i64 0]) (fun p => jC p.gj gd sj (cellsA []) :: dB gd md limd :: dM md p.fs p.ck :: dS p.fs :: KpN p :: E)) := by
  refine (open_new (K := E) (g := gd) (m := md) (lim := limd) (s := sj)).say fun q w _ hw => ⟨⟨q.gj, q.R, q.c, [], [], 0⟩, ⟨rfl, rfl, rfl⟩, rfl, ?_⟩
  refine hw.sub ?_
  exact Sub.cons .here (Sub.cons .here (Sub.cons .here (Sub.cons .here (sub_star0 Sub.refl))))
end Go.Proofs.YtocaabnbmcpjmaaGreatDoor
/- Package bucket: Fits, Get, Rules; the nil book. -/
namespace Go.Proofs.YtocaabnbmcpjmaaGreatDoor
open Go.RowKit Go.MapKept
attribute [local irreducible] Go.Calls Go.Exit.then Go.Exit.inBlock Go.bodyPost Go.Code.wp Go.wpList
attribute [local irreducible] hashL ofId
end Go.Proofs.YtocaabnbmcpjmaaGreatDoor
/- Package store: Accept. -/
namespace Go.Proofs.YtocaabnbmcpjmaaGreatDoor
open Go.RowKit Go.MapKept
attribute [local irreducible] Go.Calls Go.Exit.then Go.Exit.inBlock Go.bodyPost Go.Code.wp Go.wpList takeL recordL hashL recL allL
end Go.Proofs.YtocaabnbmcpjmaaGreatDoor
/- Package bucket: Add, Close. -/
namespace Go.Proofs.YtocaabnbmcpjmaaGreatDoor
open Go.RowKit Go.MapKept
attribute [local irreducible] Go.Calls Go.Exit.then Go.Exit.inBlock Go.bodyPost Go.Code.wp Go.wpList
attribute [local irreducible] hashL ofId
/-- A report more in a bucket. -/
def BK.add (b : BK) (fl : Int) (id : Id) (ys : List Int) (g : Nat) : BK := ⟨b.st, some ⟨g, 0, none⟩, b.l.length, addV fl b.l ys, b.m + 1, xorI b.k (ofId id), b.cl, b.bn⟩
end Go.Proofs.YtocaabnbmcpjmaaGreatDoor
