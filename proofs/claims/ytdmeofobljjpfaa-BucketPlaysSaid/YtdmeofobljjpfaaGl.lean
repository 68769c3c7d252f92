/- Package bucket: Close, List of nil; elements compared. -/
import Derived.Test.YtdmeofobljjpfaaGi
import Derived.Test.YtdmeofobljjpfaaEa
namespace Go.Proofs.Ytdmeofobljjpfaa
open Go.RowKit Go.MapKept
attribute [local irreducible] Go.Calls Go.Exit.then Go.Exit.inBlock Go.bodyPost Go.Code.wp Go.wpList
attribute [local irreducible] hashL ofId
theorem eC_nums (v : Int) : eC v = nums .u64 [v % 18446744073709551616, v / 18446744073709551616] := rfl
theorem eC_inj {v u : Int} (h : [v % 18446744073709551616, v / 18446744073709551616] = [u % 18446744073709551616, u / 18446744073709551616]) : v = u := by
  injection h with h1 h2
  injection h2 with h2 _
  omega
theorem eC_dec (v u : Int) : decide ([v % 18446744073709551616, v / 18446744073709551616] = [u % 18446744073709551616, u / 18446744073709551616]) = decide (v = u) := by
  rw [Bool.eq_iff_iff]
  simp only [decide_eq_true_eq]
  exact ⟨eC_inj, fun h => by rw [h]⟩
section
variable {C : World → Prop} {n : Nat} {l : Env} {ty t' : TypeId} {x y : Operand} {u v : Int}
set_option maxRecDepth 100000 in
theorem pu_eqle (hx : ev l x = some (.agg (eC u).toArray)) (hy : ev l y = some (.agg (eC v).toArray)) : Pu Try.prog C n l (.binOp .eql 65 x y t') ty (.bool (decide (u = v))) := by
  rw [eC_nums] at hx hy
  have h := pu_eqla (P := Try.prog) (C := C) (n := n) (ty := ty) (t' := t') (t := 65) (N := 2) (e := 22) (k' := .u64) hx hy rfl rfl rfl (by kernel_rfl) rfl rfl
  rw [eC_dec] at h
  exact h
set_option maxRecDepth 100000 in
theorem pu_neqle (hx : ev l x = some (.agg (eC u).toArray)) (hy : ev l y = some (.agg (eC v).toArray)) : Pu Try.prog C n l (.binOp .neq 65 x y t') ty (.bool (!decide (u = v))) := by
  rw [eC_nums] at hx hy
  have h := pu_neqla (P := Try.prog) (C := C) (n := n) (ty := ty) (t' := t') (t := 65) (N := 2) (e := 22) (k' := .u64) hx hy rfl rfl rfl (by kernel_rfl) rfl rfl
  rw [eC_dec] at h
  exact h
end
set_option maxRecDepth 100000 in
theorem pu_eqr {C : World → Prop} {n : Nat} {l : Env} {ty t' : TypeId} {x y : Operand} {r : Rl} (hx : ev l x = some (.agg r.c.toArray)) (hy : ev l y = some (.agg r.c.toArray)) : Pu Try.prog C n l (.binOp .eql 24 x y t') ty (.bool true) := by
  have h := pu_eqs (C := C) (n := n) (ty := ty) (t' := t') (q := decide (r.w = r.w) && (decide (r.mn = r.mn) && (decide (r.mx = r.mx) && true))) hx hy Try.underlying24 (by kernel_rfl) (by kernel_rfl) (fun w => ?_)
  · simpa using h
  · exact eqF_int (by decide) rfl Try.underlying22 rfl rfl (eqF_int (by decide) rfl Try.underlying3 rfl rfl (eqF_int (by decide) rfl Try.underlying3 rfl rfl eqF_nil))
/-- May a window be closed? -/
def closeE (r : Rl) (fs : List BK) (s : Int) : Int := if 1099511627776 < s ∨ stN r.w s ≠ s then 15 else match bfind fs s with
  | none => 19
  | some b => if b.m < r.mn then 17 else 0
def BK.shut (b : BK) : BK := { b with cl := true }
theorem nth_Gl {φ : Prop} (h : φ := by (first | rfl | first | exact bkC_n0 | exact bkC_n1 | exact bkC_n2 | exact bkC_n19' | exact tc_n0 | exact tc_n1)) : φ := h
theorem mid_Gl {φ : Prop} (h : φ := by (first | first | exact boC_mt | exact boC_mr | exact bkC_mid | exact Ta.mid _ | exact tc_mid | exact Mid.all | exact Mid.all | exact Mid.head)) : φ := h
theorem sz_Gl {φ : Prop} (h : φ := by (first | rfl | ((try simp only [bkC_len tc_len, tc_len, BK.len, bytes_length, Id.len]); (first | done | rfl); first | done | fail))) : φ := h
theorem one_Gl {φ : Prop} (h : φ := by (first | assumption | exact first | exact BK.one _ | exact bkC_one tc_one | exact tc_one | exact Ta.one _ | exact Rl.one _ | exact one_bytes _ | (simp only [List.mem_cons, List.not_mem_nil, or_false, forall_eq_or_imp, forall_eq]; decide) | exact one_bytes _ | (intro v hv; (repeat (rcases List.mem_cons.1 hv with rfl | hv; rfl)); cases hv))) : φ := h
theorem set_Gl {φ : Prop} (h : φ := by (first | (first | exact tc_set0 | exact bkC_set19 tc_len) | ((repeat (first | exact SetAt.here | apply SetAt.there)); first | done | fail))) : φ := h
theorem cl_Gl {φ : Prop} (h : φ := by first | rfl | exact .t | exact .f | exact .t (by omega) | exact .f (by omega) | exact .u | exact .i (by (first | exact .t (by omega) | exact .f (by omega) | exact .u | exact .i (by omega) | exact .v (by omega) | exact .b (by omega) | exact .w | rfl | omega)) | exact .v (by omega) | exact .b (by omega) | exact .q (by omega) | exact .w | exact .b (by exact at_) rfl (by exact nth_Gl) | exact .w (by exact at_) rfl rfl (by exact sz_Gl) | exact .s (by exact at_) (by exact mid_Gl) rfl rfl (by exact sz_Gl) | exact .z rfl rfl ⟨by kernel_rfl⟩ | exact .b rfl rfl ⟨by kernel_rfl⟩ | exact .a rfl rfl ⟨by kernel_rfl⟩ | exact .o rfl | exact .s | exact .n | exact .p rfl | exact .q rfl | exact .c rfl | exact .d rfl | exact .n rfl rfl (by omega) | exact .a rfl rfl (by omega) | exact .p rfl rfl (by omega) (by omega) | exact .y rfl rfl (by omega) (by omega) | exact .o (by exact at_) (by omega) rfl (by exact nth_Gl) | exact .m (by exact at_) (by omega) (by exact mid_Gl) rfl rfl (by exact sz_Gl) | exact .mlen (by exact at_) rfl | exact .t (by exact at_) rfl rfl (by first | exact True.intro | rfl) (by assumption) | exact .f (by exact at_) rfl rfl (by first | exact True.intro | rfl) (by assumption) rfl | exact .t1 (by exact at_) rfl rfl (by first | exact True.intro | rfl) (by assumption) | exact .f1 (by exact at_) rfl rfl (by first | exact True.intro | rfl) (by assumption) rfl | exact .r rfl rfl (by omega) (by omega) (by exact nth_Gl) rfl | exact .s rfl (by omega) (by assumption) | exact at_ | assumption | exact .r rfl rfl | exact .h rfl rfl rfl (by omega) | exact .l rfl rfl rfl (by omega) (by omega) | exact .g rfl rfl rfl rfl (by omega) (by omega) | exact .h rfl rfl (toN_ (by omega)) (by omega) | exact .l rfl rfl (toN_ (by omega)) (by omega) (by omega) | exact .g rfl rfl (toN_ (by omega)) (toN_ (by omega)) (by omega) (by omega) | exact .o (by decide) | exact .f (by decide) | exact .n (by omega) (by first | decide | (show _ ≤ ((64 : Nat) : Int); omega)) | (constructor; (repeat (first | exact .t (by omega) | exact .f (by omega) | exact .u | exact .i (by omega) | exact .v (by omega) | exact .b (by omega) | exact .w | rfl | omega)); first | done | fail) | omega | (show _ ≤ ((64 : Nat) : Int); omega)) : φ := h
theorem pv_Gl {φ : Prop} (h : φ := by constructor; (repeat exact cl_Gl); first | done | fail) : φ := h
theorem su_Gl {φ ψ : Prop} (k : ψ) (h : Hide ψ → φ := by (intro k; (first | refine sl_pu (PuI.sep (by exact pv_Gl)) rfl ?_ | refine sl_yes rfl rfl ?_ | refine sl_no rfl rfl rfl ?_ | refine sl_off rfl rfl rfl ?_ | (fail)); exact k.out)) : φ := h ⟨k⟩
theorem rq_Gl {φ ψ : Prop} (k : ψ) (h : Hide ψ → φ := by (intro k; (first | refine wq_pu (PuI.sep (by exact pv_Gl)) rfl ?_ | refine wq_yes rfl rfl ?_ | refine wq_no rfl rfl rfl ?_ | refine wq_off rfl rfl rfl ?_ | (fail)); exact k.out)) : φ := h ⟨k⟩
theorem sto_Gl {φ ψ : Prop} (k : ψ) (h : Hide ψ → φ := by (intro k; (first | refine sl_store rfl (by exact pick_) rfl rfl (by kernel_rfl) (by exact set_Gl) ?_ | refine sl_store_whole rfl (by exact pick_) rfl (by exact sz_Gl) (by exact sz_Gl) (by exact one_Gl) ?_); exact k.out)) : φ := h ⟨k⟩
theorem go_Gl {φ ψ : Prop} (k : ψ) (h : Hide ψ → φ := by (intro k; (repeat (first | refine su_Gl ?_ | refine so_ ?_ | refine sto_Gl ?_)); exact k.out)) : φ := h ⟨k⟩
set_option maxRecDepth 100000 in
theorem close_nil {K : List Fa} {s : Int} : Fn Try.prog 14 #[.pointer none, .int .u64 s] K (Ret (fun _ : Unit => True) (fun _ => .tuple #[.agg tz.toArray, .int .i64 1]) (fun _ => K)) := by
  refine fn_enter Try.func14 rfl _ Try.ntmps14 (by simp) [(0, .pointer none), (1, .int .u64 s)] (args_of (by simp)) ?_
  refine go_Gl ?_
  refine sl_alloc rfl rfl rfl ?_; intro g1
  refine go_Gl ?_
  refine sl_pu (pu_build (v := .agg tz.toArray) rfl (fun W => by kernel_rfl)) rfl ?_
  refine go_Gl ?_
  exact se_ret_ct () trivial rfl rfl (by exact at_) rfl rfl (by rw [tc_len]; rfl) rfl rfl (by exact sub_)
set_option maxRecDepth 100000 in
theorem list_nil {K : List Fa} : Fn Try.prog 18 #[.pointer none] K (Ret (fun _ : Unit => True) (fun _ => .slice none 0 0) (fun _ => K)) := by
  refine fn_enter Try.func18 rfl _ Try.ntmps18 (by simp) [(0, .pointer none)] (args_of (by simp)) ?_
  refine go_Gl ?_
  exact se_ret1 () trivial rfl rfl (by exact sub_)
set_option maxRecDepth 100000 in
set_option maxHeartbeats 4000000 in
theorem close_no {K : List Fa} {g m ck : Nat} {t : Ta} {r : Rl} {fs : List BK} {s : Int} (hB : At (bB g t r m) K) (hM : At (bM m fs ck) K) (hw : 0 ≤ r.w) (h : 0 ≤ s ∧ s ≤ 18446744073709551615) (he : closeE r fs s ≠ 0) :
    Fn Try.prog 14 #[.pointer (some ⟨g, 0, none⟩), .int .u64 s] K (Ret (fun _ : Unit => True) (fun _ => .tuple #[.agg tz.toArray, .int .i64 (closeE r fs s)]) (fun _ => K)) := by
  refine fn_enter Try.func14 rfl _ Try.ntmps14 (by simp) [(0, .pointer (some ⟨g, 0, none⟩)), (1, .int .u64 s)] (args_of (by simp)) ?_
  by_cases h1 : 1099511627776 < s
  · rw [show closeE r fs s = 15 by unfold closeE; rw [if_pos (.inl h1)]]
    refine go_Gl ?_
    refine sl_alloc rfl rfl rfl ?_; intro g1
    refine go_Gl ?_
    refine sl_pu (pu_build (v := .agg tz.toArray) rfl (fun W => by kernel_rfl)) rfl ?_
    refine go_Gl ?_
    exact se_ret_ct () trivial rfl rfl (by exact at_) rfl rfl (by rw [tc_len]; rfl) rfl rfl (by exact sub_)
  by_cases h2 : stN r.w s = s
  case neg =>
    rw [show closeE r fs s = 15 by unfold closeE; rw [if_pos (.inr h2)]]
    refine go_Gl ?_
    refine sl_alloc rfl rfl rfl ?_; intro g1
    refine go_Gl ?_
    refine sl_call rfl rfl (by kernel_rfl) rfl (by exact sub_) (start_ok hw h) ?_; rintro _ -
    refine go_Gl ?_
    refine sl_pu (pu_build (v := .agg tz.toArray) rfl (fun W => by kernel_rfl)) rfl ?_
    refine go_Gl ?_
    exact se_ret_ct () trivial rfl rfl (by exact at_) rfl rfl (by rw [tc_len]; rfl) rfl rfl (by exact sub_)
  have h3 : closeE r fs s = match bfind fs s with
    | none => 19
    | some b => if b.m < r.mn then 17 else 0 := by
    unfold closeE
    rw [if_neg (fun h => h.elim h1 (fun h => h h2))]
  cases hf : bfind fs s with
  | none =>
    have hno := bno hf
    rw [show closeE r fs s = 19 by rw [h3, hf]]
    refine go_Gl ?_
    refine sl_alloc rfl rfl rfl ?_; intro g1
    refine go_Gl ?_
    refine sl_call rfl rfl (by kernel_rfl) rfl (by exact sub_) (start_ok hw h) ?_; rintro _ -
    rw [h2]
    refine go_Gl ?_
    refine sl_alloc rfl rfl rfl ?_; intro g2
    refine go_Gl ?_
    refine sl_pu (pu_build (v := .agg tz.toArray) rfl (fun W => by kernel_rfl)) rfl ?_
    refine go_Gl ?_
    exact se_ret_ct () trivial rfl rfl (by exact at_) rfl rfl (by rw [tc_len]; rfl) rfl rfl (by exact sub_)
  | some b =>
    obtain ⟨hb, hbs⟩ := bfind_some hf
    have hg := bget hb
    rw [hbs] at hg
    have h4 : b.m < r.mn := by
      refine Decidable.byContradiction fun hc => he ?_
      rw [h3, hf]
      exact if_neg hc
    rw [show closeE r fs s = 17 by rw [h3, hf]; exact if_pos h4]
    refine go_Gl ?_
    refine sl_alloc rfl rfl rfl ?_; intro g1
    refine go_Gl ?_
    refine sl_call rfl rfl (by kernel_rfl) rfl (by exact sub_) (start_ok hw h) ?_; rintro _ -
    rw [h2]
    refine go_Gl ?_
    refine sl_alloc rfl rfl rfl ?_; intro g2
    refine go_Gl ?_
    ((refine sq_region (by kernel_rfl) (by kernel_rfl) ?_; (repeat refine rq_Gl ?_); refine sq_end ?_))
    refine go_Gl ?_
    refine sl_pu (pu_build (v := .agg tz.toArray) rfl (fun W => by kernel_rfl)) rfl ?_
    refine go_Gl ?_
    exact se_ret_ct () trivial rfl rfl (by exact at_) rfl rfl (by rw [tc_len]; rfl) rfl rfl (by exact sub_)
theorem closeE_0 {r : Rl} {fs : List BK} {s : Int} (h : closeE r fs s = 0) : s ≤ 1099511627776 ∧ stN r.w s = s ∧ ∃ b, bfind fs s = some b ∧ r.mn ≤ b.m := by
  unfold closeE at h
  split at h
  · cases h
  · rename_i h1
    cases hf : bfind fs s with
    | none =>
      rw [hf] at h
      cases h
    | some b =>
      rw [hf] at h
      dsimp only at h
      split at h
      · cases h
      · exact ⟨by omega, Decidable.byContradiction fun hc => h1 (.inr hc), b, rfl, by omega⟩
set_option maxRecDepth 100000 in
set_option maxHeartbeats 4000000 in
theorem close_ok {K : List Fa} {g m ck : Nat} {t : Ta} {r : Rl} {X Y : List BK} {b : BK} {s : Int} (hw : 0 ≤ r.w) (h : 0 ≤ s) (he : closeE r (X ++ b :: Y) s = 0) (hf : bfind (X ++ b :: Y) s = some b) (hn : b.l.length ≤ 1000000) :
    Fn Try.prog 14 #[.pointer (some ⟨g, 0, none⟩), .int .u64 s] (bB g t r m :: bM m (X ++ b :: Y) ck :: bS (X ++ b :: Y) :: K) (Ret (fun _ : Option Addr × Nat => True) (fun q => .tuple #[.agg (tc q.1 b.l.length q.2 b.m b.k).toArray, .int .i64 0]) (fun q => eo q.1 b.l.length q.2 b.l :: bB g t r m :: bM m (X ++ b.shut :: Y) ck :: bS (X ++ b.shut :: Y) :: K)) := by
  refine fn_enter Try.func14 rfl _ Try.ntmps14 (by simp) [(0, .pointer (some ⟨g, 0, none⟩)), (1, .int .u64 s)] (args_of (by simp)) ?_
  obtain ⟨h1, h2, b', hf', h3⟩ := closeE_0 he
  rw [hf] at hf'
  injection hf' with hf'
  subst hf'
  obtain ⟨hb, hbs⟩ := bfind_some hf
  have hg := bget hb
  rw [hbs] at hg
  refine go_Gl ?_
  refine sl_alloc rfl rfl rfl ?_; intro g1
  refine go_Gl ?_
  refine sl_call rfl rfl (by kernel_rfl) rfl (by exact sub_) (start_ok hw (by omega)) ?_; rintro _ -
  rw [h2]
  refine go_Gl ?_
  refine sl_alloc rfl rfl rfl ?_; intro g2
  refine go_Gl ?_
  ((refine sq_region (by kernel_rfl) (by kernel_rfl) ?_; (repeat refine rq_Gl ?_); refine sq_end ?_))
  refine go_Gl ?_
  refine sd_drawn (fun W => AllP W [blk g2 60 (bkC s (tc b.A b.l.length b.c b.m b.k) true), bB g t r m]) (fun _ => true) (by kernel_rfl) 7 rfl ?_
  refine sd_yes2 0 rfl (by exact gd_) (by kernel_rfl) (by kernel_rfl) (by exact nop_) (PuI.all (by exact pv_Gl)) rfl (fun w hw => all_ hw) ?_
  refine sd_yes2 1 rfl (by exact gd_) (by kernel_rfl) (by kernel_rfl) (by exact nop_) (PuI.all (by exact pv_Gl)) rfl (fun w hw => all_ hw) ?_
  refine sd_yes2 2 rfl (by exact gd_) (by kernel_rfl) (by kernel_rfl) (by exact nop_) (PuI.all (by exact pv_Gl)) rfl (fun w hw => all_ hw) ?_
  refine sd_yes2 3 rfl (by exact gd_) (by kernel_rfl) (by kernel_rfl) (by exact nop_) (PuI.all (by exact pv_Gl)) rfl (fun w hw => all_ hw) ?_
  refine sd_yes2 4 rfl (by exact gd_) (by kernel_rfl) (by kernel_rfl) (by exact nop_) (PuI.all (by exact pv_Gl)) rfl (fun w hw => all_ hw) ?_
  refine sd_yes2 5 rfl (by exact gd_) (by kernel_rfl) (by kernel_rfl) (by exact nop_) (PuI.all (by exact pv_Gl)) rfl (fun w hw => all_ hw) ?_
  refine sd_one 6 (by kernel_rfl) (sa_sl 6 rfl ?_)
  refine sl_kput (M := BM) (f := b) (f' := b.shut) rfl (by rw [← hbs]; rfl) (by rw [← hbs]; rfl) rfl rfl (by exact pick_) rfl rfl rfl ?_
  refine sl_nil ?_
  refine se_sd (fun _ w hw => all_ hw) ?_
  refine sd_done (by kernel_rfl) ?_
  have hr : Vw (bS (X ++ b :: Y) :: K) (fun w => Reads w 2 b.A b.l.length (rows eC b.l)) := bs_get .here hb
  refine go_Gl ?_
  refine sl_call rfl rfl (by kernel_rfl) rfl (by exact sub_) (copied_ok (hr.mono (by exact sub_)) hn) ?_; rintro ⟨A2, c2⟩ -
  refine go_Gl ?_
  rw [show bS (X ++ b.shut :: Y) = bS (X ++ b :: Y) from ks_same (M := BM) rfl]
  exact se_ret_ct (A2, c2) trivial rfl rfl (by exact at_) rfl rfl (by rw [tc_len]; rfl) rfl rfl (by exact sub_)
end Go.Proofs.Ytdmeofobljjpfaa
