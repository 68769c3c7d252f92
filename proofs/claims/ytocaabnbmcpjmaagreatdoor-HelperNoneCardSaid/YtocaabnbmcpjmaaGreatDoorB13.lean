/- Several texts of one claim, one behind the other (Sj, Skn, Skc, Ska, Skg, Gg). -/
import Derived.Test.YtocaabnbmcpjmaaGreatDoorB12
import Derived.Test.YtocaabnbmcpjmaaGreatDoorB09
import Derived.Test.YtocaabnbmcpjmaaGreatDoorB05
set_option linter.unusedVariables false
set_option linter.unusedSimpArgs false
/- A journal over a disk of whatever size: Append, Sync, Cells; its states; Open after a cut; Crash. -/
namespace Go.Proofs.YtocaabnbmcpjmaaGreatDoor
open Go.RowKit Go.MapKept
attribute [local irreducible] Go.Calls Go.Exit.then Go.Exit.inBlock Go.bodyPost Go.Code.wp Go.wpList takeL recordL hashL recL allL
theorem nth_Sj {φ : Prop} (h : φ := by (first | rfl | assumption)) : φ := h
theorem mid_Sj {φ : Prop} (h : φ := by (first | exact Mid.all | exact Mid.all | exact Mid.head)) : φ := h
theorem sz_Sj {φ : Prop} (h : φ := by (first | rfl | (rfl; first | done | fail))) : φ := h
theorem one_Sj {φ : Prop} (h : φ := by (first | assumption | exact first | exact one_bytes _ | exact ff_one | (simp only [List.mem_cons, List.not_mem_nil, or_false, forall_eq_or_imp, forall_eq]; decide) | exact one_bytes _ | (intro v hv; (repeat (rcases List.mem_cons.1 hv with rfl | hv; rfl)); cases hv))) : φ := h
theorem set_Sj {φ : Prop} (h : φ := by (first | (fail) | ((repeat (first | exact SetAt.here | apply SetAt.there)); first | done | fail))) : φ := h
theorem cl_Sj {φ : Prop} (h : φ := by first | rfl | exact .t | exact .f | exact .t (by omega) | exact .f (by omega) | exact .u | exact .i (by (first | exact .t (by omega) | exact .f (by omega) | exact .u | exact .i (by omega) | exact .v (by omega) | exact .b (by omega) | exact .w | rfl | omega)) | exact .v (by omega) | exact .b (by omega) | exact .q (by omega) | exact .w | exact .b (by exact at_) rfl (by exact nth_Sj) | exact .w (by exact at_) rfl rfl (by exact sz_Sj) | exact .s (by exact at_) (by exact mid_Sj) rfl rfl (by exact sz_Sj) | exact .z rfl rfl ⟨by kernel_rfl⟩ | exact .b rfl rfl ⟨by kernel_rfl⟩ | exact .a rfl rfl ⟨by kernel_rfl⟩ | exact .o rfl | exact .s | exact .n | exact .p rfl | exact .q rfl | exact .c rfl | exact .d rfl | exact .n rfl rfl (by omega) | exact .a rfl rfl (by omega) | exact .p rfl rfl (by omega) (by omega) | exact .y rfl rfl (by omega) (by omega) | exact .o (by exact at_) (by omega) rfl (by exact nth_Sj) | exact .m (by exact at_) (by omega) (by exact mid_Sj) rfl rfl (by exact sz_Sj) | exact .mlen (by exact at_) rfl | exact .t (by exact at_) rfl rfl (by first | exact True.intro | rfl) (by assumption) | exact .f (by exact at_) rfl rfl (by first | exact True.intro | rfl) (by assumption) rfl | exact .t1 (by exact at_) rfl rfl (by first | exact True.intro | rfl) (by assumption) | exact .f1 (by exact at_) rfl rfl (by first | exact True.intro | rfl) (by assumption) rfl | exact .tk (by exact at_) rfl (by assumption) (by assumption) | exact .fk (by exact at_) rfl (by assumption) (by assumption) rfl | exact .tk1 (by exact at_) rfl (by assumption) (by assumption) | exact .fk1 (by exact at_) rfl (by assumption) (by assumption) rfl | exact .r rfl rfl (by omega) (by omega) (by exact nth_Sj) rfl | exact .s rfl (by omega) (by assumption) | exact at_ | assumption | exact .r rfl rfl | exact .h rfl rfl rfl (by omega) | exact .l rfl rfl rfl (by omega) (by omega) | exact .g rfl rfl rfl rfl (by omega) (by omega) | exact .h rfl rfl (toN_ (by omega)) (by omega) | exact .l rfl rfl (toN_ (by omega)) (by omega) (by omega) | exact .g rfl rfl (toN_ (by omega)) (toN_ (by omega)) (by omega) (by omega) | exact .o (by decide) | exact .f (by decide) | exact .n (by omega) (by first | decide | (show _ ≤ ((64 : Nat) : Int); omega)) | (constructor; (repeat (first | exact .t (by omega) | exact .f (by omega) | exact .u | exact .i (by omega) | exact .v (by omega) | exact .b (by omega) | exact .w | rfl | omega)); first | done | fail) | omega | (show _ ≤ ((64 : Nat) : Int); omega)) : φ := h
theorem pv_Sj {φ : Prop} (h : φ := by constructor; (repeat exact cl_Sj); first | done | fail) : φ := h
theorem su_Sj {φ ψ : Prop} (k : ψ) (h : Hide ψ → φ := by (intro k; (first | refine sl_pu (PuI.sep (by exact pv_Sj)) rfl ?_ | refine sl_yes rfl rfl ?_ | refine sl_no rfl rfl rfl ?_ | refine sl_off rfl rfl rfl ?_ | (fail)); exact k.out)) : φ := h ⟨k⟩
theorem sto_Sj {φ ψ : Prop} (k : ψ) (h : Hide ψ → φ := by (intro k; (first | refine sl_store rfl (by exact pick_) rfl rfl (by kernel_rfl) (by exact set_Sj) ?_ | refine sl_store_whole rfl (by exact pick_) rfl (by exact sz_Sj) (by exact sz_Sj) (by exact one_Sj) ?_); exact k.out)) : φ := h ⟨k⟩
theorem go_Sj {φ ψ : Prop} (k : ψ) (h : Hide ψ → φ := by (intro k; (repeat (first | refine su_Sj ?_ | refine so_ ?_ | refine sto_Sj ?_)); exact k.out)) : φ := h ⟨k⟩
set_option maxRecDepth 100000 in
set_option maxHeartbeats 2000000 in
theorem app_Jnew {K : List Fa} {gj g m : Nat} {lim : Int} {A : Option Addr} {n c : Nat} {bs : List Int} (h : Rd K A n c bs) (hl : bs.length ≤ 5000) (hlim : ((manyL bs.length * 64 : Nat) : Int) ≤ lim) (hlm : lim ≤ 1048576) : Fn Tryz.prog 58 #[.pointer (some ⟨gj, 0, none⟩), .slice A n c] (jC gj g sj 0 :: dB g m lim :: dM m [] 0 :: dS [] :: K) (Ret (fun _ : Option Addr × Nat => True) (fun _ => .int .i64 0) (fun q => jC gj g sj (manyL bs.length) :: dB g m lim :: dM m [⟨sj, q.1, q.2, recL 0 bs, 0, 0⟩] 1 :: dS [⟨sj, q.1, q.2, recL 0 bs, 0, 0⟩] :: K)) := by
  refine fn_enter Tryz.func58 rfl _ Tryz.ntmps58 (by simp) [(0, .pointer (some ⟨gj, 0, none⟩)), (1, .slice A n c)] (args_of (by simp)) ?_
  have hly := Lay_ok (K := jC gj g sj 0 :: dB g m lim :: dM m [] 0 :: dS [] :: K) (number := ((0 : Nat) : Int)) (h.mono (by exact sub_)) (by decide)
  rw [LyA_ok (by decide) (by omega)] at hly
  have hlen := recL_len (k := 0) (bs := bs)
  have hm1 := many_pos bs.length
  have hm2 : manyL bs.length ≤ 105 := by unfold manyL; omega
  refine go_Sj ?_
  refine sl_call rfl rfl (by kernel_rfl) rfl Sub.refl hly ?_
  rintro ⟨A1, c1⟩ -
  dsimp only
  refine go_Sj ?_
  refine sd_drawn (fun W => AllP W [jC gj g sj 0]) (fun _ => true) (by kernel_rfl) 11 rfl ?_
  refine sd_yes2 0 rfl (by exact gd_) (by kernel_rfl) (by kernel_rfl) (by exact nop_) (PuI.all (by exact pv_Sj)) rfl (fun w hw => all_ hw) ?_
  refine sd_yes2 1 rfl (by exact gd_) (by kernel_rfl) (by kernel_rfl) (by exact nop_) (PuI.all (by exact pv_Sj)) rfl (fun w hw => all_ hw) ?_
  refine sd_yes2 2 rfl (by exact gd_) (by kernel_rfl) (by kernel_rfl) (by exact nop_) (PuI.all (by exact pv_Sj)) rfl (fun w hw => all_ hw) ?_
  refine sd_yes2 3 rfl (by exact gd_) (by kernel_rfl) (by kernel_rfl) (by exact nop_) (PuI.all (by exact pv_Sj)) rfl (fun w hw => all_ hw) ?_
  refine sd_yes2 4 rfl (by exact gd_) (by kernel_rfl) (by kernel_rfl) (by exact nop_) (PuI.all (by exact pv_Sj)) rfl (fun w hw => all_ hw) ?_
  refine sd_yes2 5 rfl (by exact gd_) (by kernel_rfl) (by kernel_rfl) (by exact nop_) (PuI.all (by exact pv_Sj)) rfl (fun w hw => all_ hw) ?_
  refine sd_yes2 6 rfl (by exact gd_) (by kernel_rfl) (by kernel_rfl) (by exact nop_) (PuI.all (by exact pv_Sj)) rfl (fun w hw => all_ hw) ?_
  refine sd_yes2 7 rfl (by exact gd_) (by kernel_rfl) (by kernel_rfl) (by exact nop_) (PuI.all (by exact pv_Sj)) rfl (fun w hw => all_ hw) ?_
  refine sd_yes2 8 rfl (by exact gd_) (by kernel_rfl) (by kernel_rfl) (by exact nop_) (PuI.all (by exact pv_Sj)) rfl (fun w hw => all_ hw) ?_
  refine sd_one 9 (by kernel_rfl) (sa_sl 9 rfl ?_)
  refine sl_call rfl rfl (by kernel_rfl) rfl (by exact sub_) (appD_new (K := u8o A1 c1 (recL 0 bs) :: jC gj g sj 0 :: K) (s := sj) (fs := []) (m := m) (ck := 0) (lim := lim) (by decide) (by decide) nohas (by decide) (by omega) (by simp [usedN]; omega) (Vw.of_own (e := 5) (c := c1) (by exact at_))) ?_
  rintro ⟨A2, c2⟩ -
  dsimp only [List.nil_append]
  refine sl_nil ?_
  refine se_sd (fun _ w hw => all_ hw) ?_
  refine sd_yes2 10 rfl (by exact gd_) (by kernel_rfl) (by kernel_rfl) (by exact nop_) (PuI.all (by exact pv_Sj)) rfl (fun w hw => all_ hw) ?_
  refine sd_done (by kernel_rfl) ?_
  refine go_Sj ?_
  rw [show ((0 : Nat) : Int) + ((recL 0 bs).length : Int) / 64 = ((manyL bs.length : Nat) : Int) by omega]
  exact se_ret1 (A2, c2) trivial rfl rfl (by exact sub_)
set_option maxRecDepth 100000 in
set_option maxHeartbeats 2000000 in
theorem app_Jyes {K : List Fa} {gj g m ck k : Nat} {lim : Int} {A : Option Addr} {n c : Nat} {bs : List Int} {f : DF} (h : Rd K A n c bs) (hl : bs.length ≤ 5000) (hk : k < 1048576) (hs : f.s.size ≤ 9223372036854775807) (hname : nameB f.s = true) (hf : ((f.l.length + manyL bs.length * 64 : Nat) : Int) ≤ lim) (hn : f.l.length ≤ 1048576) (hlm : lim ≤ 1048576) : Fn Tryz.prog 58 #[.pointer (some ⟨gj, 0, none⟩), .slice A n c] (jC gj g f.s k :: dB g m lim :: dM m [f] ck :: dS [f] :: K) (Ret (fun q : DF => q.s = f.s ∧ q.l = f.l ++ recL k bs ∧ q.sy = f.sy) (fun _ => .int .i64 0) (fun q => jC gj g f.s (k + manyL bs.length) :: dB g m lim :: dM m [q] ck :: dS [q] :: K)) := by
  refine fn_enter Tryz.func58 rfl _ Tryz.ntmps58 (by simp) [(0, .pointer (some ⟨gj, 0, none⟩)), (1, .slice A n c)] (args_of (by simp)) ?_
  have hly := Lay_ok (K := jC gj g f.s k :: dB g m lim :: dM m [f] ck :: dS [f] :: K) (number := (k : Int)) (h.mono (by exact sub_)) (by omega)
  rw [LyA_ok hk (by omega)] at hly
  have hlen := recL_len (k := k) (bs := bs)
  have hm1 := many_pos bs.length
  have hm2 : manyL bs.length ≤ 105 := by unfold manyL; omega
  refine go_Sj ?_
  refine sl_call rfl rfl (by kernel_rfl) rfl Sub.refl hly ?_
  rintro ⟨A1, c1⟩ -
  dsimp only
  refine go_Sj ?_
  refine sd_drawn (fun W => AllP W [jC gj g f.s k]) (fun _ => true) (by kernel_rfl) 11 rfl ?_
  refine sd_yes2 0 rfl (by exact gd_) (by kernel_rfl) (by kernel_rfl) (by exact nop_) (PuI.all (by exact pv_Sj)) rfl (fun w hw => all_ hw) ?_
  refine sd_yes2 1 rfl (by exact gd_) (by kernel_rfl) (by kernel_rfl) (by exact nop_) (PuI.all (by exact pv_Sj)) rfl (fun w hw => all_ hw) ?_
  refine sd_yes2 2 rfl (by exact gd_) (by kernel_rfl) (by kernel_rfl) (by exact nop_) (PuI.all (by exact pv_Sj)) rfl (fun w hw => all_ hw) ?_
  refine sd_yes2 3 rfl (by exact gd_) (by kernel_rfl) (by kernel_rfl) (by exact nop_) (PuI.all (by exact pv_Sj)) rfl (fun w hw => all_ hw) ?_
  refine sd_yes2 4 rfl (by exact gd_) (by kernel_rfl) (by kernel_rfl) (by exact nop_) (PuI.all (by exact pv_Sj)) rfl (fun w hw => all_ hw) ?_
  refine sd_yes2 5 rfl (by exact gd_) (by kernel_rfl) (by kernel_rfl) (by exact nop_) (PuI.all (by exact pv_Sj)) rfl (fun w hw => all_ hw) ?_
  refine sd_yes2 6 rfl (by exact gd_) (by kernel_rfl) (by kernel_rfl) (by exact nop_) (PuI.all (by exact pv_Sj)) rfl (fun w hw => all_ hw) ?_
  refine sd_yes2 7 rfl (by exact gd_) (by kernel_rfl) (by kernel_rfl) (by exact nop_) (PuI.all (by exact pv_Sj)) rfl (fun w hw => all_ hw) ?_
  refine sd_yes2 8 rfl (by exact gd_) (by kernel_rfl) (by kernel_rfl) (by exact nop_) (PuI.all (by exact pv_Sj)) rfl (fun w hw => all_ hw) ?_
  refine sd_one 9 (by kernel_rfl) (sa_sl 9 rfl ?_)
  refine sl_call rfl rfl (by kernel_rfl) rfl (by exact sub_) (appD_yes (K := u8o A1 c1 (recL k bs) :: jC gj g f.s k :: K) (X := []) (Y := []) (f := f) (m := m) (ck := ck) (lim := lim) hs hname (by omega) (by simp [usedN]; omega) (Vw.of_own (e := 5) (c := c1) (by exact at_))) ?_
  rintro ⟨A2, c2⟩ -
  dsimp only [List.nil_append]
  refine sl_nil ?_
  refine se_sd (fun _ w hw => all_ hw) ?_
  refine sd_yes2 10 rfl (by exact gd_) (by kernel_rfl) (by kernel_rfl) (by exact nop_) (PuI.all (by exact pv_Sj)) rfl (fun w hw => all_ hw) ?_
  refine sd_done (by kernel_rfl) ?_
  refine go_Sj ?_
  rw [show (k : Int) + ((recL k bs).length : Int) / 64 = ((k + manyL bs.length : Nat) : Int) by omega]
  exact se_ret1 ⟨f.s, A2, c2, f.l ++ recL k bs, f.sy, f.bn⟩ ⟨rfl, rfl, rfl⟩ rfl rfl (by exact sub_)
set_option maxRecDepth 100000 in
set_option maxHeartbeats 2000000 in
theorem sync_Jf {K : List Fa} {gj g m ck k : Nat} {lim : Int} {f : DF} (hsy : f.sy ≤ f.l.length) (hn : f.l.length ≤ 1048576) : Fn Tryz.prog 60 #[.pointer (some ⟨gj, 0, none⟩)] (jC gj g f.s k :: dB g m lim :: dM m [f] ck :: dS [f] :: K) (Ret (fun q : DF => q.s = f.s ∧ q.l = f.l ∧ q.sy = f.l.length) (fun _ => .int .i64 0) (fun q => jC gj g f.s k :: dB g m lim :: dM m [q] ck :: dS [q] :: K)) := by
  refine fn_enter Tryz.func60 rfl _ Tryz.ntmps60 (by simp) [(0, .pointer (some ⟨gj, 0, none⟩))] (args_of (by simp)) ?_
  by_cases hz : f.l.length - f.sy = 0
  · refine go_Sj ?_
    refine sd_drawn (fun W => AllP W [jC gj g f.s k]) (fun _ => true) (by kernel_rfl) 10 rfl ?_
    refine sd_yes2 0 rfl (by exact gd_) (by kernel_rfl) (by kernel_rfl) (by exact nop_) (PuI.all (by exact pv_Sj)) rfl (fun w hw => all_ hw) ?_
    refine sd_yes2 1 rfl (by exact gd_) (by kernel_rfl) (by kernel_rfl) (by exact nop_) (PuI.all (by exact pv_Sj)) rfl (fun w hw => all_ hw) ?_
    refine sd_yes2 2 rfl (by exact gd_) (by kernel_rfl) (by kernel_rfl) (by exact nop_) (PuI.all (by exact pv_Sj)) rfl (fun w hw => all_ hw) ?_
    refine sd_yes2 3 rfl (by exact gd_) (by kernel_rfl) (by kernel_rfl) (by exact nop_) (PuI.all (by exact pv_Sj)) rfl (fun w hw => all_ hw) ?_
    refine sd_yes2 4 rfl (by exact gd_) (by kernel_rfl) (by kernel_rfl) (by exact nop_) (PuI.all (by exact pv_Sj)) rfl (fun w hw => all_ hw) ?_
    refine sd_yes2 5 rfl (by exact gd_) (by kernel_rfl) (by kernel_rfl) (by exact nop_) (PuI.all (by exact pv_Sj)) rfl (fun w hw => all_ hw) ?_
    refine sd_yes2 6 rfl (by exact gd_) (by kernel_rfl) (by kernel_rfl) (by exact nop_) (PuI.all (by exact pv_Sj)) rfl (fun w hw => all_ hw) ?_
    refine sd_yes2 7 rfl (by exact gd_) (by kernel_rfl) (by kernel_rfl) (by exact nop_) (PuI.all (by exact pv_Sj)) rfl (fun w hw => all_ hw) ?_
    refine sd_one 8 (by kernel_rfl) (sa_sl 8 rfl ?_)
    refine sl_call rfl rfl (by kernel_rfl) rfl Sub.refl (looseD_ok (g := g) (m := m) (ck := ck) (lim := lim) (fs := [f]) (f := f) (by exact at_) (by exact at_) (List.mem_singleton.2 rfl) hsy hn) ?_
    rintro _ -
    rw [hz]
    refine sl_nil ?_
    refine se_sd (fun _ w hw => all_ hw) ?_
    refine sd_yes2 9 rfl (by exact gd_) (by kernel_rfl) (by kernel_rfl) (by exact nop_) (PuI.all (by exact pv_Sj)) rfl (fun w hw => all_ hw) ?_
    refine sd_done (by kernel_rfl) ?_
    refine go_Sj ?_
    exact se_ret1 f ⟨rfl, rfl, by omega⟩ rfl rfl (by exact sub_)
  · refine go_Sj ?_
    refine sd_drawn (fun W => AllP W [jC gj g f.s k]) (fun _ => true) (by kernel_rfl) 10 rfl ?_
    refine sd_yes2 0 rfl (by exact gd_) (by kernel_rfl) (by kernel_rfl) (by exact nop_) (PuI.all (by exact pv_Sj)) rfl (fun w hw => all_ hw) ?_
    refine sd_yes2 1 rfl (by exact gd_) (by kernel_rfl) (by kernel_rfl) (by exact nop_) (PuI.all (by exact pv_Sj)) rfl (fun w hw => all_ hw) ?_
    refine sd_yes2 2 rfl (by exact gd_) (by kernel_rfl) (by kernel_rfl) (by exact nop_) (PuI.all (by exact pv_Sj)) rfl (fun w hw => all_ hw) ?_
    refine sd_yes2 3 rfl (by exact gd_) (by kernel_rfl) (by kernel_rfl) (by exact nop_) (PuI.all (by exact pv_Sj)) rfl (fun w hw => all_ hw) ?_
    refine sd_yes2 4 rfl (by exact gd_) (by kernel_rfl) (by kernel_rfl) (by exact nop_) (PuI.all (by exact pv_Sj)) rfl (fun w hw => all_ hw) ?_
    refine sd_yes2 5 rfl (by exact gd_) (by kernel_rfl) (by kernel_rfl) (by exact nop_) (PuI.all (by exact pv_Sj)) rfl (fun w hw => all_ hw) ?_
    refine sd_yes2 6 rfl (by exact gd_) (by kernel_rfl) (by kernel_rfl) (by exact nop_) (PuI.all (by exact pv_Sj)) rfl (fun w hw => all_ hw) ?_
    refine sd_yes2 7 rfl (by exact gd_) (by kernel_rfl) (by kernel_rfl) (by exact nop_) (PuI.all (by exact pv_Sj)) rfl (fun w hw => all_ hw) ?_
    refine sd_one 8 (by kernel_rfl) (sa_sl 8 rfl ?_)
    refine sl_call rfl rfl (by kernel_rfl) rfl Sub.refl (looseD_ok (g := g) (m := m) (ck := ck) (lim := lim) (fs := [f]) (f := f) (by exact at_) (by exact at_) (List.mem_singleton.2 rfl) hsy hn) ?_
    rintro _ -
    refine sl_nil ?_
    refine se_sd (fun _ w hw => all_ hw) ?_
    refine sd_yes2 9 rfl (by exact gd_) (by kernel_rfl) (by kernel_rfl) (by exact nop_) (PuI.all (by exact pv_Sj)) rfl (fun w hw => all_ hw) ?_
    refine sd_done (by kernel_rfl) ?_
    refine go_Sj ?_
    refine sd_drawn (fun W => AllP W [jC gj g f.s k]) (fun _ => true) (by kernel_rfl) 10 rfl ?_
    refine sd_yes2 0 rfl (by exact gd_) (by kernel_rfl) (by kernel_rfl) (by exact nop_) (PuI.all (by exact pv_Sj)) rfl (fun w hw => all_ hw) ?_
    refine sd_yes2 1 rfl (by exact gd_) (by kernel_rfl) (by kernel_rfl) (by exact nop_) (PuI.all (by exact pv_Sj)) rfl (fun w hw => all_ hw) ?_
    refine sd_yes2 2 rfl (by exact gd_) (by kernel_rfl) (by kernel_rfl) (by exact nop_) (PuI.all (by exact pv_Sj)) rfl (fun w hw => all_ hw) ?_
    refine sd_yes2 3 rfl (by exact gd_) (by kernel_rfl) (by kernel_rfl) (by exact nop_) (PuI.all (by exact pv_Sj)) rfl (fun w hw => all_ hw) ?_
    refine sd_yes2 4 rfl (by exact gd_) (by kernel_rfl) (by kernel_rfl) (by exact nop_) (PuI.all (by exact pv_Sj)) rfl (fun w hw => all_ hw) ?_
    refine sd_yes2 5 rfl (by exact gd_) (by kernel_rfl) (by kernel_rfl) (by exact nop_) (PuI.all (by exact pv_Sj)) rfl (fun w hw => all_ hw) ?_
    refine sd_yes2 6 rfl (by exact gd_) (by kernel_rfl) (by kernel_rfl) (by exact nop_) (PuI.all (by exact pv_Sj)) rfl (fun w hw => all_ hw) ?_
    refine sd_yes2 7 rfl (by exact gd_) (by kernel_rfl) (by kernel_rfl) (by exact nop_) (PuI.all (by exact pv_Sj)) rfl (fun w hw => all_ hw) ?_
    refine sd_one 8 (by kernel_rfl) (sa_sl 8 rfl ?_)
    refine sl_call rfl rfl (by kernel_rfl) rfl (by exact sub_) (syncD_ok (K := dS [f] :: jC gj g f.s k :: K) (X := []) (Y := []) (f := f) (g := g) (m := m) (ck := ck) (lim := lim)) ?_
    rintro _ -
    dsimp only [List.nil_append]
    refine sl_nil ?_
    refine se_sd (fun _ w hw => all_ hw) ?_
    refine sd_yes2 9 rfl (by exact gd_) (by kernel_rfl) (by kernel_rfl) (by exact nop_) (PuI.all (by exact pv_Sj)) rfl (fun w hw => all_ hw) ?_
    refine sd_done (by kernel_rfl) ?_
    refine go_Sj ?_
    refine se_ret1 { f with sy := f.l.length } ⟨rfl, rfl, rfl⟩ rfl rfl ?_
    rw [show dS [{ f with sy := f.l.length }] = dS [f] from ds_sy (X := []) (Y := [])]
    exact sub_
/-- The file of a journal with these records, synced so far at least. -/
def JFl (ls : List (List Int)) (σ : Nat) (f : DF) : Prop := f.s = sj ∧ f.l = allL ls ∧ f.sy ≤ f.l.length ∧ σ ≤ f.sy
def JSt (ls : List (List Int)) (fs : List DF) (ck σ : Nat) : Prop := (ls = [] ∧ fs = [] ∧ ck = 0 ∧ σ = 0) ∨ ∃ f, fs = [f] ∧ JFl ls σ f
theorem many_le {n : Nat} (h : n ≤ 5000) : manyL n ≤ 105 := by
  unfold manyL
  omega
attribute [local semireducible] allL in
theorem allL_one (bs : List Int) : recL 0 bs = allL ([] ++ [bs]) := by
  rw [allL_next]
  rfl
theorem app_J {K : List Fa} {gj g m ck σ : Nat} {lim : Int} {A : Option Addr} {n c : Nat} {bs : List Int} {ls : List (List Int)} {fs : List DF} (hS : JSt ls fs ck σ) (h : Rd K A n c bs) (hl : bs.length ≤ 5000) (hcc : cellsA ls ≤ 16000) (hlim : (((cellsA ls + manyL bs.length) * 64 : Nat) : Int) ≤ lim) (hlm : lim ≤ 1048576) :
    Fn Tryz.prog 58 #[.pointer (some ⟨gj, 0, none⟩), .slice A n c] (jC gj g sj (cellsA ls) :: dB g m lim :: dM m fs ck :: dS fs :: K) (Ret (fun q : DF × Nat => JFl (ls ++ [bs]) σ q.1) (fun _ => .int .i64 0) (fun q => jC gj g sj (cellsA (ls ++ [bs])) :: dB g m lim :: dM m [q.1] q.2 :: dS [q.1] :: K)) := by
  rcases hS with ⟨rfl, rfl, rfl, rfl⟩ | ⟨f, rfl, h1, h2, h3, h4⟩
  · have e : cellsA ([] ++ [bs]) = manyL bs.length := by
      rw [cellsA_snoc]
      show 0 + _ = _
      omega
    have e0 : cellsA ([] : List (List Int)) = 0 := rfl
    have hlim0 : ((manyL bs.length * 64 : Nat) : Int) ≤ lim := by
      rw [e0, Nat.zero_add] at hlim
      exact hlim
    refine (app_Jnew (K := K) (gj := gj) (g := g) (m := m) (lim := lim) h hl hlim0 hlm).say fun q w _ hw => ⟨(⟨sj, q.1, q.2, recL 0 bs, 0, 0⟩, 1), ⟨rfl, allL_one bs, Nat.zero_le _, Nat.zero_le _⟩, rfl, ?_⟩
    rw [e]
    exact hw
  · have hm := many_le hl
    have h0 := app_Jyes (K := K) (gj := gj) (g := g) (m := m) (ck := ck) (k := cellsA ls) (f := f) h hl (by omega) (by rw [h1]; decide) (by rw [h1]; decide) (by rw [h2, allL_len]; omega) (by rw [h2, allL_len]; omega) hlm
    rw [h1] at h0
    refine h0.say fun q w hq hw => ?_
    obtain ⟨q1, q2, q3⟩ := hq
    refine ⟨(q, ck), ⟨q1, by rw [q2, h2, allL_next], by rw [q2, q3, List.length_append]; omega, by rw [q3]; exact h4⟩, rfl, ?_⟩
    rw [cellsA_snoc]
    exact hw
theorem sync_Js {K : List Fa} {gj g m ck k σ : Nat} {lim : Int} {ls : List (List Int)} {f : DF} (hF : JFl ls σ f) (hn : f.l.length ≤ 1048576) :
    Fn Tryz.prog 60 #[.pointer (some ⟨gj, 0, none⟩)] (jC gj g sj k :: dB g m lim :: dM m [f] ck :: dS [f] :: K) (Ret (fun q : DF => JFl ls f.l.length q) (fun _ => .int .i64 0) (fun q => jC gj g sj k :: dB g m lim :: dM m [q] ck :: dS [q] :: K)) := by
  obtain ⟨h1, h2, h3, h4⟩ := hF
  have h0 := sync_Jf (lim := lim) (K := K) (gj := gj) (g := g) (m := m) (ck := ck) (k := k) (f := f) h3 hn
  rw [h1] at h0
  refine h0.say fun q w hq hw => ?_
  obtain ⟨q1, q2, q3⟩ := hq
  exact ⟨q, ⟨q1, by rw [q2, h2], by rw [q2, q3]; omega, by rw [q3]; omega⟩, rfl, hw⟩
end Go.Proofs.YtocaabnbmcpjmaaGreatDoor
/- Package store: note, with the closures that fill a record. -/
namespace Go.Proofs.YtocaabnbmcpjmaaGreatDoor
open Go.RowKit Go.MapKept
attribute [local irreducible] Go.Calls Go.Exit.then Go.Exit.inBlock Go.bodyPost Go.Code.wp Go.wpList takeL recordL hashL recL allL
theorem nth_Skn {φ : Prop} (h : φ := by (first | rfl | first | rfl | exact rpC_n16 | exact rpC_n17 | exact rpC_n18)) : φ := h
theorem mid_Skn {φ : Prop} (h : φ := by (first | first | exact rpC_id | exact Mid.all | exact Mid.all | exact Mid.head)) : φ := h
theorem sz_Skn {φ : Prop} (h : φ := by (first | rfl | ((try simp only [rpC_len, bytes_length, Id.len]); (first | done | rfl); first | done | fail))) : φ := h
theorem one_Skn {φ : Prop} (h : φ := by (first | assumption | exact exact one_bytes _ | (simp only [List.mem_cons, List.not_mem_nil, or_false, forall_eq_or_imp, forall_eq]; decide) | exact one_bytes _ | (intro v hv; (repeat (rcases List.mem_cons.1 hv with rfl | hv; rfl)); cases hv))) : φ := h
theorem set_Skn {φ : Prop} (h : φ := by (first | (fail) | ((repeat (first | exact SetAt.here | apply SetAt.there)); first | done | fail))) : φ := h
theorem cl_Skn {φ : Prop} (h : φ := by first | rfl | exact .t | exact .f | exact .t (by omega) | exact .f (by omega) | exact .u | exact .i (by (first | exact .t (by omega) | exact .f (by omega) | exact .u | exact .i (by omega) | exact .v (by omega) | exact .b (by omega) | exact .w | rfl | omega)) | exact .v (by omega) | exact .b (by omega) | exact .q (by omega) | exact .w | exact .b (by exact at_) rfl (by exact nth_Skn) | exact .w (by exact at_) rfl rfl (by exact sz_Skn) | exact .s (by exact at_) (by exact mid_Skn) rfl rfl (by exact sz_Skn) | exact .z rfl rfl ⟨by kernel_rfl⟩ | exact .b rfl rfl ⟨by kernel_rfl⟩ | exact .a rfl rfl ⟨by kernel_rfl⟩ | exact .o rfl | exact .s | exact .n | exact .p rfl | exact .q rfl | exact .c rfl | exact .d rfl | exact .n rfl rfl (by omega) | exact .a rfl rfl (by omega) | exact .p rfl rfl (by omega) (by omega) | exact .y rfl rfl (by omega) (by omega) | exact .o (by exact at_) (by omega) rfl (by exact nth_Skn) | exact .m (by exact at_) (by omega) (by exact mid_Skn) rfl rfl (by exact sz_Skn) | exact .mlen (by exact at_) rfl | exact .t (by exact at_) rfl rfl (by first | exact True.intro | rfl) (by assumption) | exact .f (by exact at_) rfl rfl (by first | exact True.intro | rfl) (by assumption) rfl | exact .t1 (by exact at_) rfl rfl (by first | exact True.intro | rfl) (by assumption) | exact .f1 (by exact at_) rfl rfl (by first | exact True.intro | rfl) (by assumption) rfl | exact .tk (by exact at_) rfl (by assumption) (by assumption) | exact .fk (by exact at_) rfl (by assumption) (by assumption) rfl | exact .tk1 (by exact at_) rfl (by assumption) (by assumption) | exact .fk1 (by exact at_) rfl (by assumption) (by assumption) rfl | exact .r rfl rfl (by omega) (by omega) (by exact nth_Skn) rfl | exact .s rfl (by omega) (by assumption) | exact at_ | assumption | exact .r rfl rfl | exact .h rfl rfl rfl (by omega) | exact .l rfl rfl rfl (by omega) (by omega) | exact .g rfl rfl rfl rfl (by omega) (by omega) | exact .h rfl rfl (toN_ (by omega)) (by omega) | exact .l rfl rfl (toN_ (by omega)) (by omega) (by omega) | exact .g rfl rfl (toN_ (by omega)) (toN_ (by omega)) (by omega) (by omega) | exact .o (by decide) | exact .f (by decide) | exact .n (by omega) (by first | decide | (show _ ≤ ((64 : Nat) : Int); omega)) | (constructor; (repeat (first | exact .t (by omega) | exact .f (by omega) | exact .u | exact .i (by omega) | exact .v (by omega) | exact .b (by omega) | exact .w | rfl | omega)); first | done | fail) | omega | (show _ ≤ ((64 : Nat) : Int); omega)) : φ := h
theorem pv_Skn {φ : Prop} (h : φ := by constructor; (repeat exact cl_Skn); first | done | fail) : φ := h
theorem su_Skn {φ ψ : Prop} (k : ψ) (h : Hide ψ → φ := by (intro k; (first | refine sl_pu (PuI.sep (by exact pv_Skn)) rfl ?_ | refine sl_yes rfl rfl ?_ | refine sl_no rfl rfl rfl ?_ | refine sl_off rfl rfl rfl ?_ | (fail)); exact k.out)) : φ := h ⟨k⟩
theorem sto_Skn {φ ψ : Prop} (k : ψ) (h : Hide ψ → φ := by (intro k; (first | refine sl_store rfl (by exact pick_) rfl rfl (by kernel_rfl) (by exact set_Skn) ?_ | refine sl_store_whole rfl (by exact pick_) rfl (by exact sz_Skn) (by exact sz_Skn) (by exact one_Skn) ?_); exact k.out)) : φ := h ⟨k⟩
theorem go_Skn {φ ψ : Prop} (k : ψ) (h : Hide ψ → φ := by (intro k; (repeat (first | refine su_Skn ?_ | refine so_ ?_ | refine sto_Skn ?_)); exact k.out)) : φ := h ⟨k⟩
set_option maxRecDepth 100000 in
set_option maxHeartbeats 4000000 in
theorem note_ok {K : List Fa} {g gj gi gb mw ms gd md σ ckd : Nat} {t : Ta} {life lim kind : Int} {ls : List (List Int)} {fs : List DF} {f : FuncId} {caps : List Value} {bs : List Int}
    (hf : callable Tryz.prog f = true) (hS : JSt ls fs ckd σ) (hb : IsBytes (kind :: bs)) (hl : (kind :: bs).length ≤ 5000) (hcc : cellsA ls ≤ 16000) (hlim : (((cellsA ls + manyL (kind :: bs).length) * 64 : Nat) : Int) ≤ lim) (hlm : lim ≤ 1048576)
    (hfill : ∀ (b : Nat) (A : Option Addr) (c : Nat), Fn Tryz.prog f ([Value.pointer (some ⟨b, 0, none⟩)] ++ caps).toArray (wrb b A [kind].length c :: u8o A c [kind] :: sB g t gj gi gb mw ms life :: jC gj gd sj (cellsA ls) :: dB gd md lim :: dM md fs ckd :: dS fs :: K)
      (Ret (fun _ : Option Addr × Nat => True) (fun _ => .tuple #[]) (fun p => wrb b p.1 (kind :: bs).length p.2 :: u8o p.1 p.2 (kind :: bs) :: sB g t gj gi gb mw ms life :: jC gj gd sj (cellsA ls) :: dB gd md lim :: dM md fs ckd :: dS fs :: K))) :
    Fn Tryz.prog 26 #[.pointer (some ⟨g, 0, none⟩), .int .u8 kind, .func (.func f) #[] caps.toArray] (sB g t gj gi gb mw ms life :: jC gj gd sj (cellsA ls) :: dB gd md lim :: dM md fs ckd :: dS fs :: K)
      (Ret (fun q : DF × Nat => JFl (ls ++ [kind :: bs]) σ q.1) (fun _ => .int .i64 0) (fun q => sB g t gj gi gb mw ms life :: jC gj gd sj (cellsA (ls ++ [kind :: bs])) :: dB gd md lim :: dM md [q.1] q.2 :: dS [q.1] :: K)) := by
  refine fn_enter Tryz.func26 rfl _ Tryz.ntmps26 (by simp) [(0, .pointer (some ⟨g, 0, none⟩)), (1, .int .u8 kind), (2, .func (.func f) #[] caps.toArray)] (args_of (by simp)) ?_
  refine go_Skn ?_
  refine sl_alloc rfl rfl rfl ?_; intro b
  refine go_Skn ?_
  refine sl_build (size := 1) (e := 5) (cells := [.int .u8 kind]) rfl (fun W => by kernel_rfl) rfl (by decide) rfl ?_
  intro g1
  refine go_Skn ?_
  refine sl_call rfl rfl (by kernel_rfl) rfl (by exact Sub.cons (by exact pick_) (Sub.own_nil Sub.refl)) (wRaw (bs := []) (xs := [kind]) (b := b) (A := none) (c := 0) (Vw.of_own (e := 5) (A := some ⟨g1, 0, none⟩) (c := 1) (by exact at_)) (by decide)) ?_
  rintro ⟨A1, c1⟩ -
  dsimp only [List.nil_append]
  refine go_Skn ?_
  refine sl_call rfl rfl hf rfl (by exact sub_) (hfill b A1 c1) ?_
  rintro ⟨A2, c2⟩ -
  dsimp only
  refine go_Skn ?_
  refine sd_drawn (fun W => AllP W [sB g t gj gi gb mw ms life]) (fun _ => true) (by kernel_rfl) 7 rfl ?_
  refine sd_yes2 0 rfl (by exact gd_) (by kernel_rfl) (by kernel_rfl) (by exact nop_) (PuI.all (by exact pv_Skn)) rfl (fun w hw => all_ hw) ?_
  refine sd_yes2 1 rfl (by exact gd_) (by kernel_rfl) (by kernel_rfl) (by exact nop_) (PuI.all (by exact pv_Skn)) rfl (fun w hw => all_ hw) ?_
  refine sd_yes2 2 rfl (by exact gd_) (by kernel_rfl) (by kernel_rfl) (by exact nop_) (PuI.all (by exact pv_Skn)) rfl (fun w hw => all_ hw) ?_
  refine sd_yes2 3 rfl (by exact gd_) (by kernel_rfl) (by kernel_rfl) (by exact nop_) (PuI.all (by exact pv_Skn)) rfl (fun w hw => all_ hw) ?_
  refine sd_one 4 (by kernel_rfl) (sa_sl 4 rfl ?_)
  refine sl_call rfl rfl (by kernel_rfl) rfl (by exact sub_) (wBytes (b := b) (A := A2) (c := c2) (bs := kind :: bs) (by omega)) ?_
  rintro ⟨A3, c3⟩ -
  dsimp only
  refine sl_know (fun w hw => own_len (e := 5) (size := 1) (A := A3) hw (by exact at_)) ?_
  rintro ⟨-, l1, l2⟩
  refine sl_nil ?_
  refine se_sd (fun _ w hw => all_ hw) ?_
  refine sd_one 5 (by kernel_rfl) (sa_sl 5 rfl ?_)
  refine sl_call rfl rfl (by kernel_rfl) rfl (by exact sub_) (app_J (K := u8o A3 c3 (kind :: bs) :: sB g t gj gi gb mw ms life :: K) (gj := gj) (g := gd) (m := md) (lim := lim) hS ⟨Vw.of_own (e := 5) (A := A3) (c := c3) .here, l1, by omega, l2, rfl, hb⟩ hl hcc hlim hlm) ?_
  rintro ⟨q, ck2⟩ hq
  refine sl_nil ?_
  refine se_sd (fun _ w hw => all_ hw) ?_
  refine sd_yes2 6 rfl (by exact gd_) (by kernel_rfl) (by kernel_rfl) (by exact nop_) (PuI.all (by exact pv_Skn)) rfl (fun w hw => all_ hw) ?_
  refine sd_done (by kernel_rfl) ?_
  refine go_Skn ?_
  exact se_ret1 (q, ck2) hq rfl rfl (by exact sub_)
end Go.Proofs.YtocaabnbmcpjmaaGreatDoor
/- Package store: the closures that fill a record. -/
namespace Go.Proofs.YtocaabnbmcpjmaaGreatDoor
open Go.RowKit Go.MapKept
attribute [local irreducible] Go.Calls Go.Exit.then Go.Exit.inBlock Go.bodyPost Go.Code.wp Go.wpList takeL recordL hashL recL allL
def rcLife (n : Int) : List Int := le n 6
theorem nth_Skc {φ : Prop} (h : φ := by (first | rfl | first | rfl | exact rpC_n16 | exact rpC_n17 | exact rpC_n18)) : φ := h
theorem mid_Skc {φ : Prop} (h : φ := by (first | first | exact rpC_id | exact Mid.all | exact Mid.all | exact Mid.head)) : φ := h
theorem sz_Skc {φ : Prop} (h : φ := by (first | rfl | ((try simp only [rpC_len, bytes_length, Id.len]); (first | done | rfl); first | done | fail))) : φ := h
theorem one_Skc {φ : Prop} (h : φ := by (first | assumption | exact exact one_bytes _ | (simp only [List.mem_cons, List.not_mem_nil, or_false, forall_eq_or_imp, forall_eq]; decide) | exact one_bytes _ | (intro v hv; (repeat (rcases List.mem_cons.1 hv with rfl | hv; rfl)); cases hv))) : φ := h
theorem set_Skc {φ : Prop} (h : φ := by (first | (fail) | ((repeat (first | exact SetAt.here | apply SetAt.there)); first | done | fail))) : φ := h
theorem cl_Skc {φ : Prop} (h : φ := by first | rfl | exact .t | exact .f | exact .t (by omega) | exact .f (by omega) | exact .u | exact .i (by (first | exact .t (by omega) | exact .f (by omega) | exact .u | exact .i (by omega) | exact .v (by omega) | exact .b (by omega) | exact .w | rfl | omega)) | exact .v (by omega) | exact .b (by omega) | exact .q (by omega) | exact .w | exact .b (by exact at_) rfl (by exact nth_Skc) | exact .w (by exact at_) rfl rfl (by exact sz_Skc) | exact .s (by exact at_) (by exact mid_Skc) rfl rfl (by exact sz_Skc) | exact .z rfl rfl ⟨by kernel_rfl⟩ | exact .b rfl rfl ⟨by kernel_rfl⟩ | exact .a rfl rfl ⟨by kernel_rfl⟩ | exact .o rfl | exact .s | exact .n | exact .p rfl | exact .q rfl | exact .c rfl | exact .d rfl | exact .n rfl rfl (by omega) | exact .a rfl rfl (by omega) | exact .p rfl rfl (by omega) (by omega) | exact .y rfl rfl (by omega) (by omega) | exact .o (by exact at_) (by omega) rfl (by exact nth_Skc) | exact .m (by exact at_) (by omega) (by exact mid_Skc) rfl rfl (by exact sz_Skc) | exact .mlen (by exact at_) rfl | exact .t (by exact at_) rfl rfl (by first | exact True.intro | rfl) (by assumption) | exact .f (by exact at_) rfl rfl (by first | exact True.intro | rfl) (by assumption) rfl | exact .t1 (by exact at_) rfl rfl (by first | exact True.intro | rfl) (by assumption) | exact .f1 (by exact at_) rfl rfl (by first | exact True.intro | rfl) (by assumption) rfl | exact .tk (by exact at_) rfl (by assumption) (by assumption) | exact .fk (by exact at_) rfl (by assumption) (by assumption) rfl | exact .tk1 (by exact at_) rfl (by assumption) (by assumption) | exact .fk1 (by exact at_) rfl (by assumption) (by assumption) rfl | exact .r rfl rfl (by omega) (by omega) (by exact nth_Skc) rfl | exact .s rfl (by omega) (by assumption) | exact at_ | assumption | exact .r rfl rfl | exact .h rfl rfl rfl (by omega) | exact .l rfl rfl rfl (by omega) (by omega) | exact .g rfl rfl rfl rfl (by omega) (by omega) | exact .h rfl rfl (toN_ (by omega)) (by omega) | exact .l rfl rfl (toN_ (by omega)) (by omega) (by omega) | exact .g rfl rfl (toN_ (by omega)) (toN_ (by omega)) (by omega) (by omega) | exact .o (by decide) | exact .f (by decide) | exact .n (by omega) (by first | decide | (show _ ≤ ((64 : Nat) : Int); omega)) | (constructor; (repeat (first | exact .t (by omega) | exact .f (by omega) | exact .u | exact .i (by omega) | exact .v (by omega) | exact .b (by omega) | exact .w | rfl | omega)); first | done | fail) | omega | (show _ ≤ ((64 : Nat) : Int); omega)) : φ := h
theorem pv_Skc {φ : Prop} (h : φ := by constructor; (repeat exact cl_Skc); first | done | fail) : φ := h
theorem su_Skc {φ ψ : Prop} (k : ψ) (h : Hide ψ → φ := by (intro k; (first | refine sl_pu (PuI.sep (by exact pv_Skc)) rfl ?_ | refine sl_yes rfl rfl ?_ | refine sl_no rfl rfl rfl ?_ | refine sl_off rfl rfl rfl ?_ | (fail)); exact k.out)) : φ := h ⟨k⟩
theorem sto_Skc {φ ψ : Prop} (k : ψ) (h : Hide ψ → φ := by (intro k; (first | refine sl_store rfl (by exact pick_) rfl rfl (by kernel_rfl) (by exact set_Skc) ?_ | refine sl_store_whole rfl (by exact pick_) rfl (by exact sz_Skc) (by exact sz_Skc) (by exact one_Skc) ?_); exact k.out)) : φ := h ⟨k⟩
theorem go_Skc {φ ψ : Prop} (k : ψ) (h : Hide ψ → φ := by (intro k; (repeat (first | refine su_Skc ?_ | refine so_ ?_ | refine sto_Skc ?_)); exact k.out)) : φ := h ⟨k⟩
set_option maxRecDepth 100000 in
theorem fLife_ok {K : List Fa} {b c g go gj gi gb mw ms : Nat} {A : Option Addr} {t : Ta} {life : Int} {ty : TypeId} (hg : At (blk go ty [.pointer (some ⟨g, 0, none⟩)]) K) (hs : At (sB g t gj gi gb mw ms life) K) (hl : 0 ≤ life ∧ life ≤ 18446744073709551615) :
    Fn Tryz.prog 27 ([Value.pointer (some ⟨b, 0, none⟩)] ++ [Value.pointer (some ⟨go, 0, none⟩)]).toArray (wrb b A [5].length c :: u8o A c [5] :: K) (Ret (fun _ : Option Addr × Nat => True) (fun _ => .tuple #[]) (fun p => wrb b p.1 (5 :: rcLife life).length p.2 :: u8o p.1 p.2 (5 :: rcLife life) :: K)) := by
  refine fn_enter Tryz.func27 rfl _ Tryz.ntmps27 (by simp) [(0, .pointer (some ⟨b, 0, none⟩)), (1, .pointer (some ⟨go, 0, none⟩))] (args_of (by simp)) ?_
  refine go_Skc ?_
  refine sl_call rfl rfl (by kernel_rfl) rfl (by exact sub_) (wUint (b := b) (A := A) (c := c) (bs := [5]) (n := life) (k := 6) (by decide) hl.1 hl.2 (by decide)) ?_
  rintro ⟨A1, c1⟩ -
  refine go_Skc ?_
  exact se_end0 (A1, c1) trivial rfl rfl (by exact sub_)
end Go.Proofs.YtocaabnbmcpjmaaGreatDoor
/- Package store: again$1: what a record's bytes say. Written by wip/tools/mkska.py. -/
namespace Go.Proofs.YtocaabnbmcpjmaaGreatDoor
open Go.RowKit Go.MapKept
attribute [local irreducible] Go.Calls Go.Exit.then Go.Exit.inBlock Go.bodyPost Go.Code.wp Go.wpList takeL recordL hashL recL allL
/-- A record. -/
inductive Rc
  | acc (id : List Int) (t : Int) (p s : List Int)
  | com (id : List Int) (b d : List Int)
  | rej (id : List Int) (c : Int)
  | shut (s : Int)
  | life (n : Int)
section
variable {P : Program} {Q : Exit → Act → World → Prop} {n : Nat} {l : Env} {L : List Fa} {fn : Func} {R : Ending → World → Prop} {c : List PanicEntry}
end
section
variable {n : Nat} {l : Env} {L : List Fa} {fn : Func} {gs gd r : Nat} {v0 : Value} {K : List Fa} {bs : List Int} {F1 F2 : Fa} {c : Int} {s : Value} {rc : Rc} {m : Nat}
end
end Go.Proofs.YtocaabnbmcpjmaaGreatDoor
/- Package store: again: a record is read, and done. -/
namespace Go.Proofs.YtocaabnbmcpjmaaGreatDoor
open Go.RowKit Go.MapKept
attribute [local irreducible] Go.Calls Go.Exit.then Go.Exit.inBlock Go.bodyPost Go.Code.wp Go.wpList takeL recordL hashL recL allL
abbrev goB (go g : Nat) : Fa := blk go 57 [.pointer (some ⟨g, 0, none⟩)]
end Go.Proofs.YtocaabnbmcpjmaaGreatDoor
/- Package bucket: rules; books over facts; Fits, Get, Rules. -/
namespace Go.Proofs.YtocaabnbmcpjmaaGreatDoor
open Go.RowKit Go.MapKept
attribute [local irreducible] Go.Calls Go.Exit.then Go.Exit.inBlock Go.bodyPost Go.Code.wp Go.wpList
attribute [local irreducible] hashL ofId
/-- Rules. -/
structure Rl where
  w : Int
  mn : Int
  mx : Int
def Rl.c (r : Rl) : List Value := [.int .u64 r.w, .int .i64 r.mn, .int .i64 r.mx]
theorem Rl.one (r : Rl) : ∀ v ∈ r.c, v.oneCell' = true := by
  intro v hv
  simp only [Rl.c, List.mem_cons, List.not_mem_nil, or_false] at hv
  rcases hv with rfl | rfl | rfl <;> rfl
/-- May they be, of a task? -/
def rErr (r : Rl) (t : Ta) : Int := if t.err ≠ 0 then t.err else if r.w < 1 ∨ 1099511627776 < r.w then 6 else if r.mn < 1 ∨ r.mx < r.mn ∨ 256 < r.mx then 6 else 0
/-- A bucket. -/
structure BK where
  st : Int
  A : Option Addr
  c : Nat
  l : List Int
  m : Int
  k : Id
  cl : Bool
  bn : Nat
def bkC (st : Int) (T : List Value) (cl : Bool) : List Value := [.int .u64 st] ++ T ++ [.bool cl]
def BK.T (b : BK) : List Value := tc b.A b.l.length b.c b.m b.k
def BK.cells (b : BK) : List Value := bkC b.st b.T b.cl
theorem bkC_len {st : Int} {T : List Value} {cl : Bool} (h : T.length = 18) : (bkC st T cl).length = 20 := by simp [bkC, h]
theorem BK.len (b : BK) : b.cells.length = 20 := bkC_len tc_len
theorem bkC_one {st : Int} {T : List Value} {cl : Bool} (h : ∀ v ∈ T, v.oneCell' = true) : ∀ v ∈ bkC st T cl, v.oneCell' = true := by
  intro v hv
  simp only [bkC, List.cons_append, List.nil_append, List.mem_cons, List.mem_append, List.not_mem_nil, or_false] at hv
  rcases hv with rfl | hv | rfl
  · rfl
  · exact h v hv
  · rfl
theorem BK.one (b : BK) : ∀ v ∈ b.cells, v.oneCell' = true := bkC_one tc_one
theorem bkC_mid {st : Int} {T : List Value} {cl : Bool} : Mid (bkC st T cl) 1 T := Mid.of_append (a := [Value.int .u64 st]) rfl
theorem BK.mid (b : BK) : Mid b.cells 1 b.T := bkC_mid
theorem bkC_n0 {st : Int} {T : List Value} {cl : Bool} : nth (bkC st T cl) 0 = some (.int .u64 st) := rfl
theorem bkC_nT {st : Int} {T : List Value} {cl : Bool} {i : Nat} {v : Value} (h : nth T i = some v) : nth (bkC st T cl) (1 + i) = some v := nth_mid (pre := [Value.int .u64 st]) rfl h
theorem bkC_n2 {st : Int} {A : Option Addr} {n c : Nat} {m : Int} {k : Id} {cl : Bool} : nth (bkC st (tc A n c m k) cl) 2 = some (.int .i64 m) := bkC_nT (i := 1) tc_n1
theorem bkC_n1 {st : Int} {A : Option Addr} {n c : Nat} {m : Int} {k : Id} {cl : Bool} : nth (bkC st (tc A n c m k) cl) 1 = some (.slice A n c) := bkC_nT (i := 0) tc_n0
theorem bkC_n19 {st : Int} {T : List Value} {cl : Bool} (h : T.length = 18) : nth (bkC st T cl) 19 = some (.bool cl) := by
  rw [nth_eq]
  unfold bkC
  rw [List.getElem?_append_right (by simp [h])]
  simp [h]
theorem bkC_n19' {st : Int} {A : Option Addr} {n c : Nat} {m : Int} {k : Id} {cl : Bool} : nth (bkC st (tc A n c m k) cl) 19 = some (.bool cl) := bkC_n19 tc_len
theorem bkC_set19 {st : Int} {T : List Value} {cl cl' : Bool} (h : T.length = 18) : SetAt 19 (.bool cl') (bkC st T cl) (bkC st T cl') := by
  have h1 := SetAt.mk (i := 19) (v := .bool cl') (r := bkC st T cl) (by rw [bkC_len h]; decide)
  have h2 : (bkC st T cl).set 19 (.bool cl') = bkC st T cl' := by
    unfold bkC
    rw [List.set_append_right _ _ (by simp [h])]
    simp [h]
  rwa [h2] at h1
def BM : MK BK := ⟨fun b => .int .u64 b.st, fun b => .agg b.cells.toArray, fun b => b.bn, fun b => eo b.A b.l.length b.c b.l⟩
/-- A book. -/
def boC (t : Ta) (r : Rl) (m : Nat) : List Value := t.c ++ r.c ++ [.map (some m)]
theorem boC_mt {t : Ta} {r : Rl} {m : Nat} : Mid (boC t r m) 0 t.c := by
  unfold boC
  rw [List.append_assoc]
  exact Mid.head
theorem boC_mr {t : Ta} {r : Rl} {m : Nat} : Mid (boC t r m) 8 r.c := Mid.of_append (a := t.c) rfl
abbrev bB (g : Nat) (t : Ta) (r : Rl) (m : Nat) : Fa := blk g 116 (boC t r m)
abbrev bM (m : Nat) (fs : List BK) (ck : Nat) : Fa := kM BM m (.int .u64) fs ck
abbrev bS (fs : List BK) : Fa := kS BM fs
theorem nth_Gg {φ : Prop} (h : φ := by (first | rfl | first | exact bkC_n0 | exact bkC_n1 | exact bkC_n2 | exact bkC_n19' | exact tc_n0 | exact tc_n1)) : φ := h
theorem mid_Gg {φ : Prop} (h : φ := by (first | first | exact boC_mt | exact boC_mr | exact bkC_mid | exact Ta.mid _ | exact tc_mid | exact Mid.all | exact Mid.all | exact Mid.head)) : φ := h
theorem sz_Gg {φ : Prop} (h : φ := by (first | rfl | (first | (rw [bkC_len tc_len]; rfl) | rw [bkC_len tc_len] | rw [BK.len] | (rw [bytes_length, Id.len]; rfl) | (rw [tc_len]; rfl) | rw [tc_len, tc_len]; first | done | fail))) : φ := h
theorem one_Gg {φ : Prop} (h : φ := by (first | assumption | exact first | exact BK.one _ | exact bkC_one tc_one | exact tc_one | exact Ta.one _ | exact Rl.one _ | exact one_bytes _ | (simp only [List.mem_cons, List.not_mem_nil, or_false, forall_eq_or_imp, forall_eq]; decide) | exact one_bytes _ | (intro v hv; (repeat (rcases List.mem_cons.1 hv with rfl | hv; rfl)); cases hv))) : φ := h
theorem set_Gg {φ : Prop} (h : φ := by (first | (first | exact tc_set0 | exact bkC_set19 tc_len) | ((repeat (first | exact SetAt.here | apply SetAt.there)); first | done | fail))) : φ := h
theorem cl_Gg {φ : Prop} (h : φ := by first | rfl | exact .t | exact .f | exact .t (by omega) | exact .f (by omega) | exact .u | exact .i (by (first | exact .t (by omega) | exact .f (by omega) | exact .u | exact .i (by omega) | exact .v (by omega) | exact .b (by omega) | exact .w | rfl | omega)) | exact .v (by omega) | exact .b (by omega) | exact .q (by omega) | exact .w | exact .b (by exact at_) rfl (by exact nth_Gg) | exact .w (by exact at_) rfl rfl (by exact sz_Gg) | exact .s (by exact at_) (by exact mid_Gg) rfl rfl (by exact sz_Gg) | exact .z rfl rfl ⟨by kernel_rfl⟩ | exact .b rfl rfl ⟨by kernel_rfl⟩ | exact .a rfl rfl ⟨by kernel_rfl⟩ | exact .o rfl | exact .s | exact .n | exact .p rfl | exact .q rfl | exact .c rfl | exact .d rfl | exact .n rfl rfl (by omega) | exact .a rfl rfl (by omega) | exact .p rfl rfl (by omega) (by omega) | exact .y rfl rfl (by omega) (by omega) | exact .o (by exact at_) (by omega) rfl (by exact nth_Gg) | exact .m (by exact at_) (by omega) (by exact mid_Gg) rfl rfl (by exact sz_Gg) | exact .mlen (by exact at_) rfl | exact .t (by exact at_) rfl rfl (by first | exact True.intro | rfl) (by assumption) | exact .f (by exact at_) rfl rfl (by first | exact True.intro | rfl) (by assumption) rfl | exact .t1 (by exact at_) rfl rfl (by first | exact True.intro | rfl) (by assumption) | exact .f1 (by exact at_) rfl rfl (by first | exact True.intro | rfl) (by assumption) rfl | exact .tk (by exact at_) rfl (by assumption) (by assumption) | exact .fk (by exact at_) rfl (by assumption) (by assumption) rfl | exact .tk1 (by exact at_) rfl (by assumption) (by assumption) | exact .fk1 (by exact at_) rfl (by assumption) (by assumption) rfl | exact .r rfl rfl (by omega) (by omega) (by exact nth_Gg) rfl | exact .s rfl (by omega) (by assumption) | exact at_ | assumption | exact .r rfl rfl | exact .h rfl rfl rfl (by omega) | exact .l rfl rfl rfl (by omega) (by omega) | exact .g rfl rfl rfl rfl (by omega) (by omega) | exact .h rfl rfl (toN_ (by omega)) (by omega) | exact .l rfl rfl (toN_ (by omega)) (by omega) (by omega) | exact .g rfl rfl (toN_ (by omega)) (toN_ (by omega)) (by omega) (by omega) | exact .o (by decide) | exact .f (by decide) | exact .n (by omega) (by first | decide | (show _ ≤ ((64 : Nat) : Int); omega)) | (constructor; (repeat (first | exact .t (by omega) | exact .f (by omega) | exact .u | exact .i (by omega) | exact .v (by omega) | exact .b (by omega) | exact .w | rfl | omega)); first | done | fail) | omega | (show _ ≤ ((64 : Nat) : Int); omega)) : φ := h
theorem pv_Gg {φ : Prop} (h : φ := by constructor; (repeat exact cl_Gg); first | done | fail) : φ := h
theorem su_Gg {φ ψ : Prop} (k : ψ) (h : Hide ψ → φ := by (intro k; (first | refine sl_pu (PuI.sep (by exact pv_Gg)) rfl ?_ | refine sl_yes rfl rfl ?_ | refine sl_no rfl rfl rfl ?_ | refine sl_off rfl rfl rfl ?_ | (fail)); exact k.out)) : φ := h ⟨k⟩
theorem sto_Gg {φ ψ : Prop} (k : ψ) (h : Hide ψ → φ := by (intro k; (first | refine sl_store rfl (by exact pick_) rfl rfl (by kernel_rfl) (by exact set_Gg) ?_ | refine sl_store_whole rfl (by exact pick_) rfl (by exact sz_Gg) (by exact sz_Gg) (by exact one_Gg) ?_); exact k.out)) : φ := h ⟨k⟩
theorem go_Gg {φ ψ : Prop} (k : ψ) (h : Hide ψ → φ := by (intro k; (repeat (first | refine su_Gg ?_ | refine so_ ?_ | refine sto_Gg ?_)); exact k.out)) : φ := h ⟨k⟩
set_option maxRecDepth 100000 in
set_option maxHeartbeats 2000000 in
theorem rcheck_ok {K : List Fa} {r : Rl} {t : Ta} :
    Fn Tryz.prog 7 #[.agg r.c.toArray, .agg t.c.toArray] K (Ret (fun _ : Unit => True) (fun _ => .int .i64 (rErr r t)) (fun _ => K)) := by
  refine fn_enter Tryz.func7 rfl _ Tryz.ntmps7 (by simp) [(0, .agg r.c.toArray), (1, .agg t.c.toArray)] (args_of (by simp)) ?_
  refine go_Gg ?_
  refine sl_box rfl rfl rfl ?_; intro g1
  refine go_Gg ?_
  refine sl_box rfl rfl rfl ?_; intro g2
  refine go_Gg ?_
  refine sl_call rfl rfl (by kernel_rfl) rfl (by exact sub_) (tcheck_ok t.kd t.fl t.bt t.ln t.wt t.ch t.np t.tag) ?_; rintro _ -
  by_cases ht : t.err = 0
  case neg =>
    rw [show rErr r t = t.err by unfold rErr; rw [if_pos ht], show tErr t.kd t.fl t.bt t.ln t.wt t.ch t.np t.tag = t.err from rfl]
    refine go_Gg ?_
    exact se_ret1 () trivial rfl rfl (by exact sub_)
  rw [show tErr t.kd t.fl t.bt t.ln t.wt t.ch t.np t.tag = 0 from ht]
  have he : rErr r t = if r.w < 1 ∨ 1099511627776 < r.w then 6 else if r.mn < 1 ∨ r.mx < r.mn ∨ 256 < r.mx then 6 else 0 := by unfold rErr; rw [if_neg (by simp [ht])]
  rw [he]
  obtain ⟨w, mn, mx⟩ := r
  dsimp only
  by_cases h1 : w < 1
  · rw [if_pos (.inl h1)]
    refine go_Gg ?_
    exact se_ret1 () trivial rfl rfl (by exact sub_)
  by_cases h2 : 1099511627776 < w
  · rw [if_pos (.inr h2)]
    refine go_Gg ?_
    exact se_ret1 () trivial rfl rfl (by exact sub_)
  rw [if_neg (by omega)]
  by_cases h3 : mn < 1
  · rw [if_pos (.inl h3)]
    refine go_Gg ?_
    exact se_ret1 () trivial rfl rfl (by exact sub_)
  by_cases h4 : mx < mn
  · rw [if_pos (.inr (.inl h4))]
    refine go_Gg ?_
    exact se_ret1 () trivial rfl rfl (by exact sub_)
  by_cases h5 : 256 < mx
  · rw [if_pos (.inr (.inr h5))]
    refine go_Gg ?_
    exact se_ret1 () trivial rfl rfl (by exact sub_)
  · rw [if_neg (by omega)]
    refine go_Gg ?_
    exact se_ret1 () trivial rfl rfl (by exact sub_)
set_option maxRecDepth 100000 in
set_option maxHeartbeats 2000000 in
theorem bnew_ok {K : List Fa} {r : Rl} {t : Ta} (h : rErr r t = 0) :
    Fn Tryz.prog 22 #[.agg t.c.toArray, .agg r.c.toArray] K (Ret (fun _ : Nat × Nat => True) (fun q => .tuple #[.pointer (some ⟨q.1, 0, none⟩), .int .i64 0]) (fun q => bB q.1 t r q.2 :: bM q.2 [] 0 :: bS [] :: K)) := by
  refine fn_enter Tryz.func22 rfl _ Tryz.ntmps22 (by simp) [(0, .agg t.c.toArray), (1, .agg r.c.toArray)] (args_of (by simp)) ?_
  refine go_Gg ?_
  refine sl_box rfl rfl rfl ?_; intro g1
  refine go_Gg ?_
  refine sl_box rfl rfl rfl ?_; intro g2
  refine go_Gg ?_
  refine sl_call rfl rfl (by kernel_rfl) rfl (by exact sub_) rcheck_ok ?_; rintro _ -
  rw [h]
  refine go_Gg ?_
  refine sl_makeMap (d := .int .u64) rfl ?_
  intro m
  refine sl_pu (pu_build (v := .agg (boC t r m).toArray) rfl (fun W => by kernel_rfl)) rfl ?_
  refine sl_box rfl rfl rfl ?_
  intro g
  refine go_Gg ?_
  exact se_ret2 (g, m) trivial rfl rfl rfl rfl (.cons .here (.cons .here (sub_star0 (by exact sub_))))
end Go.Proofs.YtocaabnbmcpjmaaGreatDoor
