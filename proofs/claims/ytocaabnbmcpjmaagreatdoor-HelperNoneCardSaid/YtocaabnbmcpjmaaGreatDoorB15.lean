/- Several texts of one claim, one behind the other (Ea, Gl, Skt, Sku, Skx, Skl, Cd, Ce, Gj, Os, Ob, Gk). -/
import Derived.Test.YtocaabnbmcpjmaaGreatDoorB03
import Derived.Test.YtocaabnbmcpjmaaGreatDoorB04
import Derived.Test.YtocaabnbmcpjmaaGreatDoorB14
import Derived.Test.YtocaabnbmcpjmaaGreatDoorB07
import Derived.Test.YtocaabnbmcpjmaaGreatDoorB09
import Derived.Test.YtocaabnbmcpjmaaGreatDoorB08
import Derived.Test.YtocaabnbmcpjmaaGreatDoorB05
import Derived.Test.YtocaabnbmcpjmaaGreatDoorB01
set_option linter.unusedVariables false
set_option linter.unusedSimpArgs false
/- Two arrays of numbers: are they the same? No program is in sight. -/
namespace Go.Proofs.YtocaabnbmcpjmaaGreatDoor
open Go.RowKit
section
variable {P : Program} (w : World)
end
section
variable {P : Program} {C : World → Prop} {n : Nat} {l : Env} {ty t t' e : TypeId} {x y : Operand} {xs ys : List Int} {N : Nat} {k k' : IntKind}
end
end Go.Proofs.YtocaabnbmcpjmaaGreatDoor
/- Package bucket: Close, List of nil; elements compared. -/
namespace Go.Proofs.YtocaabnbmcpjmaaGreatDoor
open Go.RowKit Go.MapKept
attribute [local irreducible] Go.Calls Go.Exit.then Go.Exit.inBlock Go.bodyPost Go.Code.wp Go.wpList
attribute [local irreducible] hashL ofId
section
variable {C : World → Prop} {n : Nat} {l : Env} {ty t' : TypeId} {x y : Operand} {u v : Int}
end
def BK.shut (b : BK) : BK := { b with cl := true }
end Go.Proofs.YtocaabnbmcpjmaaGreatDoor
/- Package store: methods of nil; Waits, Life. -/
namespace Go.Proofs.YtocaabnbmcpjmaaGreatDoor
open Go.RowKit Go.MapKept
attribute [local irreducible] Go.Calls Go.Exit.then Go.Exit.inBlock Go.bodyPost Go.Code.wp Go.wpList takeL recordL hashL recL allL
end Go.Proofs.YtocaabnbmcpjmaaGreatDoor
/- Package store: Waits, Life. -/
namespace Go.Proofs.YtocaabnbmcpjmaaGreatDoor
open Go.RowKit Go.MapKept
attribute [local irreducible] Go.Calls Go.Exit.then Go.Exit.inBlock Go.bodyPost Go.Code.wp Go.wpList takeL recordL hashL recL allL
end Go.Proofs.YtocaabnbmcpjmaaGreatDoor
/- Package store: Seen, Said. -/
namespace Go.Proofs.YtocaabnbmcpjmaaGreatDoor
open Go.RowKit Go.MapKept
attribute [local irreducible] Go.Calls Go.Exit.then Go.Exit.inBlock Go.bodyPost Go.Code.wp Go.wpList takeL recordL hashL recL allL
theorem nth_Skx {φ : Prop} (h : φ := by (first | rfl | first | rfl | exact rpC_n16 | exact rpC_n17 | exact rpC_n18 | exact stC9_n9)) : φ := h
theorem mid_Skx {φ : Prop} (h : φ := by (first | first | exact rpC_id | exact stC9_mid | exact stC9_ci | exact Mid.all | exact Mid.all | exact Mid.head)) : φ := h
theorem sz_Skx {φ : Prop} (h : φ := by (first | rfl | ((try simp only [Wt.cells, rpC_len, bytes_length, Id.len, Seen.len]); (first | done | rfl); first | done | fail))) : φ := h
theorem one_Skx {φ : Prop} (h : φ := by (first | assumption | exact first | exact one_bytes _ | exact rpC_one rfl rfl | exact Seen.one _ | (simp only [List.mem_cons, List.not_mem_nil, or_false, forall_eq_or_imp, forall_eq]; decide) | exact one_bytes _ | (intro v hv; (repeat (rcases List.mem_cons.1 hv with rfl | hv; rfl)); cases hv))) : φ := h
theorem set_Skx {φ : Prop} (h : φ := by (first | (fail) | ((repeat (first | exact SetAt.here | apply SetAt.there)); first | done | fail))) : φ := h
theorem cl_Skx {φ : Prop} (h : φ := by first | rfl | exact .t | exact .f | exact .t (by omega) | exact .f (by omega) | exact .u | exact .i (by (first | exact .t (by omega) | exact .f (by omega) | exact .u | exact .i (by omega) | exact .v (by omega) | exact .b (by omega) | exact .w | rfl | omega)) | exact .v (by omega) | exact .b (by omega) | exact .q (by omega) | exact .w | exact .b (by exact at_) rfl (by exact nth_Skx) | exact .w (by exact at_) rfl rfl (by exact sz_Skx) | exact .s (by exact at_) (by exact mid_Skx) rfl rfl (by exact sz_Skx) | exact .z rfl rfl ⟨by kernel_rfl⟩ | exact .b rfl rfl ⟨by kernel_rfl⟩ | exact .a rfl rfl ⟨by kernel_rfl⟩ | exact .o rfl | exact .s | exact .n | exact .p rfl | exact .q rfl | exact .c rfl | exact .d rfl | exact .n rfl rfl (by omega) | exact .a rfl rfl (by omega) | exact .p rfl rfl (by omega) (by omega) | exact .y rfl rfl (by omega) (by omega) | exact .o (by exact at_) (by omega) rfl (by exact nth_Skx) | exact .m (by exact at_) (by omega) (by exact mid_Skx) rfl rfl (by exact sz_Skx) | exact .mlen (by exact at_) rfl | exact .t (by exact at_) rfl rfl (by first | exact True.intro | rfl) (by assumption) | exact .f (by exact at_) rfl rfl (by first | exact True.intro | rfl) (by assumption) rfl | exact .t1 (by exact at_) rfl rfl (by first | exact True.intro | rfl) (by assumption) | exact .f1 (by exact at_) rfl rfl (by first | exact True.intro | rfl) (by assumption) rfl | exact .tk (by exact at_) rfl (by assumption) (by assumption) | exact .fk (by exact at_) rfl (by assumption) (by assumption) rfl | exact .tk1 (by exact at_) rfl (by assumption) (by assumption) | exact .fk1 (by exact at_) rfl (by assumption) (by assumption) rfl | exact .r rfl rfl (by omega) (by omega) (by exact nth_Skx) rfl | exact .s rfl (by omega) (by assumption) | exact at_ | assumption | exact .r rfl rfl | exact .h rfl rfl rfl (by omega) | exact .l rfl rfl rfl (by omega) (by omega) | exact .g rfl rfl rfl rfl (by omega) (by omega) | exact .h rfl rfl (toN_ (by omega)) (by omega) | exact .l rfl rfl (toN_ (by omega)) (by omega) (by omega) | exact .g rfl rfl (toN_ (by omega)) (toN_ (by omega)) (by omega) (by omega) | exact .o (by decide) | exact .f (by decide) | exact .n (by omega) (by first | decide | (show _ ≤ ((64 : Nat) : Int); omega)) | (constructor; (repeat (first | exact .t (by omega) | exact .f (by omega) | exact .u | exact .i (by omega) | exact .v (by omega) | exact .b (by omega) | exact .w | rfl | omega)); first | done | fail) | omega | (show _ ≤ ((64 : Nat) : Int); omega)) : φ := h
theorem pv_Skx {φ : Prop} (h : φ := by constructor; (repeat exact cl_Skx); first | done | fail) : φ := h
theorem su_Skx {φ ψ : Prop} (k : ψ) (h : Hide ψ → φ := by (intro k; (first | refine sl_pu (PuI.sep (by exact pv_Skx)) rfl ?_ | refine sl_yes rfl rfl ?_ | refine sl_no rfl rfl rfl ?_ | refine sl_off rfl rfl rfl ?_ | (fail)); exact k.out)) : φ := h ⟨k⟩
theorem sto_Skx {φ ψ : Prop} (k : ψ) (h : Hide ψ → φ := by (intro k; (first | refine sl_store rfl (by exact pick_) rfl rfl (by kernel_rfl) (by exact set_Skx) ?_ | refine sl_store_whole rfl (by exact pick_) rfl (by exact sz_Skx) (by exact sz_Skx) (by exact one_Skx) ?_); exact k.out)) : φ := h ⟨k⟩
theorem go_Skx {φ ψ : Prop} (k : ψ) (h : Hide ψ → φ := by (intro k; (repeat (first | refine su_Skx ?_ | refine so_ ?_ | refine sto_Skx ?_)); exact k.out)) : φ := h ⟨k⟩
set_option maxRecDepth 100000 in
set_option maxHeartbeats 2000000 in
theorem sSeen_ok {K : List Fa} {g : Nat} {t : Ta} {r : Rl} {lim : Int} {q : StM} {id : Id} (hs : Srt q.ss) (hn : q.ss.length ≤ 1000000) :
    Fn Tryz.prog 30 #[.pointer (some ⟨g, 0, none⟩), id.v] (sF g t r lim q K) (Ret (fun _ : Unit => True) (fun _ => .tuple #[(gotI q.ss id).v, .bool (hasI q.ss id)]) (fun _ => sF g t r lim q K)) := by
  refine fn_enter Tryz.func30 rfl _ Tryz.ntmps30 (by simp) [(0, .pointer (some ⟨g, 0, none⟩)), (1, id.v)] (args_of (by simp)) ?_
  refine go_Skx ?_
  refine sl_box rfl rfl rfl ?_; intro g3
  refine sl_alloc rfl rfl rfl ?_; intro g4
  refine go_Skx ?_
  refine sd_drawn (fun W => AllP W [sB g t q.gj q.gi q.gb q.mw q.ms q.life, blk g3 56 (bytes id.l)]) (fun _ => true) (by kernel_rfl) 10 rfl ?_
  refine sd_yes2 0 rfl (by exact gd_) (by kernel_rfl) (by kernel_rfl) (by exact nop_) (PuI.all (by exact pv_Skx)) rfl (fun w hw => all_ hw) ?_
  refine sd_yes2 1 rfl (by exact gd_) (by kernel_rfl) (by kernel_rfl) (by exact nop_) (PuI.all (by exact pv_Skx)) rfl (fun w hw => all_ hw) ?_
  refine sd_yes2 2 rfl (by exact gd_) (by kernel_rfl) (by kernel_rfl) (by exact nop_) (PuI.all (by exact pv_Skx)) rfl (fun w hw => all_ hw) ?_
  refine sd_yes2 3 rfl (by exact gd_) (by kernel_rfl) (by kernel_rfl) (by exact nop_) (PuI.all (by exact pv_Skx)) rfl (fun w hw => all_ hw) ?_
  refine sd_yes2 4 rfl (by exact gd_) (by kernel_rfl) (by kernel_rfl) (by exact nop_) (PuI.all (by exact pv_Skx)) rfl (fun w hw => all_ hw) ?_
  refine sd_one 5 (by kernel_rfl) (sa_sl 5 rfl ?_)
  refine sl_call rfl rfl (by kernel_rfl) rfl (by exact Sub.cons (by exact pick_) (Sub.cons (by exact pick_) Sub.refl)) (get_ok (x := q.gi) (A := q.iA) (c := q.ic) (lim := lim) (ss := q.ss) id hs hn) ?_
  rintro _ -
  refine sl_nil ?_
  refine se_sd (fun _ w hw => all_ hw) ?_
  refine sd_yes2 6 rfl (by exact gd_) (by kernel_rfl) (by kernel_rfl) (by exact nop_) (PuI.all (by exact pv_Skx)) rfl (fun w hw => all_ hw) ?_
  refine sd_yes2 7 rfl (by exact gd_) (by kernel_rfl) (by kernel_rfl) (by exact nop_) (PuI.all (by exact pv_Skx)) rfl (fun w hw => all_ hw) ?_
  refine sd_one 8 (by kernel_rfl) (sa_sl 8 rfl ?_)
  refine sl_store_whole (cl := (gotI q.ss id).cells) rfl (by exact pick_) rfl (by rw [Seen.len]; rfl) (by rw [Seen.len]; rfl) (Seen.one _) ?_
  refine sl_nil ?_
  refine se_sd (fun _ w hw => all_ hw) ?_
  refine sd_yes2 9 rfl (by exact gd_) (by kernel_rfl) (by kernel_rfl) (by exact nop_) (PuI.all (by exact pv_Skx)) rfl (fun w hw => all_ hw) ?_
  refine sd_done (by kernel_rfl) ?_
  refine go_Skx ?_
  exact se_ret_ct () trivial rfl rfl (by exact at_) rfl rfl (by exact sz_Skx) rfl rfl (by exact sub_)
end Go.Proofs.YtocaabnbmcpjmaaGreatDoor
/- Package store: Open with rules that are no rules; with no disk. -/
namespace Go.Proofs.YtocaabnbmcpjmaaGreatDoor
open Go.RowKit Go.MapKept
attribute [local irreducible] Go.Calls Go.Exit.then Go.Exit.inBlock Go.bodyPost Go.Code.wp Go.wpList takeL recordL hashL recL allL
end Go.Proofs.YtocaabnbmcpjmaaGreatDoor
/- The small tasks. (Written by wip/tools/mkcd.py.) -/
namespace Go.Proofs.YtocaabnbmcpjmaaGreatDoor
open Go.RowKit
attribute [local irreducible] Go.Calls Go.Exit.then Go.Exit.inBlock Go.bodyPost Go.Code.wp Go.wpList
def sBt (kd b : Int) : Int := if kd = 2 ∨ kd = 3 then 1 + b % 4 else 0
def sLn (kd l : Int) : Int := if kd = 3 then 1 + (1 + l % 5) % 3 else if kd = 4 ∨ kd = 5 then 1 + l % 5 else 0
def sWt (kd l w : Int) : Int := if kd = 5 then 1 + w % (1 + l % 5) else 0
def sCh (kd c : Int) : Int := if kd = 3 ∨ kd = 4 ∨ kd = 5 then 1 + c % 4 else 0
def sCells (k f b l w c : Int) : List Value := [.int .u8 k, .int .u8 f, .int .u8 b, .int .u8 l, .int .u8 w, .int .u8 c]
def sC (k f b l w c : Int) : List Value := cCells (1 + k % 5) (1 + f % 2) (sBt (1 + k % 5) b) (sLn (1 + k % 5) l) (sWt (1 + k % 5) l w) (sCh (1 + k % 5) c)
theorem cc_one (a b c d e f : Int) : ∀ v ∈ [Value.int .u8 a, .int .u8 b, .int .i64 c, .int .i64 d, .int .i64 e, .int .i64 f], v.oneCell' = true := by
  intro v hv
  simp only [List.mem_cons, List.not_mem_nil, or_false] at hv
  rcases hv with rfl | rfl | rfl | rfl | rfl | rfl <;> rfl
theorem nth_Cd {φ : Prop} (h : φ := by (first | rfl | rfl)) : φ := h
theorem mid_Cd {φ : Prop} (h : φ := by (first | exact Mid.all | exact Mid.all | exact Mid.head)) : φ := h
theorem sz_Cd {φ : Prop} (h : φ := by (first | rfl | (rfl; first | done | fail))) : φ := h
theorem one_Cd {φ : Prop} (h : φ := by (first | assumption | exact cc_one _ _ _ _ _ _ | (simp only [List.mem_cons, List.not_mem_nil, or_false, forall_eq_or_imp, forall_eq]; decide) | exact one_bytes _ | (intro v hv; (repeat (rcases List.mem_cons.1 hv with rfl | hv; rfl)); cases hv))) : φ := h
theorem set_Cd {φ : Prop} (h : φ := by (first | (fail) | ((repeat (first | exact SetAt.here | apply SetAt.there)); first | done | fail))) : φ := h
theorem cl_Cd {φ : Prop} (h : φ := by first | rfl | exact .t | exact .f | exact .t (by omega) | exact .f (by omega) | exact .u | exact .i (by (first | exact .t (by omega) | exact .f (by omega) | exact .u | exact .i (by omega) | exact .v (by omega) | exact .b (by omega) | exact .w | rfl | omega)) | exact .v (by omega) | exact .b (by omega) | exact .q (by omega) | exact .w | exact .b (by exact at_) rfl (by exact nth_Cd) | exact .w (by exact at_) rfl rfl (by exact sz_Cd) | exact .s (by exact at_) (by exact mid_Cd) rfl rfl (by exact sz_Cd) | exact .z rfl rfl ⟨by kernel_rfl⟩ | exact .b rfl rfl ⟨by kernel_rfl⟩ | exact .a rfl rfl ⟨by kernel_rfl⟩ | exact .o rfl | exact .s | exact .n | exact .p rfl | exact .q rfl | exact .c rfl | exact .d rfl | exact .n rfl rfl (by omega) | exact .a rfl rfl (by omega) | exact .p rfl rfl (by omega) (by omega) | exact .y rfl rfl (by omega) (by omega) | exact .o (by exact at_) (by omega) rfl (by exact nth_Cd) | exact .m (by exact at_) (by omega) (by exact mid_Cd) rfl rfl (by exact sz_Cd) | exact .mlen (by exact at_) rfl | exact .t (by exact at_) rfl rfl (by first | exact True.intro | rfl) (by assumption) | exact .f (by exact at_) rfl rfl (by first | exact True.intro | rfl) (by assumption) rfl | exact .t1 (by exact at_) rfl rfl (by first | exact True.intro | rfl) (by assumption) | exact .f1 (by exact at_) rfl rfl (by first | exact True.intro | rfl) (by assumption) rfl | exact .tk (by exact at_) rfl (by assumption) (by assumption) | exact .fk (by exact at_) rfl (by assumption) (by assumption) rfl | exact .tk1 (by exact at_) rfl (by assumption) (by assumption) | exact .fk1 (by exact at_) rfl (by assumption) (by assumption) rfl | exact .r rfl rfl (by omega) (by omega) (by exact nth_Cd) rfl | exact .s rfl (by omega) (by assumption) | exact at_ | assumption | exact .r rfl rfl | exact .h rfl rfl rfl (by omega) | exact .l rfl rfl rfl (by omega) (by omega) | exact .g rfl rfl rfl rfl (by omega) (by omega) | exact .h rfl rfl (toN_ (by omega)) (by omega) | exact .l rfl rfl (toN_ (by omega)) (by omega) (by omega) | exact .g rfl rfl (toN_ (by omega)) (toN_ (by omega)) (by omega) (by omega) | exact .o (by decide) | exact .f (by decide) | exact .n (by omega) (by first | decide | (show _ ≤ ((64 : Nat) : Int); omega)) | (constructor; (repeat (first | exact .t (by omega) | exact .f (by omega) | exact .u | exact .i (by omega) | exact .v (by omega) | exact .b (by omega) | exact .w | rfl | omega)); first | done | fail) | omega | (show _ ≤ ((64 : Nat) : Int); omega)) : φ := h
theorem pv_Cd {φ : Prop} (h : φ := by constructor; (repeat exact cl_Cd); first | done | fail) : φ := h
theorem su_Cd {φ ψ : Prop} (k : ψ) (h : Hide ψ → φ := by (intro k; (first | refine sl_pu (PuI.sep (by exact pv_Cd)) rfl ?_ | refine sl_yes rfl rfl ?_ | refine sl_no rfl rfl rfl ?_ | refine sl_off rfl rfl rfl ?_ | (fail)); exact k.out)) : φ := h ⟨k⟩
theorem rq_Cd {φ ψ : Prop} (k : ψ) (h : Hide ψ → φ := by (intro k; (first | refine wq_pu (PuI.sep (by exact pv_Cd)) rfl ?_ | refine wq_yes rfl rfl ?_ | refine wq_no rfl rfl rfl ?_ | refine wq_off rfl rfl rfl ?_ | (fail)); exact k.out)) : φ := h ⟨k⟩
theorem sto_Cd {φ ψ : Prop} (k : ψ) (h : Hide ψ → φ := by (intro k; (first | refine sl_store rfl (by exact pick_) rfl rfl (by kernel_rfl) (by exact set_Cd) ?_ | refine sl_store_whole rfl (by exact pick_) rfl (by exact sz_Cd) (by exact sz_Cd) (by exact one_Cd) ?_); exact k.out)) : φ := h ⟨k⟩
theorem go_Cd {φ ψ : Prop} (k : ψ) (h : Hide ψ → φ := by (intro k; (repeat (first | refine su_Cd ?_ | refine so_ ?_ | refine sto_Cd ?_)); exact k.out)) : φ := h ⟨k⟩
set_option maxRecDepth 100000 in
set_option maxHeartbeats 8000000 in
theorem scirc_ok {K : List Fa} {k f b l w c : Int} (hk : 0 ≤ k ∧ k ≤ 255) (hf : 0 ≤ f ∧ f ≤ 255) (hb : 0 ≤ b ∧ b ≤ 255) (hl : 0 ≤ l ∧ l ≤ 255) (hw : 0 ≤ w ∧ w ≤ 255) (hc : 0 ≤ c ∧ c ≤ 255) :
    Fn Tryz.prog 16 #[.agg (sCells k f b l w c).toArray] K (Ret (fun _ : Unit => True) (fun _ => .agg (sC k f b l w c).toArray) (fun _ => K)) := by
  refine fn_enter Tryz.func16 rfl _ Tryz.ntmps16 (by simp) [(0, .agg (sCells k f b l w c).toArray)] (args_of (by simp)) ?_
  refine go_Cd ?_
  refine sl_box rfl rfl rfl ?_; intro g1
  refine sl_alloc rfl rfl rfl ?_; intro g2
  refine go_Cd ?_
  refine sl_pu (pu_build (v := .agg (cCells (1 + k % 5) (1 + f % 2) 0 0 0 0).toArray) rfl (fun W => by kernel_rfl)) rfl ?_
  refine sl_alloc rfl rfl rfl ?_; intro g3
  refine go_Cd ?_
  ((refine sq_region (by kernel_rfl) (by kernel_rfl) ?_; (repeat refine rq_Cd ?_); refine sq_end ?_))
  refine go_Cd ?_
  have hkd : 1 ≤ 1 + k % 5 ∧ 1 + k % 5 ≤ 5 := by omega
  unfold sC
  generalize 1 + k % 5 = kd at hkd ⊢
  have hmw : 0 ≤ w % (1 + l % 5) ∧ w % (1 + l % 5) ≤ 4 := ⟨Int.emod_nonneg _ (by omega), by have := Int.emod_lt_of_pos w (show 0 < 1 + l % 5 by omega); omega⟩
  by_cases h2 : kd = 2
  · subst h2
    rw [show sBt 2 b = 1 + b % 4 by simp [sBt], show sLn 2 l = 0 by simp [sLn], show sWt 2 l w = 0 by simp [sWt], show sCh 2 c = 0 by simp [sCh]]
    refine go_Cd ?_
    exact se_ret_c () trivial rfl rfl (by exact at_) rfl rfl rfl rfl (by exact sub_)
  by_cases h3 : kd = 3
  · subst h3
    rw [show sBt 3 b = 1 + b % 4 by simp [sBt], show sLn 3 l = 1 + (1 + l % 5) % 3 by simp [sLn], show sWt 3 l w = 0 by simp [sWt], show sCh 3 c = 1 + c % 4 by simp [sCh]]
    refine go_Cd ?_
    refine sd_drawn (fun W => AllP W [blk g1 36 (sCells k f b l w c)]) (fun _ => true) (by kernel_rfl) 15 rfl ?_
    refine sd_yes2 0 rfl (by exact gd_) (by kernel_rfl) (by kernel_rfl) (by exact nop_) (PuI.all (by exact pv_Cd)) rfl (fun w hw => all_ hw) ?_
    refine sd_yes2 1 rfl (by exact gd_) (by kernel_rfl) (by kernel_rfl) (by exact nop_) (PuI.all (by exact pv_Cd)) rfl (fun w hw => all_ hw) ?_
    refine sd_yes2 2 rfl (by exact gd_) (by kernel_rfl) (by kernel_rfl) (by exact nop_) (PuI.all (by exact pv_Cd)) rfl (fun w hw => all_ hw) ?_
    refine sd_yes2 3 rfl (by exact gd_) (by kernel_rfl) (by kernel_rfl) (by exact nop_) (PuI.all (by exact pv_Cd)) rfl (fun w hw => all_ hw) ?_
    refine sd_yes2 4 rfl (by exact gd_) (by kernel_rfl) (by kernel_rfl) (by exact nop_) (PuI.all (by exact pv_Cd)) rfl (fun w hw => all_ hw) ?_
    refine sd_yes2 5 rfl (by exact gd_) (by kernel_rfl) (by kernel_rfl) (by exact nop_) (PuI.all (by exact pv_Cd)) rfl (fun w hw => all_ hw) ?_
    refine sd_yes2 6 rfl (by exact gd_) (by kernel_rfl) (by kernel_rfl) (by exact nop_) (PuI.all (by exact pv_Cd)) rfl (fun w hw => all_ hw) ?_
    refine sd_yes2 7 rfl (by exact gd_) (by kernel_rfl) (by kernel_rfl) (by exact nop_) (PuI.all (by exact pv_Cd)) rfl (fun w hw => all_ hw) ?_
    refine sd_yes2 8 rfl (by exact gd_) (by kernel_rfl) (by kernel_rfl) (by exact nop_) (PuI.all (by exact pv_Cd)) rfl (fun w hw => all_ hw) ?_
    refine sd_yes2 9 rfl (by exact gd_) (by kernel_rfl) (by kernel_rfl) (by exact nop_) (PuI.all (by exact pv_Cd)) rfl (fun w hw => all_ hw) ?_
    refine sd_one 10 (by kernel_rfl) (sa_sl 10 rfl ?_)
    refine sl_store rfl (by exact pick_) rfl rfl (by kernel_rfl) (by exact set_Cd) ?_
    refine sl_nil ?_
    refine se_sd (fun _ w hw => all_ hw) ?_
    refine sd_yes2 11 rfl (by exact gd_) (by kernel_rfl) (by kernel_rfl) (by exact nop_) (PuI.all (by exact pv_Cd)) rfl (fun w hw => all_ hw) ?_
    refine sd_one 12 (by kernel_rfl) (sa_sl 12 rfl ?_)
    refine sl_store rfl (by exact pick_) rfl rfl (by kernel_rfl) (by exact set_Cd) ?_
    refine sl_nil ?_
    refine se_sd (fun _ w hw => all_ hw) ?_
    refine sd_yes2 13 rfl (by exact gd_) (by kernel_rfl) (by kernel_rfl) (by exact nop_) (PuI.all (by exact pv_Cd)) rfl (fun w hw => all_ hw) ?_
    refine sd_one 14 (by kernel_rfl) (sa_sl 14 rfl ?_)
    refine sl_store rfl (by exact pick_) rfl rfl (by kernel_rfl) (by exact set_Cd) ?_
    refine sl_nil ?_
    refine se_sd (fun _ w hw => all_ hw) ?_
    refine sd_done (by kernel_rfl) ?_
    refine go_Cd ?_
    exact se_ret_c () trivial rfl rfl (by exact at_) rfl rfl rfl rfl (by exact sub_)
  by_cases h4 : kd = 4
  · subst h4
    rw [show sBt 4 b = 0 by simp [sBt], show sLn 4 l = 1 + l % 5 by simp [sLn], show sWt 4 l w = 0 by simp [sWt], show sCh 4 c = 1 + c % 4 by simp [sCh]]
    refine go_Cd ?_
    refine sd_drawn (fun W => AllP W [blk g1 36 (sCells k f b l w c)]) (fun _ => true) (by kernel_rfl) 10 rfl ?_
    refine sd_yes2 0 rfl (by exact gd_) (by kernel_rfl) (by kernel_rfl) (by exact nop_) (PuI.all (by exact pv_Cd)) rfl (fun w hw => all_ hw) ?_
    refine sd_yes2 1 rfl (by exact gd_) (by kernel_rfl) (by kernel_rfl) (by exact nop_) (PuI.all (by exact pv_Cd)) rfl (fun w hw => all_ hw) ?_
    refine sd_yes2 2 rfl (by exact gd_) (by kernel_rfl) (by kernel_rfl) (by exact nop_) (PuI.all (by exact pv_Cd)) rfl (fun w hw => all_ hw) ?_
    refine sd_yes2 3 rfl (by exact gd_) (by kernel_rfl) (by kernel_rfl) (by exact nop_) (PuI.all (by exact pv_Cd)) rfl (fun w hw => all_ hw) ?_
    refine sd_yes2 4 rfl (by exact gd_) (by kernel_rfl) (by kernel_rfl) (by exact nop_) (PuI.all (by exact pv_Cd)) rfl (fun w hw => all_ hw) ?_
    refine sd_yes2 5 rfl (by exact gd_) (by kernel_rfl) (by kernel_rfl) (by exact nop_) (PuI.all (by exact pv_Cd)) rfl (fun w hw => all_ hw) ?_
    refine sd_yes2 6 rfl (by exact gd_) (by kernel_rfl) (by kernel_rfl) (by exact nop_) (PuI.all (by exact pv_Cd)) rfl (fun w hw => all_ hw) ?_
    refine sd_one 7 (by kernel_rfl) (sa_sl 7 rfl ?_)
    refine sl_store rfl (by exact pick_) rfl rfl (by kernel_rfl) (by exact set_Cd) ?_
    refine sl_nil ?_
    refine se_sd (fun _ w hw => all_ hw) ?_
    refine sd_yes2 8 rfl (by exact gd_) (by kernel_rfl) (by kernel_rfl) (by exact nop_) (PuI.all (by exact pv_Cd)) rfl (fun w hw => all_ hw) ?_
    refine sd_one 9 (by kernel_rfl) (sa_sl 9 rfl ?_)
    refine sl_store rfl (by exact pick_) rfl rfl (by kernel_rfl) (by exact set_Cd) ?_
    refine sl_nil ?_
    refine se_sd (fun _ w hw => all_ hw) ?_
    refine sd_done (by kernel_rfl) ?_
    refine go_Cd ?_
    exact se_ret_c () trivial rfl rfl (by exact at_) rfl rfl rfl rfl (by exact sub_)
  by_cases h5 : kd = 5
  · subst h5
    rw [show sBt 5 b = 0 by simp [sBt], show sLn 5 l = 1 + l % 5 by simp [sLn], show sWt 5 l w = 1 + w % (1 + l % 5) by simp [sWt], show sCh 5 c = 1 + c % 4 by simp [sCh]]
    refine go_Cd ?_
    refine sd_drawn (fun W => AllP W [blk g1 36 (sCells k f b l w c)]) (fun _ => true) (by kernel_rfl) 10 rfl ?_
    refine sd_yes2 0 rfl (by exact gd_) (by kernel_rfl) (by kernel_rfl) (by exact nop_) (PuI.all (by exact pv_Cd)) rfl (fun w hw => all_ hw) ?_
    refine sd_yes2 1 rfl (by exact gd_) (by kernel_rfl) (by kernel_rfl) (by exact nop_) (PuI.all (by exact pv_Cd)) rfl (fun w hw => all_ hw) ?_
    refine sd_yes2 2 rfl (by exact gd_) (by kernel_rfl) (by kernel_rfl) (by exact nop_) (PuI.all (by exact pv_Cd)) rfl (fun w hw => all_ hw) ?_
    refine sd_yes2 3 rfl (by exact gd_) (by kernel_rfl) (by kernel_rfl) (by exact nop_) (PuI.all (by exact pv_Cd)) rfl (fun w hw => all_ hw) ?_
    refine sd_yes2 4 rfl (by exact gd_) (by kernel_rfl) (by kernel_rfl) (by exact nop_) (PuI.all (by exact pv_Cd)) rfl (fun w hw => all_ hw) ?_
    refine sd_yes2 5 rfl (by exact gd_) (by kernel_rfl) (by kernel_rfl) (by exact nop_) (PuI.all (by exact pv_Cd)) rfl (fun w hw => all_ hw) ?_
    refine sd_yes2 6 rfl (by exact gd_) (by kernel_rfl) (by kernel_rfl) (by exact nop_) (PuI.all (by exact pv_Cd)) rfl (fun w hw => all_ hw) ?_
    refine sd_one 7 (by kernel_rfl) (sa_sl 7 rfl ?_)
    refine sl_store rfl (by exact pick_) rfl rfl (by kernel_rfl) (by exact set_Cd) ?_
    refine sl_nil ?_
    refine se_sd (fun _ w hw => all_ hw) ?_
    refine sd_yes2 8 rfl (by exact gd_) (by kernel_rfl) (by kernel_rfl) (by exact nop_) (PuI.all (by exact pv_Cd)) rfl (fun w hw => all_ hw) ?_
    refine sd_one 9 (by kernel_rfl) (sa_sl 9 rfl ?_)
    refine sl_store rfl (by exact pick_) rfl rfl (by kernel_rfl) (by exact set_Cd) ?_
    refine sl_nil ?_
    refine se_sd (fun _ w hw => all_ hw) ?_
    refine sd_done (by kernel_rfl) ?_
    refine go_Cd ?_
    exact se_ret_c () trivial rfl rfl (by exact at_) rfl rfl rfl rfl (by exact sub_)
  · obtain rfl : kd = 1 := by omega
    rw [show sBt 1 b = 0 by simp [sBt], show sLn 1 l = 0 by simp [sLn], show sWt 1 l w = 0 by simp [sWt], show sCh 1 c = 0 by simp [sCh]]
    refine go_Cd ?_
    exact se_ret_c () trivial rfl rfl (by exact at_) rfl rfl rfl rfl (by exact sub_)
end Go.Proofs.YtocaabnbmcpjmaaGreatDoor
/- The small tasks. -/
namespace Go.Proofs.YtocaabnbmcpjmaaGreatDoor
open Go.RowKit
attribute [local irreducible] Go.Calls Go.Exit.then Go.Exit.inBlock Go.bodyPost Go.Code.wp Go.wpList
def tagS (m : Int) : ByteArray := if m = 0 then ⟨#[]⟩ else if m = 1 then ⟨#[116]⟩ else ⟨#[116, 97, 108, 108, 121]⟩
def tagL : List Value := [.string ⟨#[]⟩, .string ⟨#[116]⟩, .string ⟨#[116, 97, 108, 108, 121]⟩]
theorem tag_nth {x : Int} (h : 0 ≤ x ∧ x ≤ 255) : nth tagL ((x % 3).toNat * 1) = some (.string (tagS (x % 3))) := by
  rcases (show x % 3 = 0 ∨ x % 3 = 1 ∨ x % 3 = 2 by omega) with e | e | e <;> rw [e] <;> rfl
/-- A small task's numbers. -/
structure Sk where
  k : Int
  f : Int
  b : Int
  l : Int
  w : Int
  c : Int
  p : Int
  t : Int
  hk : 0 ≤ k ∧ k ≤ 255
  hf : 0 ≤ f ∧ f ≤ 255
  hb : 0 ≤ b ∧ b ≤ 255
  hl : 0 ≤ l ∧ l ≤ 255
  hw : 0 ≤ w ∧ w ≤ 255
  hc : 0 ≤ c ∧ c ≤ 255
  hp : 0 ≤ p ∧ p ≤ 255
  ht : 0 ≤ t ∧ t ≤ 255
def Sk.cells (s : Sk) : List Value := sCells s.k s.f s.b s.l s.w s.c ++ [.int .u8 s.p, .int .u8 s.t]
/-- Its task. -/
def Sk.tc (s : Sk) : List Value := sC s.k s.f s.b s.l s.w s.c ++ [.int .i64 (1 + s.p % 3), .string (tagS (s.t % 3))]
theorem Sk.tc_one (s : Sk) : ∀ v ∈ s.tc, v.oneCell' = true := by
  intro v hv
  simp only [Sk.tc, sC, cCells, List.cons_append, List.nil_append, List.mem_cons, List.not_mem_nil, or_false] at hv
  rcases hv with rfl | rfl | rfl | rfl | rfl | rfl | rfl | rfl <;> rfl
theorem nth_Ce {φ : Prop} (h : φ := by (first | rfl | rfl)) : φ := h
theorem mid_Ce {φ : Prop} (h : φ := by (first | first | exact Mid.head | exact Mid.all | exact Mid.all | exact Mid.head)) : φ := h
theorem sz_Ce {φ : Prop} (h : φ := by (first | rfl | (rfl; first | done | fail))) : φ := h
theorem one_Ce {φ : Prop} (h : φ := by (first | assumption | exact one_bytes _ | (simp only [List.mem_cons, List.not_mem_nil, or_false, forall_eq_or_imp, forall_eq]; decide) | exact one_bytes _ | (intro v hv; (repeat (rcases List.mem_cons.1 hv with rfl | hv; rfl)); cases hv))) : φ := h
theorem set_Ce {φ : Prop} (h : φ := by (first | (fail) | ((repeat (first | exact SetAt.here | apply SetAt.there)); first | done | fail))) : φ := h
theorem cl_Ce {φ : Prop} (h : φ := by first | rfl | exact .t | exact .f | exact .t (by omega) | exact .f (by omega) | exact .u | exact .i (by (first | exact .t (by omega) | exact .f (by omega) | exact .u | exact .i (by omega) | exact .v (by omega) | exact .b (by omega) | exact .w | rfl | omega)) | exact .v (by omega) | exact .b (by omega) | exact .q (by omega) | exact .w | exact .b (by exact at_) rfl (by exact nth_Ce) | exact .w (by exact at_) rfl rfl (by exact sz_Ce) | exact .s (by exact at_) (by exact mid_Ce) rfl rfl (by exact sz_Ce) | exact .z rfl rfl ⟨by kernel_rfl⟩ | exact .b rfl rfl ⟨by kernel_rfl⟩ | exact .a rfl rfl ⟨by kernel_rfl⟩ | exact .o rfl | exact .s | exact .n | exact .p rfl | exact .q rfl | exact .c rfl | exact .d rfl | exact .n rfl rfl (by omega) | exact .a rfl rfl (by omega) | exact .p rfl rfl (by omega) (by omega) | exact .y rfl rfl (by omega) (by omega) | exact .o (by exact at_) (by omega) rfl (by exact nth_Ce) | exact .m (by exact at_) (by omega) (by exact mid_Ce) rfl rfl (by exact sz_Ce) | exact .mlen (by exact at_) rfl | exact .t (by exact at_) rfl rfl (by first | exact True.intro | rfl) (by assumption) | exact .f (by exact at_) rfl rfl (by first | exact True.intro | rfl) (by assumption) rfl | exact .t1 (by exact at_) rfl rfl (by first | exact True.intro | rfl) (by assumption) | exact .f1 (by exact at_) rfl rfl (by first | exact True.intro | rfl) (by assumption) rfl | exact .tk (by exact at_) rfl (by assumption) (by assumption) | exact .fk (by exact at_) rfl (by assumption) (by assumption) rfl | exact .tk1 (by exact at_) rfl (by assumption) (by assumption) | exact .fk1 (by exact at_) rfl (by assumption) (by assumption) rfl | exact .r rfl rfl (by omega) (by omega) (by exact nth_Ce) rfl | exact .s rfl (by omega) (by assumption) | exact at_ | assumption | exact .r rfl rfl | exact .h rfl rfl rfl (by omega) | exact .l rfl rfl rfl (by omega) (by omega) | exact .g rfl rfl rfl rfl (by omega) (by omega) | exact .h rfl rfl (toN_ (by omega)) (by omega) | exact .l rfl rfl (toN_ (by omega)) (by omega) (by omega) | exact .g rfl rfl (toN_ (by omega)) (toN_ (by omega)) (by omega) (by omega) | exact .o (by decide) | exact .f (by decide) | exact .n (by omega) (by first | decide | (show _ ≤ ((64 : Nat) : Int); omega)) | (constructor; (repeat (first | exact .t (by omega) | exact .f (by omega) | exact .u | exact .i (by omega) | exact .v (by omega) | exact .b (by omega) | exact .w | rfl | omega)); first | done | fail) | omega | (show _ ≤ ((64 : Nat) : Int); omega)) : φ := h
theorem pv_Ce {φ : Prop} (h : φ := by constructor; (repeat exact cl_Ce); first | done | fail) : φ := h
theorem su_Ce {φ ψ : Prop} (k : ψ) (h : Hide ψ → φ := by (intro k; (first | refine sl_pu (PuI.sep (by exact pv_Ce)) rfl ?_ | refine sl_yes rfl rfl ?_ | refine sl_no rfl rfl rfl ?_ | refine sl_off rfl rfl rfl ?_ | (fail)); exact k.out)) : φ := h ⟨k⟩
theorem sto_Ce {φ ψ : Prop} (k : ψ) (h : Hide ψ → φ := by (intro k; (first | refine sl_store rfl (by exact pick_) rfl rfl (by kernel_rfl) (by exact set_Ce) ?_ | refine sl_store_whole rfl (by exact pick_) rfl (by exact sz_Ce) (by exact sz_Ce) (by exact one_Ce) ?_); exact k.out)) : φ := h ⟨k⟩
theorem go_Ce {φ ψ : Prop} (k : ψ) (h : Hide ψ → φ := by (intro k; (repeat (first | refine su_Ce ?_ | refine so_ ?_ | refine sto_Ce ?_)); exact k.out)) : φ := h ⟨k⟩
set_option maxRecDepth 100000 in
set_option maxHeartbeats 8000000 in
theorem stask_ok {K : List Fa} (s : Sk) :
    Fn Tryz.prog 20 #[.agg s.cells.toArray] K (Ret (fun _ : Unit => True) (fun _ => .agg s.tc.toArray) (fun _ => K)) := by
  refine fn_enter Tryz.func20 rfl _ Tryz.ntmps20 (by simp) [(0, .agg s.cells.toArray)] (args_of (by simp)) ?_
  have h1 := s.hp
  have h2 := s.ht
  refine go_Ce ?_
  refine sl_box rfl rfl rfl ?_; intro g1
  refine sl_alloc rfl rfl rfl ?_; intro g2
  refine go_Ce ?_
  refine sd_drawn (fun W => AllP W [blk g1 38 s.cells]) (fun _ => true) (by kernel_rfl) 16 rfl ?_
  refine sd_yes2 0 rfl (by exact gd_) (by kernel_rfl) (by kernel_rfl) (by exact nop_) (PuI.all (by exact pv_Ce)) rfl (fun w hw => all_ hw) ?_
  refine sd_yes2 1 rfl (by exact gd_) (by kernel_rfl) (by kernel_rfl) (by exact nop_) (PuI.all (by exact pv_Ce)) rfl (fun w hw => all_ hw) ?_
  refine sd_yes2 3 rfl (by exact gd_) (by kernel_rfl) (by kernel_rfl) (by exact nop_) (PuI.all (by exact pv_Ce)) rfl (fun w hw => all_ hw) ?_
  refine sd_yes2 4 rfl (by exact gd_) (by kernel_rfl) (by kernel_rfl) (by exact nop_) (PuI.all (by exact pv_Ce)) rfl (fun w hw => all_ hw) ?_
  refine sd_yes2 5 rfl (by exact gd_) (by kernel_rfl) (by kernel_rfl) (by exact nop_) (PuI.all (by exact pv_Ce)) rfl (fun w hw => all_ hw) ?_
  refine sd_yes2 6 rfl (by exact gd_) (by kernel_rfl) (by kernel_rfl) (by exact nop_) (PuI.all (by exact pv_Ce)) rfl (fun w hw => all_ hw) ?_
  refine sd_yes2 7 rfl (by exact gd_) (by kernel_rfl) (by kernel_rfl) (by exact nop_) (PuI.all (by exact pv_Ce)) rfl (fun w hw => all_ hw) ?_
  refine sd_yes2 9 rfl (by exact gd_) (by kernel_rfl) (by kernel_rfl) (by exact nop_) (PuI.all (by exact pv_Ce)) rfl (fun w hw => all_ hw) ?_
  refine sd_yes2 10 rfl (by exact gd_) (by kernel_rfl) (by kernel_rfl) (by exact nop_) (PuI.all (by exact pv_Ce)) rfl (fun w hw => all_ hw) ?_
  refine sd_yes2 11 rfl (by exact gd_) (by kernel_rfl) (by kernel_rfl) (by exact nop_) (PuI.all (by exact pv_Ce)) rfl (fun w hw => all_ hw) ?_
  refine sd_two 2 8 (by kernel_rfl) (sa_sl 2 rfl ?_) (sa_sl 8 rfl ?_)
  · refine sl_call rfl rfl (by kernel_rfl) rfl (by exact sub_) (scirc_ok s.hk s.hf s.hb s.hl s.hw s.hc) ?_
    rintro _ -
    refine sl_nil ?_
    refine se_sd (fun _ w hw => all_ hw) ?_
    refine sd_one 8 (by kernel_rfl) (sa_sl 8 rfl ?_)
    refine sl_build (size := 1) (e := 9) (cells := tagL) rfl (fun W => by kernel_rfl) rfl (by decide) rfl ?_
    intro gb
    refine sl_nil ?_
    refine se_sd (fun _ w hw => all_ hw) ?_
    refine sd_yes2 12 rfl (by exact gd_) (by kernel_rfl) (by kernel_rfl) (by exact nop_) (PuI.all (by exact pv_Ce)) rfl (fun w hw => all_ hw) ?_
    refine sd_one 13 (by kernel_rfl) (sa_sl 13 rfl ?_)
    refine sl_pu (pu_ldr (size := 1) (m := 3) (Vw.of_own (e := 9) (A := some ⟨gb, 0, none⟩) (c := 3) (by exact at_)) (by omega) rfl rfl (tag_nth s.ht)) rfl ?_
    refine sl_nil ?_
    refine se_sd (fun _ w hw => all_ hw) ?_
    refine sd_yes2 14 rfl (by exact gd_) (by kernel_rfl) (by kernel_rfl) (by exact nop_) (pu_build (v := .agg s.tc.toArray) rfl (fun W => by kernel_rfl)) rfl (fun w hw => all_ hw) ?_
    refine sd_one 15 (by kernel_rfl) (sa_sl 15 rfl ?_)
    refine sl_store_whole rfl (by exact pick_) rfl (by rfl) (by rfl) s.tc_one ?_
    refine sl_nil ?_
    refine se_sd (fun _ w hw => all_ hw) ?_
    refine sd_done (by kernel_rfl) ?_
    refine go_Ce ?_
    exact se_ret_c () trivial rfl rfl (by exact at_) rfl rfl rfl rfl (by exact sub_)
  · refine sl_build (size := 1) (e := 9) (cells := tagL) rfl (fun W => by kernel_rfl) rfl (by decide) rfl ?_
    intro gb
    refine sl_nil ?_
    refine se_sd (fun _ w hw => all_ hw) ?_
    refine sd_yes2 12 rfl (by exact gd_) (by kernel_rfl) (by kernel_rfl) (by exact nop_) (PuI.all (by exact pv_Ce)) rfl (fun w hw => all_ hw) ?_
    refine sd_two 2 13 (by kernel_rfl) (sa_sl 2 rfl ?_) (sa_sl 13 rfl ?_)
    · refine sl_call rfl rfl (by kernel_rfl) rfl (by exact sub_) (scirc_ok s.hk s.hf s.hb s.hl s.hw s.hc) ?_
      rintro _ -
      refine sl_nil ?_
      refine se_sd (fun _ w hw => all_ hw) ?_
      refine sd_one 13 (by kernel_rfl) (sa_sl 13 rfl ?_)
      refine sl_pu (pu_ldr (size := 1) (m := 3) (Vw.of_own (e := 9) (A := some ⟨gb, 0, none⟩) (c := 3) (by exact at_)) (by omega) rfl rfl (tag_nth s.ht)) rfl ?_
      refine sl_nil ?_
      refine se_sd (fun _ w hw => all_ hw) ?_
      refine sd_yes2 14 rfl (by exact gd_) (by kernel_rfl) (by kernel_rfl) (by exact nop_) (pu_build (v := .agg s.tc.toArray) rfl (fun W => by kernel_rfl)) rfl (fun w hw => all_ hw) ?_
      refine sd_one 15 (by kernel_rfl) (sa_sl 15 rfl ?_)
      refine sl_store_whole rfl (by exact pick_) rfl (by rfl) (by rfl) s.tc_one ?_
      refine sl_nil ?_
      refine se_sd (fun _ w hw => all_ hw) ?_
      refine sd_done (by kernel_rfl) ?_
      refine go_Ce ?_
      exact se_ret_c () trivial rfl rfl (by exact at_) rfl rfl rfl rfl (by exact sub_)
    · refine sl_pu (pu_ldr (size := 1) (m := 3) (Vw.of_own (e := 9) (A := some ⟨gb, 0, none⟩) (c := 3) (by exact at_)) (by omega) rfl rfl (tag_nth s.ht)) rfl ?_
      refine sl_nil ?_
      refine se_sd (fun _ w hw => all_ hw) ?_
      refine sd_one 2 (by kernel_rfl) (sa_sl 2 rfl ?_)
      refine sl_call rfl rfl (by kernel_rfl) rfl (by exact sub_) (scirc_ok s.hk s.hf s.hb s.hl s.hw s.hc) ?_
      rintro _ -
      refine sl_nil ?_
      refine se_sd (fun _ w hw => all_ hw) ?_
      refine sd_yes2 14 rfl (by exact gd_) (by kernel_rfl) (by kernel_rfl) (by exact nop_) (pu_build (v := .agg s.tc.toArray) rfl (fun W => by kernel_rfl)) rfl (fun w hw => all_ hw) ?_
      refine sd_one 15 (by kernel_rfl) (sa_sl 15 rfl ?_)
      refine sl_store_whole rfl (by exact pick_) rfl (by rfl) (by rfl) s.tc_one ?_
      refine sl_nil ?_
      refine se_sd (fun _ w hw => all_ hw) ?_
      refine sd_done (by kernel_rfl) ?_
      refine go_Ce ?_
      exact se_ret_c () trivial rfl rfl (by exact at_) rfl rfl rfl rfl (by exact sub_)
end Go.Proofs.YtocaabnbmcpjmaaGreatDoor
/- The small tasks may be; chapter 19's fixed fact. -/
namespace Go.Proofs.YtocaabnbmcpjmaaGreatDoor
open Go.RowKit Go.MapKept
attribute [local irreducible] Go.Calls Go.Exit.then Go.Exit.inBlock Go.bodyPost Go.Code.wp Go.wpList
attribute [local irreducible] hashL ofId
def Sk.ta (s : Sk) : Ta := ⟨1 + s.k % 5, 1 + s.f % 2, sBt (1 + s.k % 5) s.b, sLn (1 + s.k % 5) s.l, sWt (1 + s.k % 5) s.l s.w, sCh (1 + s.k % 5) s.c, 1 + s.p % 3, tagS (s.t % 3)⟩
theorem Sk.ta_c (s : Sk) : s.ta.c = s.tc := rfl
theorem tagS_le {m : Int} (h : m = 0 ∨ m = 1 ∨ m = 2) : ((tagS m).size : Int) ≤ 32 := by
  rcases h with rfl | rfl | rfl <;> decide
theorem small_ci {kd fl b l w c : Int} (hk : 1 ≤ kd ∧ kd ≤ 5) (hf : fl = 1 ∨ fl = 2) (hb : 0 ≤ b) (hl : 0 ≤ l) (hw : 0 ≤ w) (hc : 0 ≤ c) : ciErr kd fl (sBt kd b) (sLn kd l) (sWt kd l w) (sCh kd c) = 0 := by
  have h1 : 1 ≤ 1 + b % 4 ∧ 1 + b % 4 ≤ 4 := by omega
  have h2 : 1 ≤ 1 + (1 + l % 5) % 3 ∧ 1 + (1 + l % 5) % 3 ≤ 3 := by omega
  have h3 : 1 ≤ 1 + l % 5 ∧ 1 + l % 5 ≤ 5 := by omega
  have h4 : 1 ≤ 1 + w % (1 + l % 5) ∧ 1 + w % (1 + l % 5) ≤ 1 + l % 5 := ⟨by have := Int.emod_nonneg w (show 1 + l % 5 ≠ 0 by omega); omega, by have := Int.emod_lt_of_pos w (show 0 < 1 + l % 5 by omega); omega⟩
  have h5 : 1 ≤ 1 + c % 4 ∧ 1 + c % 4 ≤ 4 := by omega
  have hin : ∀ {x ch : Int}, 0 ≤ x → x ≤ 100 → 1 ≤ ch → ch ≤ 4 → ¬ 511 < (if 0 < ch then (x + ch - 1) / ch else 0) := by
    intro x ch a1 a2 a3 a4
    rw [if_pos (by omega)]
    have := Int.ediv_le_self ch (show 0 ≤ x + ch - 1 by omega)
    omega
  unfold ciErr
  rw [if_neg (by simp [hf]), if_neg (by omega)]
  rcases (show kd = 1 ∨ kd = 2 ∨ kd = 3 ∨ kd = 4 ∨ kd = 5 by omega) with rfl | rfl | rfl | rfl | rfl
  · simp [sBt, sLn, sWt, sCh, ciIn, wi, uB, uL, uW, callsN]
  · have e : ciIn 2 (1 + b % 4) 0 0 0 = true := by simp [ciIn, wi, uB, uL, uW]; omega
    simp only [sBt, sLn, sWt, sCh]
    simp [e, callsN]
    omega
  · have hm := mul_le (a := 1 + (1 + l % 5) % 3) (b := 1 + b % 4) (m := 3) (n := 4) (by omega) h2.2 (by omega) h1.2
    have e : ciIn 3 (1 + b % 4) (1 + (1 + l % 5) % 3) 0 (1 + c % 4) = true := by simp [ciIn, wi, uB, uL, uW]; omega
    have := hin (x := (1 + (1 + l % 5) % 3) * (1 + b % 4)) hm.1 (by omega) h5.1 h5.2
    rw [show sBt 3 b = 1 + b % 4 by simp [sBt], show sLn 3 l = 1 + (1 + l % 5) % 3 by simp [sLn], show sWt 3 l w = 0 by simp [sWt], show sCh 3 c = 1 + c % 4 by simp [sCh], if_neg (by simp [e]), show callsN 3 (1 + b % 4) (1 + (1 + l % 5) % 3) 0 (1 + c % 4) = if 0 < 1 + c % 4 then ((1 + (1 + l % 5) % 3) * (1 + b % 4) + (1 + c % 4) - 1) / (1 + c % 4) else 0 by simp [callsN, inN], if_neg this]
  · have e : ciIn 4 0 (1 + l % 5) 0 (1 + c % 4) = true := by simp [ciIn, wi, uB, uL, uW]; omega
    have := hin (x := (1 + l % 5)) (by omega) (by omega) h5.1 h5.2
    rw [show sBt 4 b = 0 by simp [sBt], show sLn 4 l = 1 + l % 5 by simp [sLn], show sWt 4 l w = 0 by simp [sWt], show sCh 4 c = 1 + c % 4 by simp [sCh], if_neg (by simp [e]), show callsN 4 0 (1 + l % 5) 0 (1 + c % 4) = if 0 < 1 + c % 4 then ((1 + l % 5) + (1 + c % 4) - 1) / (1 + c % 4) else 0 by simp [callsN, inN], if_neg this]
  · have hbl := bl_le (wt := 1 + w % (1 + l % 5)) (by omega) (by omega)
    rw [hbl.2] at hbl
    have e : ciIn 5 0 (1 + l % 5) (1 + w % (1 + l % 5)) (1 + c % 4) = true := by simp [ciIn, wi, uB, uL, uW]; omega
    have := hin (x := (1 + l % 5 + Lib.bitLen (1 + w % (1 + l % 5)).toNat)) (by omega) (by omega) h5.1 h5.2
    rw [show sBt 5 b = 0 by simp [sBt], show sLn 5 l = 1 + l % 5 by simp [sLn], show sWt 5 l w = 1 + w % (1 + l % 5) by simp [sWt], show sCh 5 c = 1 + c % 4 by simp [sCh], if_neg (by simp [e]), show callsN 5 0 (1 + l % 5) (1 + w % (1 + l % 5)) (1 + c % 4) = if 0 < 1 + c % 4 then ((1 + l % 5 + Lib.bitLen (1 + w % (1 + l % 5)).toNat) + (1 + c % 4) - 1) / (1 + c % 4) else 0 by simp [callsN, inN], if_neg this]
theorem Sk.ta_ok (s : Sk) : s.ta.err = 0 := by
  have h1 := s.hk
  have h2 := s.hf
  have h3 := s.hp
  have h4 := s.ht
  have h := small_ci (kd := 1 + s.k % 5) (fl := 1 + s.f % 2) (b := s.b) (l := s.l) (w := s.w) (c := s.c) (by omega) (by omega) s.hb.1 s.hl.1 s.hw.1 s.hc.1
  have ht := tagS_le (m := s.t % 3) (by omega)
  show tErr (1 + s.k % 5) (1 + s.f % 2) (sBt (1 + s.k % 5) s.b) (sLn (1 + s.k % 5) s.l) (sWt (1 + s.k % 5) s.l s.w) (sCh (1 + s.k % 5) s.c) (1 + s.p % 3) (tagS (s.t % 3)) = 0
  unfold tErr
  rw [if_neg (by simp [h]), if_neg (by omega)]
/-- The task of noughts. -/
def s0 : Sk := ⟨0, 0, 0, 0, 0, 0, 0, 0, by decide, by decide, by decide, by decide, by decide, by decide, by decide, by decide⟩
def bid1 : Id := ⟨1 :: List.replicate 15 0, rfl, fun x hx => by
  rcases List.mem_cons.1 hx with h | h
  · subst h
    decide
  · rw [List.eq_of_mem_replicate h]
    decide⟩
end Go.Proofs.YtocaabnbmcpjmaaGreatDoor
/- Structs as they come in: ids, reports. -/
namespace Go.Proofs.YtocaabnbmcpjmaaGreatDoor
open Go.RowKit Go.ChangeShapes Go.WideShapes Go.Deep
section
variable {H : Type} {enc : TypeId × Value → H} {w : World} {base : Nat} {spare : Nat → Bool} {held : Bool} {fuel : Nat} {cs : List Value} {x : DataW H × List MemPlace}
end
end Go.Proofs.YtocaabnbmcpjmaaGreatDoor
/- Rules, small rules, tasks, small tasks, ids as they come in. (The openers are printed by wip/tools/gen_open.py.) -/
namespace Go.Proofs.YtocaabnbmcpjmaaGreatDoor
open Go.RowKit Go.ChangeShapes Go.WideShapes Go.Deep
section
variable {H : Type} {enc : TypeId × Value → H} {w : World} {base : Nat} {spare : Nat → Bool} {held : Bool} {fuel : Nat} {cs : List Value} {x : DataW H × List MemPlace}
theorem open_strv (h : DataW.trod enc Tryz.prog w base spare held fuel 9 cs = some x) : ∃ v : Value, cs = [v] ∧ ∃ s : ByteArray, v = .string s := by
  obtain ⟨s, rfl, _⟩ := DataW.trod_string Tryz.underlying9 h
  exact ⟨_, rfl, s, rfl⟩
theorem open_rules (h : DataW.trod enc Tryz.prog w base spare held fuel 30 cs = some x) : ∃ (z0 : Int) (z1 : Int) (z2 : Int), cs = [Value.int .u64 z0] ++ ([Value.int .i64 z1] ++ ([Value.int .i64 z2] ++ [])) ∧ (0 ≤ z0 ∧ z0 ≤ 18446744073709551615) ∧ (-9223372036854775808 ≤ z1 ∧ z1 ≤ 9223372036854775807) ∧ (-9223372036854775808 ≤ z2 ∧ z2 ≤ 9223372036854775807) := by
  obtain ⟨hl, m, hf⟩ := open_struct Tryz.underlying30 h
  have hl' : cs.length = 3 := hl.trans (by kernel_rfl)
  have n0 : Tryz.prog.cellsOf 28 = 1 := by kernel_rfl
  have n1 : Tryz.prog.cellsOf 3 = 1 := by kernel_rfl
  have n2 : Tryz.prog.cellsOf 3 = 1 := by kernel_rfl
  obtain ⟨y0, e0⟩ := hf 0 _ rfl
  have f0 : DataW.trod enc Tryz.prog w base spare held m 28 ((cs.drop 0).take (Tryz.prog.cellsOf 28)) = some y0 := e0
  rw [n0] at f0
  obtain ⟨y1, e1⟩ := hf 1 _ rfl
  have f1 : DataW.trod enc Tryz.prog w base spare held m 3 ((cs.drop 1).take (Tryz.prog.cellsOf 3)) = some y1 := e1
  rw [n1] at f1
  obtain ⟨y2, e2⟩ := hf 2 _ rfl
  have f2 : DataW.trod enc Tryz.prog w base spare held m 3 ((cs.drop 2).take (Tryz.prog.cellsOf 3)) = some y2 := e2
  rw [n2] at f2
  obtain ⟨z0, g0, _, u0⟩ := DataW.trod_int Tryz.underlying28 f0
  have b0 : 0 ≤ z0 ∧ z0 ≤ 18446744073709551615 := by simpa [Lit.wf, IntKind.min, IntKind.max, IntKind.signed, IntKind.bits] using u0
  obtain ⟨z1, g1, _, u1⟩ := DataW.trod_int Tryz.underlying3 f1
  have b1 : -9223372036854775808 ≤ z1 ∧ z1 ≤ 9223372036854775807 := by simpa [Lit.wf, IntKind.min, IntKind.max, IntKind.signed, IntKind.bits] using u1
  obtain ⟨z2, g2, _, u2⟩ := DataW.trod_int Tryz.underlying3 f2
  have b2 : -9223372036854775808 ≤ z2 ∧ z2 ≤ 9223372036854775807 := by simpa [Lit.wf, IntKind.min, IntKind.max, IntKind.signed, IntKind.bits] using u2
  have hp : cs = (cs.drop 0).take 1 ++ ((cs.drop 1).take 1 ++ ((cs.drop 2).take 1 ++ [])) := by
    rw [← piece_end hl', ← piece 2 1 3 rfl, ← piece 1 1 2 rfl, ← piece 0 1 1 rfl, List.drop_zero]
  rw [g0, g1, g2] at hp
  exact ⟨z0, z1, z2, hp, b0, b1, b2⟩
theorem open_circ (h : DataW.trod enc Tryz.prog w base spare held fuel 25 cs = some x) : ∃ (z0 : Int) (z1 : Int) (z2 : Int) (z3 : Int) (z4 : Int) (z5 : Int), cs = [Value.int .u8 z0] ++ ([Value.int .u8 z1] ++ ([Value.int .i64 z2] ++ ([Value.int .i64 z3] ++ ([Value.int .i64 z4] ++ ([Value.int .i64 z5] ++ []))))) ∧ (0 ≤ z0 ∧ z0 ≤ 255) ∧ (0 ≤ z1 ∧ z1 ≤ 255) ∧ (-9223372036854775808 ≤ z2 ∧ z2 ≤ 9223372036854775807) ∧ (-9223372036854775808 ≤ z3 ∧ z3 ≤ 9223372036854775807) ∧ (-9223372036854775808 ≤ z4 ∧ z4 ≤ 9223372036854775807) ∧ (-9223372036854775808 ≤ z5 ∧ z5 ≤ 9223372036854775807) := by
  obtain ⟨hl, m, hf⟩ := open_struct Tryz.underlying25 h
  have hl' : cs.length = 6 := hl.trans (by kernel_rfl)
  have n0 : Tryz.prog.cellsOf 22 = 1 := by kernel_rfl
  have n1 : Tryz.prog.cellsOf 23 = 1 := by kernel_rfl
  have n2 : Tryz.prog.cellsOf 3 = 1 := by kernel_rfl
  have n3 : Tryz.prog.cellsOf 3 = 1 := by kernel_rfl
  have n4 : Tryz.prog.cellsOf 3 = 1 := by kernel_rfl
  have n5 : Tryz.prog.cellsOf 3 = 1 := by kernel_rfl
  obtain ⟨y0, e0⟩ := hf 0 _ rfl
  have f0 : DataW.trod enc Tryz.prog w base spare held m 22 ((cs.drop 0).take (Tryz.prog.cellsOf 22)) = some y0 := e0
  rw [n0] at f0
  obtain ⟨y1, e1⟩ := hf 1 _ rfl
  have f1 : DataW.trod enc Tryz.prog w base spare held m 23 ((cs.drop 1).take (Tryz.prog.cellsOf 23)) = some y1 := e1
  rw [n1] at f1
  obtain ⟨y2, e2⟩ := hf 2 _ rfl
  have f2 : DataW.trod enc Tryz.prog w base spare held m 3 ((cs.drop 2).take (Tryz.prog.cellsOf 3)) = some y2 := e2
  rw [n2] at f2
  obtain ⟨y3, e3⟩ := hf 3 _ rfl
  have f3 : DataW.trod enc Tryz.prog w base spare held m 3 ((cs.drop 3).take (Tryz.prog.cellsOf 3)) = some y3 := e3
  rw [n3] at f3
  obtain ⟨y4, e4⟩ := hf 4 _ rfl
  have f4 : DataW.trod enc Tryz.prog w base spare held m 3 ((cs.drop 4).take (Tryz.prog.cellsOf 3)) = some y4 := e4
  rw [n4] at f4
  obtain ⟨y5, e5⟩ := hf 5 _ rfl
  have f5 : DataW.trod enc Tryz.prog w base spare held m 3 ((cs.drop 5).take (Tryz.prog.cellsOf 3)) = some y5 := e5
  rw [n5] at f5
  obtain ⟨z0, g0, _, u0⟩ := DataW.trod_int Tryz.underlying22 f0
  have b0 : 0 ≤ z0 ∧ z0 ≤ 255 := by simpa [Lit.wf, IntKind.min, IntKind.max, IntKind.signed, IntKind.bits] using u0
  obtain ⟨z1, g1, _, u1⟩ := DataW.trod_int Tryz.underlying23 f1
  have b1 : 0 ≤ z1 ∧ z1 ≤ 255 := by simpa [Lit.wf, IntKind.min, IntKind.max, IntKind.signed, IntKind.bits] using u1
  obtain ⟨z2, g2, _, u2⟩ := DataW.trod_int Tryz.underlying3 f2
  have b2 : -9223372036854775808 ≤ z2 ∧ z2 ≤ 9223372036854775807 := by simpa [Lit.wf, IntKind.min, IntKind.max, IntKind.signed, IntKind.bits] using u2
  obtain ⟨z3, g3, _, u3⟩ := DataW.trod_int Tryz.underlying3 f3
  have b3 : -9223372036854775808 ≤ z3 ∧ z3 ≤ 9223372036854775807 := by simpa [Lit.wf, IntKind.min, IntKind.max, IntKind.signed, IntKind.bits] using u3
  obtain ⟨z4, g4, _, u4⟩ := DataW.trod_int Tryz.underlying3 f4
  have b4 : -9223372036854775808 ≤ z4 ∧ z4 ≤ 9223372036854775807 := by simpa [Lit.wf, IntKind.min, IntKind.max, IntKind.signed, IntKind.bits] using u4
  obtain ⟨z5, g5, _, u5⟩ := DataW.trod_int Tryz.underlying3 f5
  have b5 : -9223372036854775808 ≤ z5 ∧ z5 ≤ 9223372036854775807 := by simpa [Lit.wf, IntKind.min, IntKind.max, IntKind.signed, IntKind.bits] using u5
  have hp : cs = (cs.drop 0).take 1 ++ ((cs.drop 1).take 1 ++ ((cs.drop 2).take 1 ++ ((cs.drop 3).take 1 ++ ((cs.drop 4).take 1 ++ ((cs.drop 5).take 1 ++ []))))) := by
    rw [← piece_end hl', ← piece 5 1 6 rfl, ← piece 4 1 5 rfl, ← piece 3 1 4 rfl, ← piece 2 1 3 rfl, ← piece 1 1 2 rfl, ← piece 0 1 1 rfl, List.drop_zero]
  rw [g0, g1, g2, g3, g4, g5] at hp
  exact ⟨z0, z1, z2, z3, z4, z5, hp, b0, b1, b2, b3, b4, b5⟩
def CiP (cs : List Value) : Prop := ∃ k f b l w c : Int, cs = cCells k f b l w c
theorem open_circc (h : DataW.trod enc Tryz.prog w base spare held fuel 25 cs = some x) : ∃ z : List Value, cs = z ∧ CiP z := by
  obtain ⟨k, f, b, l, w, c, h1, _⟩ := open_circ h
  exact ⟨_, rfl, k, f, b, l, w, c, by rw [h1]; rfl⟩
theorem open_task0 (h : DataW.trod enc Tryz.prog w base spare held fuel 27 cs = some x) : ∃ (z0 : List Value) (z1 : Int) (z2 : Value), cs = z0 ++ ([Value.int .i64 z1] ++ ([z2] ++ [])) ∧ (CiP z0) ∧ (-9223372036854775808 ≤ z1 ∧ z1 ≤ 9223372036854775807) ∧ (∃ s : ByteArray, z2 = .string s) := by
  obtain ⟨hl, m, hf⟩ := open_struct Tryz.underlying27 h
  have hl' : cs.length = 8 := hl.trans (by kernel_rfl)
  have n0 : Tryz.prog.cellsOf 25 = 6 := by kernel_rfl
  have n1 : Tryz.prog.cellsOf 3 = 1 := by kernel_rfl
  have n2 : Tryz.prog.cellsOf 9 = 1 := by kernel_rfl
  obtain ⟨y0, e0⟩ := hf 0 _ rfl
  have f0 : DataW.trod enc Tryz.prog w base spare held m 25 ((cs.drop 0).take (Tryz.prog.cellsOf 25)) = some y0 := e0
  rw [n0] at f0
  obtain ⟨y1, e1⟩ := hf 1 _ rfl
  have f1 : DataW.trod enc Tryz.prog w base spare held m 3 ((cs.drop 6).take (Tryz.prog.cellsOf 3)) = some y1 := e1
  rw [n1] at f1
  obtain ⟨y2, e2⟩ := hf 2 _ rfl
  have f2 : DataW.trod enc Tryz.prog w base spare held m 9 ((cs.drop 7).take (Tryz.prog.cellsOf 9)) = some y2 := e2
  rw [n2] at f2
  obtain ⟨z0, g0, b0⟩ := open_circc f0
  obtain ⟨z1, g1, _, u1⟩ := DataW.trod_int Tryz.underlying3 f1
  have b1 : -9223372036854775808 ≤ z1 ∧ z1 ≤ 9223372036854775807 := by simpa [Lit.wf, IntKind.min, IntKind.max, IntKind.signed, IntKind.bits] using u1
  obtain ⟨z2, g2, b2⟩ := open_strv f2
  have hp : cs = (cs.drop 0).take 6 ++ ((cs.drop 6).take 1 ++ ((cs.drop 7).take 1 ++ [])) := by
    rw [← piece_end hl', ← piece 7 1 8 rfl, ← piece 6 1 7 rfl, ← piece 0 6 6 rfl, List.drop_zero]
  rw [g0, g1, g2] at hp
  exact ⟨z0, z1, z2, hp, b0, b1, b2⟩
/-- Small rules: three small numbers. -/
def sm19C (a b c : Int) : List Value := [.int .u8 a, .int .u8 b, .int .u8 c]
end
end Go.Proofs.YtocaabnbmcpjmaaGreatDoor
/- BucketStarts, BucketChecks: the walks. -/
namespace Go.Proofs.YtocaabnbmcpjmaaGreatDoor
open Go.RowKit Go.MapKept
attribute [local irreducible] Go.Calls Go.Exit.then Go.Exit.inBlock Go.bodyPost Go.Code.wp Go.wpList
attribute [local irreducible] hashL ofId
/-- Small rules' rules. -/
def smR (a b c : Int) : Rl := ⟨1 + a % 12, 1 + b % 4, 1 + b % 4 + c % 6⟩
theorem Rl.len (r : Rl) : r.c.length = 3 := rfl
theorem nth_Gk {φ : Prop} (h : φ := by (first | rfl | rfl)) : φ := h
theorem mid_Gk {φ : Prop} (h : φ := by (first | first | exact boC_mt | exact boC_mr | exact bkC_mid | exact Ta.mid _ | exact tc_mid | exact Mid.all | exact Mid.all | exact Mid.head)) : φ := h
theorem sz_Gk {φ : Prop} (h : φ := by (first | rfl | (rfl; first | done | fail))) : φ := h
theorem one_Gk {φ : Prop} (h : φ := by (first | assumption | exact first | exact Rl.one _ | exact Ta.one _ | exact one_bytes _ | (simp only [List.mem_cons, List.not_mem_nil, or_false, forall_eq_or_imp, forall_eq]; decide) | exact one_bytes _ | (intro v hv; (repeat (rcases List.mem_cons.1 hv with rfl | hv; rfl)); cases hv))) : φ := h
theorem set_Gk {φ : Prop} (h : φ := by (first | (fail) | ((repeat (first | exact SetAt.here | apply SetAt.there)); first | done | fail))) : φ := h
theorem cl_Gk {φ : Prop} (h : φ := by first | rfl | exact .t | exact .f | exact .t (by omega) | exact .f (by omega) | exact .u | exact .i (by (first | exact .t (by omega) | exact .f (by omega) | exact .u | exact .i (by omega) | exact .v (by omega) | exact .b (by omega) | exact .w | rfl | omega)) | exact .v (by omega) | exact .b (by omega) | exact .q (by omega) | exact .w | exact .b (by exact at_) rfl (by exact nth_Gk) | exact .w (by exact at_) rfl rfl (by exact sz_Gk) | exact .s (by exact at_) (by exact mid_Gk) rfl rfl (by exact sz_Gk) | exact .z rfl rfl ⟨by kernel_rfl⟩ | exact .b rfl rfl ⟨by kernel_rfl⟩ | exact .a rfl rfl ⟨by kernel_rfl⟩ | exact .o rfl | exact .s | exact .n | exact .p rfl | exact .q rfl | exact .c rfl | exact .d rfl | exact .n rfl rfl (by omega) | exact .a rfl rfl (by omega) | exact .p rfl rfl (by omega) (by omega) | exact .y rfl rfl (by omega) (by omega) | exact .o (by exact at_) (by omega) rfl (by exact nth_Gk) | exact .m (by exact at_) (by omega) (by exact mid_Gk) rfl rfl (by exact sz_Gk) | exact .mlen (by exact at_) rfl | exact .t (by exact at_) rfl rfl (by first | exact True.intro | rfl) (by assumption) | exact .f (by exact at_) rfl rfl (by first | exact True.intro | rfl) (by assumption) rfl | exact .t1 (by exact at_) rfl rfl (by first | exact True.intro | rfl) (by assumption) | exact .f1 (by exact at_) rfl rfl (by first | exact True.intro | rfl) (by assumption) rfl | exact .tk (by exact at_) rfl (by assumption) (by assumption) | exact .fk (by exact at_) rfl (by assumption) (by assumption) rfl | exact .tk1 (by exact at_) rfl (by assumption) (by assumption) | exact .fk1 (by exact at_) rfl (by assumption) (by assumption) rfl | exact .r rfl rfl (by omega) (by omega) (by exact nth_Gk) rfl | exact .s rfl (by omega) (by assumption) | exact at_ | assumption | exact .r rfl rfl | exact .h rfl rfl rfl (by omega) | exact .l rfl rfl rfl (by omega) (by omega) | exact .g rfl rfl rfl rfl (by omega) (by omega) | exact .h rfl rfl (toN_ (by omega)) (by omega) | exact .l rfl rfl (toN_ (by omega)) (by omega) (by omega) | exact .g rfl rfl (toN_ (by omega)) (toN_ (by omega)) (by omega) (by omega) | exact .o (by decide) | exact .f (by decide) | exact .n (by omega) (by first | decide | (show _ ≤ ((64 : Nat) : Int); omega)) | (constructor; (repeat (first | exact .t (by omega) | exact .f (by omega) | exact .u | exact .i (by omega) | exact .v (by omega) | exact .b (by omega) | exact .w | rfl | omega)); first | done | fail) | omega | (show _ ≤ ((64 : Nat) : Int); omega)) : φ := h
theorem pv_Gk {φ : Prop} (h : φ := by constructor; (repeat exact cl_Gk); first | done | fail) : φ := h
theorem su_Gk {φ ψ : Prop} (k : ψ) (h : Hide ψ → φ := by (intro k; (first | refine sl_pu (PuI.sep (by exact pv_Gk)) rfl ?_ | refine sl_yes rfl rfl ?_ | refine sl_no rfl rfl rfl ?_ | refine sl_off rfl rfl rfl ?_ | (fail)); exact k.out)) : φ := h ⟨k⟩
theorem sto_Gk {φ ψ : Prop} (k : ψ) (h : Hide ψ → φ := by (intro k; (first | refine sl_store rfl (by exact pick_) rfl rfl (by kernel_rfl) (by exact set_Gk) ?_ | refine sl_store_whole rfl (by exact pick_) rfl (by exact sz_Gk) (by exact sz_Gk) (by exact one_Gk) ?_); exact k.out)) : φ := h ⟨k⟩
theorem go_Gk {φ ψ : Prop} (k : ψ) (h : Hide ψ → φ := by (intro k; (repeat (first | refine su_Gk ?_ | refine so_ ?_ | refine sto_Gk ?_)); exact k.out)) : φ := h ⟨k⟩
set_option maxRecDepth 100000 in
theorem smrules_ok {K : List Fa} {a b c : Int} (ha : 0 ≤ a ∧ a ≤ 255) (hb : 0 ≤ b ∧ b ≤ 255) (hc : 0 ≤ c ∧ c ≤ 255) :
    Fn Tryz.prog 21 #[.agg (sm19C a b c).toArray] K (Ret (fun _ : Unit => True) (fun _ => .agg (smR a b c).c.toArray) (fun _ => K)) := by
  refine fn_enter Tryz.func21 rfl _ Tryz.ntmps21 (by simp) [(0, .agg (sm19C a b c).toArray)] (args_of (by simp)) ?_
  refine go_Gk ?_
  refine sl_box rfl rfl rfl ?_; intro g1
  refine go_Gk ?_
  refine sl_alloc rfl rfl rfl ?_; intro g2
  refine go_Gk ?_
  refine sl_pu (pu_build (v := .agg #[.int .u64 (1 + a % 12), .int .i64 (1 + b % 4), .int .i64 0]) rfl (fun W => by kernel_rfl)) rfl ?_
  refine go_Gk ?_
  refine sl_alloc rfl rfl rfl ?_; intro g3
  refine go_Gk ?_
  exact se_ret_c () trivial rfl rfl (by exact at_) rfl rfl rfl rfl (by exact sub_)
theorem Ta.len (t : Ta) : t.c.length = 8 := rfl
end Go.Proofs.YtocaabnbmcpjmaaGreatDoor
