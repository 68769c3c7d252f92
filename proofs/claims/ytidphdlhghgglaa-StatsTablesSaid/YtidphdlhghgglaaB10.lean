/- Several texts of one claim, one behind the other (Sn, Pt, Tb2). -/
import Derived.Test.YtidphdlhghgglaaB09
import Derived.Test.YtidphdlhghgglaaB06
import Derived.Test.YtidphdlhghgglaaB07
/- A table of no row or one. -/
namespace Go.Proofs.Ytidphdlhghgglaa
open Go.RowKit
attribute [local irreducible] Go.Calls Go.Exit.then Go.Exit.inBlock Go.bodyPost Go.Code.wp Go.wpList
theorem infoRow : (Try.prog.info? 52).map (fun i => (i.zero, i.size, i.bytes)) = some (some (.agg #[.int .u64 0, .int .i64 0, .slice none 0 0]), 3, 40) := by kernel_rfl
theorem row_one {s m : Int} {A : Option Addr} {n c : Nat} : ∀ u ∈ [Value.int .u64 s, .int .i64 m, .slice A n c], u.oneCell' = true := by
  intro u hu
  simp only [List.mem_cons, List.not_mem_nil, or_false] at hu
  rcases hu with rfl | rfl | rfl <;> rfl
structure Ad where
  A : Option Addr
  c : Nat
  B : Option Addr
  d : Nat
theorem nth_Sn {φ : Prop} (h : φ := by (first | rfl | assumption)) : φ := h
theorem mid_Sn {φ : Prop} (h : φ := by (first | exact Mid.all | exact Mid.all | exact Mid.head)) : φ := h
theorem sz_Sn {φ : Prop} (h : φ := by (first | rfl | (rfl; first | done | fail))) : φ := h
theorem one_Sn {φ : Prop} (h : φ := by (first | assumption | exact first | exact row_one | exact one_bytes _ | (simp only [List.mem_cons, List.not_mem_nil, or_false, forall_eq_or_imp, forall_eq]; decide) | exact one_bytes _)) : φ := h
theorem set_Sn {φ : Prop} (h : φ := by (first | (fail) | ((repeat (first | exact SetAt.here | apply SetAt.there)); first | done | fail))) : φ := h
theorem cl_Sn {φ : Prop} (h : φ := by first | rfl | exact .t | exact .f | exact .t (by omega) | exact .f (by omega) | exact .u | exact .i (by (first | exact .t (by omega) | exact .f (by omega) | exact .u | exact .i (by omega) | exact .v (by omega) | exact .b (by omega) | exact .w | rfl | omega)) | exact .v (by omega) | exact .b (by omega) | exact .q (by omega) | exact .w | exact .b (by exact at_) rfl (by exact nth_Sn) | exact .w (by exact at_) rfl rfl (by exact sz_Sn) | exact .s (by exact at_) (by exact mid_Sn) rfl rfl (by exact sz_Sn) | exact .z rfl rfl ⟨by kernel_rfl⟩ | exact .b rfl rfl ⟨by kernel_rfl⟩ | exact .a rfl rfl ⟨by kernel_rfl⟩ | exact .o rfl | exact .s | exact .n | exact .p rfl | exact .q rfl | exact .c rfl | exact .d rfl | exact .n rfl rfl (by omega) | exact .a rfl rfl (by omega) | exact .p rfl rfl (by omega) (by omega) | exact .y rfl rfl (by omega) (by omega) | exact .o (by exact at_) (by omega) rfl (by exact nth_Sn) | exact .m (by exact at_) (by omega) (by exact mid_Sn) rfl rfl (by exact sz_Sn) | exact .mlen (by exact at_) rfl | exact .t (by exact at_) rfl rfl (by first | exact True.intro | rfl) (by assumption) | exact .f (by exact at_) rfl rfl (by first | exact True.intro | rfl) (by assumption) rfl | exact .t1 (by exact at_) rfl rfl (by first | exact True.intro | rfl) (by assumption) | exact .f1 (by exact at_) rfl rfl (by first | exact True.intro | rfl) (by assumption) rfl | exact .r rfl rfl (by omega) (by omega) (by exact nth_Sn) rfl | exact .s rfl (by omega) (by assumption) | exact at_ | assumption | exact .r rfl rfl | exact .h rfl rfl rfl (by omega) | exact .l rfl rfl rfl (by omega) (by omega) | exact .g rfl rfl rfl rfl (by omega) (by omega) | exact .h rfl rfl (toN_ (by omega)) (by omega) | exact .l rfl rfl (toN_ (by omega)) (by omega) (by omega) | exact .g rfl rfl (toN_ (by omega)) (toN_ (by omega)) (by omega) (by omega) | exact .o (by decide) | exact .f (by decide) | exact .n (by omega) (by first | decide | (show _ ≤ ((64 : Nat) : Int); omega)) | (constructor; (repeat (first | exact .t (by omega) | exact .f (by omega) | exact .u | exact .i (by omega) | exact .v (by omega) | exact .b (by omega) | exact .w | rfl | omega)); first | done | fail) | omega | (show _ ≤ ((64 : Nat) : Int); omega)) : φ := h
theorem pv_Sn {φ : Prop} (h : φ := by constructor; (repeat exact cl_Sn); first | done | fail) : φ := h
theorem su_Sn {φ ψ : Prop} (k : ψ) (h : Hide ψ → φ := by (intro k; (first | refine sl_pu (PuI.sep (by exact pv_Sn)) rfl ?_ | refine sl_yes rfl rfl ?_ | refine sl_no rfl rfl rfl ?_ | refine sl_off rfl rfl rfl ?_ | (fail)); exact k.out)) : φ := h ⟨k⟩
theorem rq_Sn {φ ψ : Prop} (k : ψ) (h : Hide ψ → φ := by (intro k; (first | refine wq_pu (PuI.sep (by exact pv_Sn)) rfl ?_ | refine wq_yes rfl rfl ?_ | refine wq_no rfl rfl rfl ?_ | refine wq_off rfl rfl rfl ?_ | (fail)); exact k.out)) : φ := h ⟨k⟩
theorem sto_Sn {φ ψ : Prop} (k : ψ) (h : Hide ψ → φ := by (intro k; (first | refine sl_store rfl (by exact pick_) rfl rfl (by kernel_rfl) (by exact set_Sn) ?_ | refine sl_store_whole rfl (by exact pick_) rfl (by exact sz_Sn) (by exact sz_Sn) (by exact one_Sn) ?_); exact k.out)) : φ := h ⟨k⟩
theorem go_Sn {φ ψ : Prop} (k : ψ) (h : Hide ψ → φ := by (intro k; (repeat (first | refine su_Sn ?_ | refine so_ ?_ | refine sto_Sn ?_)); exact k.out)) : φ := h ⟨k⟩
set_option maxRecDepth 100000 in
theorem clonef_ok {K : List Fa} {A : Option Addr} {n c : Nat} {xs : List Value} (hr : Vw K (fun w => Reads w 1 A n xs)) (h1 : ∀ u ∈ xs, u.oneCell' = true) (hn : n ≤ 1000000) :
    Fn Try.prog 36 #[.slice A n c] K (Ret (fun _ : Option Addr × Nat => True) (fun q => .slice q.1 n q.2) (fun q => own 24 1 q.1 n q.2 xs :: K)) := by
  refine fn_enter Try.func36 rfl _ Try.ntmps36 (by simp) [(0, .slice A n c)] (args_of (by simp)) ?_
  cases A with
  | none =>
    refine sc_know (φ := n = 0 ∧ xs = []) (fun w hw => ?_) ?_
    · have h := hr w hw
      rcases Nat.eq_zero_or_pos n with h0 | h0
      · subst h0
        exact ⟨rfl, List.eq_nil_of_length_eq_zero (by simpa using h.1)⟩
      · obtain ⟨ad, h2, _⟩ := h.2 h0
        cases h2
    rintro ⟨rfl, rfl⟩
    refine go_Sn ?_
    exact se_ret1 (none, 0) trivial rfl rfl (Sub.own_nil Sub.refl)
  | some a =>
    refine go_Sn ?_
    refine sl_build0 (e := 24) (size := 1) rfl (fun W => by kernel_rfl) rfl ?_
    intro g0
    refine go_Sn ?_
    refine sl_app rfl (by exact pick_) rfl (hr.mono (by exact sub_)) h1 rfl infoF64 (by decide) (by decide) rfl (by unfold maxLen; omega) (by omega) ?_
    intro A2 c2
    rw [Nat.zero_add, List.nil_append]
    refine go_Sn ?_
    exact se_ret1 (A2, c2) trivial rfl rfl (by exact sub_)
set_option maxRecDepth 100000 in
theorem cloneR_nil {K : List Fa} : Fn Try.prog 38 #[.slice none 0 0] K (Ret (fun _ : Unit => True) (fun _ => .slice none 0 0) (fun _ => K)) := by
  refine fn_enter Try.func38 rfl _ Try.ntmps38 (by simp) [(0, .slice none 0 0)] (args_of (by simp)) ?_
  refine go_Sn ?_
  exact se_ret1 () trivial rfl rfl (by exact sub_)
set_option maxRecDepth 100000 in
theorem search_nil {K : List Fa} {s : Int} {f : Value} : Fn Try.prog 34 #[.slice none 0 0, .int .u64 s, f] K (Ret (fun _ : Unit => True) (fun _ => .tuple #[.int .i64 0, .bool false]) (fun _ => K)) := by
  refine fn_enter Try.func34 rfl _ Try.ntmps34 (by simp) [(0, .slice none 0 0), (1, .int .u64 s), (2, f)] (args_of (by simp)) ?_
  refine go_Sn ?_
  refine sc_for (fun _ : Unit => [(0, .slice none 0 0), (1, .int .u64 s), (2, f), (8, .int .i64 0), (9, .int .i64 0), (10, .int .i64 0)]) (fun _ => K) (fun _ => True) (fun _ => 0) () (by exact has_) (by exact sub_) trivial ?_
  rintro _ -
  refine go_Sn ?_
  exact se_ret2 () trivial rfl rfl rfl rfl (by exact sub_)
set_option maxRecDepth 100000 in
theorem insert_nil {K : List Fa} {g : Nat} {s m : Int} {A : Option Addr} {n c : Nat} (hv : At (own 52 3 (some ⟨g, 0, none⟩) 1 1 [.int .u64 s, .int .i64 m, .slice A n c]) K) :
    Fn Try.prog 37 #[.slice none 0 0, .int .i64 0, .slice (some ⟨g, 0, none⟩) 1 1] K (Ret (fun _ : Option Addr × Nat => True) (fun q => .slice q.1 1 q.2) (fun q => own 52 3 q.1 1 q.2 [.int .u64 s, .int .i64 m, .slice A n c] :: K)) := by
  refine fn_enter Try.func37 rfl _ Try.ntmps37 (by simp) [(0, .slice none 0 0), (1, .int .i64 0), (2, .slice (some ⟨g, 0, none⟩) 1 1)] (args_of (by simp)) ?_
  refine go_Sn ?_
  refine sl_sub (L' := own 52 3 none 0 0 [] :: K) (Sub.own_nil Sub.refl) ?_
  refine sl_app (A := none) (k := 0) (c := 0) rfl (by exact pick_) rfl ((Vw.of_own hv).mono (by exact sub_)) row_one rfl infoRow (by decide) (by decide) rfl (by decide) (by decide) ?_
  intro A2 c2
  rw [Nat.zero_add, List.nil_append]
  refine go_Sn ?_
  exact se_ret1 (A2, c2) trivial rfl rfl (by exact sub_)
set_option maxRecDepth 100000 in
set_option maxHeartbeats 2000000 in
theorem add_nilT {K : List Fa} {s m : Int} {A : Option Addr} {n c : Nat} :
    Fn Try.prog 19 #[.pointer none, .agg #[.int .u64 s, .int .i64 m, .slice A n c]] K (Ret (fun _ : Unit => True) (fun _ => .int .i64 1) (fun _ => K)) := by
  refine fn_enter Try.func19 rfl _ Try.ntmps19 (by simp) [(0, .pointer none), (1, .agg #[.int .u64 s, .int .i64 m, .slice A n c])] (args_of (by simp)) ?_
  refine sc_seq ?_
  refine sc_region ?_
  refine sl_box rfl rfl rfl ?_; intro g3
  refine go_Sn ?_
  exact se_ret1 () trivial rfl rfl (by exact sub_)
set_option maxRecDepth 100000 in
set_option maxHeartbeats 2000000 in
theorem add_first {K : List Fa} {g gi : Nat} {xs : List Value} (h1 : ∀ u ∈ xs, u.oneCell' = true) :
    Fn Try.prog 19 #[.pointer (some ⟨g, 0, none⟩), .agg #[.int .u64 3, .int .i64 1, .slice (some ⟨gi, 0, none⟩) 2 2]] (blk g 49 [.slice none 0 0] :: own 24 1 (some ⟨gi, 0, none⟩) 2 2 xs :: K) (Ret (fun _ : Ad => True) (fun _ => .int .i64 0) (fun q => blk g 49 [.slice q.A 1 q.c] :: own 52 3 q.A 1 q.c [.int .u64 3, .int .i64 1, .slice q.B 2 q.d] :: own 24 1 q.B 2 q.d xs :: own 24 1 (some ⟨gi, 0, none⟩) 2 2 xs :: K)) := by
  refine fn_enter Try.func19 rfl _ Try.ntmps19 (by simp) [(0, .pointer (some ⟨g, 0, none⟩)), (1, .agg #[.int .u64 3, .int .i64 1, .slice (some ⟨gi, 0, none⟩) 2 2])] (args_of (by simp)) ?_
  refine sc_seq ?_
  refine sc_region ?_
  refine sl_box rfl rfl rfl ?_; intro g3
  refine go_Sn ?_
  refine sq_region (by kernel_rfl) (by kernel_rfl) ?_
  repeat refine rq_Sn ?_
  refine sq_end ?_
  refine go_Sn ?_
  refine sd_drawn (fun W => AllP W [blk g 49 [.slice none 0 0], blk g3 52 [.int .u64 3, .int .i64 1, .slice (some ⟨gi, 0, none⟩) 2 2]]) (fun _ => true) (by kernel_rfl) 12 rfl ?_
  refine sd_yes2 0 rfl (by exact gd_) (by kernel_rfl) (by kernel_rfl) (by exact nop_) (PuI.all (by exact pv_Sn)) rfl (fun w hw => all_ hw) ?_
  refine sd_yes2 1 rfl (by exact gd_) (by kernel_rfl) (by kernel_rfl) (by exact nop_) (PuI.all (by exact pv_Sn)) rfl (fun w hw => all_ hw) ?_
  refine sd_yes2 2 rfl (by exact gd_) (by kernel_rfl) (by kernel_rfl) (by exact nop_) (PuI.all (by exact pv_Sn)) rfl (fun w hw => all_ hw) ?_
  refine sd_yes2 3 rfl (by exact gd_) (by kernel_rfl) (by kernel_rfl) (by exact nop_) (PuI.all (by exact pv_Sn)) rfl (fun w hw => all_ hw) ?_
  refine sd_yes2 4 rfl (by exact gd_) (by kernel_rfl) (by kernel_rfl) (by exact nop_) (PuI.all (by exact pv_Sn)) rfl (fun w hw => all_ hw) ?_
  refine sd_yes2 5 rfl (by exact gd_) (by kernel_rfl) (by kernel_rfl) (by exact nop_) (PuI.all (by exact pv_Sn)) rfl (fun w hw => all_ hw) ?_
  refine sd_one 6 (by kernel_rfl) (sa_sl 6 rfl ?_)
  refine sl_call rfl rfl (by kernel_rfl) rfl Sub.refl search_nil ?_
  rintro _ -
  refine sl_nil ?_
  refine se_sd (fun _ w hw => all_ hw) ?_
  refine sd_yes2 7 rfl (by exact gd_) (by kernel_rfl) (by kernel_rfl) (by exact nop_) (PuI.all (by exact pv_Sn)) rfl (fun w hw => all_ hw) ?_
  refine sd_yes2 8 rfl (by exact gd_) (by kernel_rfl) (by kernel_rfl) (by exact nop_) (PuI.all (by exact pv_Sn)) rfl (fun w hw => all_ hw) ?_
  refine sd_yes2 9 rfl (by exact gd_) (by kernel_rfl) (by kernel_rfl) (by exact nop_) (PuI.all (by exact pv_Sn)) rfl (fun w hw => all_ hw) ?_
  refine sd_yes2 10 rfl (by exact gd_) (by kernel_rfl) (by kernel_rfl) (by exact nop_) (PuI.all (by exact pv_Sn)) rfl (fun w hw => all_ hw) ?_
  refine sd_yes2 11 rfl (by exact gd_) (by kernel_rfl) (by kernel_rfl) (by exact nop_) (PuI.all (by exact pv_Sn)) rfl (fun w hw => all_ hw) ?_
  refine sd_done (by kernel_rfl) ?_
  refine go_Sn ?_
  refine sl_call rfl rfl (by kernel_rfl) rfl Sub.refl (clonef_ok (Vw.of_own (e := 24) (A := some ⟨gi, 0, none⟩) (c := 2) (xs := xs) (by exact at_)) h1 (by decide)) ?_
  rintro ⟨B, d⟩ -
  dsimp only
  refine go_Sn ?_
  refine sd_drawn (fun W => AllP W [blk g 49 [.slice none 0 0], blk g3 52 [.int .u64 3, .int .i64 1, .slice B 2 d]]) (fun i => !(List.contains [12] i)) (by kernel_rfl) 13 rfl ?_
  refine sd_yes2 0 rfl (by exact gd_) (by kernel_rfl) (by kernel_rfl) (by exact nop_) (PuI.all (by exact pv_Sn)) rfl (fun w hw => all_ hw) ?_
  refine sd_yes2 1 rfl (by exact gd_) (by kernel_rfl) (by kernel_rfl) (by exact nop_) (PuI.all (by exact pv_Sn)) rfl (fun w hw => all_ hw) ?_
  refine sd_yes2 2 rfl (by exact gd_) (by kernel_rfl) (by kernel_rfl) (by exact nop_) (PuI.all (by exact pv_Sn)) rfl (fun w hw => all_ hw) ?_
  refine sd_yes2 3 rfl (by exact gd_) (by kernel_rfl) (by kernel_rfl) (by exact nop_) (PuI.all (by exact pv_Sn)) rfl (fun w hw => all_ hw) ?_
  refine sd_yes2 4 rfl (by exact gd_) (by kernel_rfl) (by kernel_rfl) (by exact nop_) (PuI.all (by exact pv_Sn)) rfl (fun w hw => all_ hw) ?_
  refine sd_yes2 6 rfl (by exact gd_) (by kernel_rfl) (by kernel_rfl) (by exact nop_) (PuI.all (by exact pv_Sn)) rfl (fun w hw => all_ hw) ?_
  refine sd_yes2 7 rfl (by exact gd_) (by kernel_rfl) (by kernel_rfl) (by exact nop_) (PuI.all (by exact pv_Sn)) rfl (fun w hw => all_ hw) ?_
  refine sd_two 5 8 (by kernel_rfl) (sa_sl 5 rfl ?_) (sa_sl 8 rfl ?_)
  · refine sl_call rfl rfl (by kernel_rfl) rfl Sub.refl cloneR_nil ?_
    rintro _ -
    refine sl_nil ?_
    refine se_sd (fun _ w hw => all_ hw) ?_
    refine sd_one 8 (by kernel_rfl) (sa_sl 8 rfl ?_)
    refine sl_build (size := 3) (e := 52) (cells := [.int .u64 3, .int .i64 1, .slice B 2 d]) rfl (fun W => by kernel_rfl) rfl (by decide) rfl ?_
    intro gb
    refine sl_nil ?_
    refine se_sd (fun _ w hw => all_ hw) ?_
    refine sd_one 9 (by kernel_rfl) (sa_sl 9 rfl ?_)
    refine sl_call rfl rfl (by kernel_rfl) rfl Sub.refl (insert_nil (g := gb) (by exact at_)) ?_
    rintro ⟨A2, c2⟩ -
    dsimp only
    refine sl_nil ?_
    refine se_sd (fun _ w hw => all_ hw) ?_
    refine sd_yes2 10 rfl (by exact gd_) (by kernel_rfl) (by kernel_rfl) (by exact nop_) (PuI.all (by exact pv_Sn)) rfl (fun w hw => all_ hw) ?_
    refine sd_yes2 11 rfl (by exact gd_) (by kernel_rfl) (by kernel_rfl) (by exact nop_) (PuI.all (by exact pv_Sn)) rfl (fun w hw => all_ hw) ?_
    refine sd_one 12 (by kernel_rfl) (sa_sl 12 rfl ?_)
    refine sto_Sn ?_
    refine sl_nil ?_
    refine se_sd (fun h => absurd h (by decide)) ?_
    refine sd_done (by kernel_rfl) ?_
    refine go_Sn ?_
    exact se_ret1 ⟨A2, c2, B, d⟩ trivial rfl rfl (by exact sub_)
  · refine sl_build (size := 3) (e := 52) (cells := [.int .u64 3, .int .i64 1, .slice B 2 d]) rfl (fun W => by kernel_rfl) rfl (by decide) rfl ?_
    intro gb
    refine sl_nil ?_
    refine se_sd (fun _ w hw => all_ hw) ?_
    refine sd_one 5 (by kernel_rfl) (sa_sl 5 rfl ?_)
    refine sl_call rfl rfl (by kernel_rfl) rfl Sub.refl cloneR_nil ?_
    rintro _ -
    refine sl_nil ?_
    refine se_sd (fun _ w hw => all_ hw) ?_
    refine sd_one 9 (by kernel_rfl) (sa_sl 9 rfl ?_)
    refine sl_call rfl rfl (by kernel_rfl) rfl Sub.refl (insert_nil (g := gb) (by exact at_)) ?_
    rintro ⟨A2, c2⟩ -
    dsimp only
    refine sl_nil ?_
    refine se_sd (fun _ w hw => all_ hw) ?_
    refine sd_yes2 10 rfl (by exact gd_) (by kernel_rfl) (by kernel_rfl) (by exact nop_) (PuI.all (by exact pv_Sn)) rfl (fun w hw => all_ hw) ?_
    refine sd_yes2 11 rfl (by exact gd_) (by kernel_rfl) (by kernel_rfl) (by exact nop_) (PuI.all (by exact pv_Sn)) rfl (fun w hw => all_ hw) ?_
    refine sd_one 12 (by kernel_rfl) (sa_sl 12 rfl ?_)
    refine sto_Sn ?_
    refine sl_nil ?_
    refine se_sd (fun h => absurd h (by decide)) ?_
    refine sd_done (by kernel_rfl) ?_
    refine go_Sn ?_
    exact se_ret1 ⟨A2, c2, B, d⟩ trivial rfl rfl (by exact sub_)
set_option maxRecDepth 100000 in
theorem rows_nilT {K : List Fa} : Fn Try.prog 20 #[.pointer none] K (Ret (fun _ : Unit => True) (fun _ => .slice none 0 0) (fun _ => K)) := by
  refine fn_enter Try.func20 rfl _ Try.ntmps20 (by simp) [(0, .pointer none)] (args_of (by simp)) ?_
  refine go_Sn ?_
  exact se_ret1 () trivial rfl rfl (by exact sub_)
set_option maxRecDepth 100000 in
theorem column_nilT {K : List Fa} {k : Int} : Fn Try.prog 21 #[.pointer none, .int .i64 k] K (Ret (fun _ : Unit => True) (fun _ => .tuple #[.slice none 0 0, .bool false]) (fun _ => K)) := by
  refine fn_enter Try.func21 rfl _ Try.ntmps21 (by simp) [(0, .pointer none), (1, .int .i64 k)] (args_of (by simp)) ?_
  refine go_Sn ?_
  exact se_ret2 () trivial rfl rfl rfl rfl (by exact sub_)
set_option maxRecDepth 100000 in
theorem mean_nilT {K : List Fa} {k : Int} : Fn Try.prog 22 #[.pointer none, .int .i64 k] K (Ret (fun _ : Unit => True) (fun _ => .tuple #[.float .f64 0, .int .i64 6]) (fun _ => K)) := by
  refine fn_enter Try.func22 rfl _ Try.ntmps22 (by simp) [(0, .pointer none), (1, .int .i64 k)] (args_of (by simp)) ?_
  refine go_Sn ?_
  refine sl_call rfl rfl (by kernel_rfl) rfl Sub.refl column_nilT ?_
  rintro _ -
  refine go_Sn ?_
  exact se_ret2 () trivial rfl rfl rfl rfl (by exact sub_)
def RwE (ga c : Nat) : Option Ad → Env
  | none => [(3, .slice none 0 0), (11, .slice (some ⟨ga, 0, none⟩) 1 c), (12, .int .i64 1), (13, .int .i64 0)]
  | some q => [(3, .slice q.A 1 q.c), (11, .slice (some ⟨ga, 0, none⟩) 1 c), (12, .int .i64 1), (13, .int .i64 1)]
def RwH (K : List Fa) (s m : Int) (n : Nat) (xs : List Value) : Option Ad → List Fa
  | none => K
  | some q => own 52 3 q.A 1 q.c [.int .u64 s, .int .i64 m, .slice q.B n q.d] :: own 24 1 q.B n q.d xs :: K
def rwM : Option Ad → Nat
  | none => 1
  | some _ => 0
set_option maxRecDepth 100000 in
set_option maxHeartbeats 2000000 in
theorem rowsT_one {K : List Fa} {g ga c n d : Nat} {s m : Int} {B : Option Addr} {xs : List Value} (hT : At (blk g 49 [.slice (some ⟨ga, 0, none⟩) 1 c]) K) (hR : At (own 52 3 (some ⟨ga, 0, none⟩) 1 c [.int .u64 s, .int .i64 m, .slice B n d]) K) (hx : Vw K (fun w => Reads w 1 B n xs)) (h1 : ∀ u ∈ xs, u.oneCell' = true) (hn : n ≤ 1000000) :
    Fn Try.prog 20 #[.pointer (some ⟨g, 0, none⟩)] K (Ret (fun _ : Ad => True) (fun q => .slice q.A 1 q.c) (fun q => own 52 3 q.A 1 q.c [.int .u64 s, .int .i64 m, .slice q.B n q.d] :: own 24 1 q.B n q.d xs :: K)) := by
  refine fn_enter Try.func20 rfl _ Try.ntmps20 (by simp) [(0, .pointer (some ⟨g, 0, none⟩))] (args_of (by simp)) ?_
  refine go_Sn ?_
  refine sc_for (RwE ga c) (RwH K s m n xs) (fun _ => True) rwM none (by show Has _ [_, _, _, _]; exact has_) (by show Sub _ K; exact sub_) trivial ?_
  rintro (_ | ⟨A2, c2, B2, d2⟩) -
  · show SC _ _ _ _ [(3, .slice none 0 0), (11, .slice (some ⟨ga, 0, none⟩) 1 c), (12, .int .i64 1), (13, .int .i64 0)] K
    refine go_Sn ?_
    refine sl_alloc rfl rfl rfl ?_; intro g5
    refine sl_store_whole (cl := [.int .u64 s, .int .i64 m, .slice B n d]) rfl (by exact pick_) rfl rfl (by rfl) row_one ?_
    refine go_Sn ?_
    refine sl_call rfl rfl (by kernel_rfl) rfl Sub.refl (clonef_ok (hx.mono (by exact sub_)) h1 hn) ?_
    rintro ⟨B2, d2⟩ -
    dsimp only
    refine go_Sn ?_
    refine sl_build (size := 3) (e := 52) (cells := [.int .u64 s, .int .i64 m, .slice B2 n d2]) rfl (fun W => by kernel_rfl) rfl (by decide) rfl ?_
    intro gb
    refine sl_sub (L' := own 52 3 none 0 0 [] :: own 52 3 (some ⟨gb, 0, none⟩) 1 1 [.int .u64 s, .int .i64 m, .slice B2 n d2] :: own 24 1 B2 n d2 xs :: K) (Sub.own_nil (by exact sub_)) ?_
    refine sl_app (A := none) (k := 0) (c := 0) rfl (by exact pick_) rfl (Vw.of_own (e := 52) (A := some ⟨gb, 0, none⟩) (c := 1) (by exact at_)) row_one rfl infoRow (by decide) (by decide) rfl (by decide) (by decide) ?_
    intro A2 c2
    rw [Nat.zero_add, List.nil_append]
    refine go_Sn ?_
    exact se_round (some ⟨A2, c2, B2, d2⟩) (by show Has _ [_, _, _, _]; exact has_) (by show Sub _ (_ :: _ :: K); exact sub_) trivial (by show 0 < 1; decide)
  · show SC _ _ _ _ [(3, .slice A2 1 c2), (11, .slice (some ⟨ga, 0, none⟩) 1 c), (12, .int .i64 1), (13, .int .i64 1)] (own 52 3 A2 1 c2 [.int .u64 s, .int .i64 m, .slice B2 n d2] :: own 24 1 B2 n d2 xs :: K)
    refine go_Sn ?_
    exact se_ret1 ⟨A2, c2, B2, d2⟩ trivial rfl rfl (by exact sub_)
def ClE (at' ga c : Nat) : Option (Option Addr × Nat) → Env
  | none => [(1, .int .i64 at'), (6, .slice none 0 0), (38, .slice (some ⟨ga, 0, none⟩) 1 c), (39, .int .i64 1), (40, .int .i64 0)]
  | some q => [(1, .int .i64 at'), (6, .slice q.1 1 q.2), (38, .slice (some ⟨ga, 0, none⟩) 1 c), (39, .int .i64 1), (40, .int .i64 1)]
def ClH (K : List Fa) (v : Nat) : Option (Option Addr × Nat) → List Fa
  | none => K
  | some q => own 24 1 q.1 1 q.2 [.float .f64 v] :: K
def clM : Option (Option Addr × Nat) → Nat
  | none => 1
  | some _ => 0
set_option maxRecDepth 100000 in
set_option maxHeartbeats 2000000 in
theorem column_one {K : List Fa} {g ga c n d gB k v : Nat} {s m : Int} {xs : List Value} (hT : At (blk g 49 [.slice (some ⟨ga, 0, none⟩) 1 c]) K) (hR : At (own 52 3 (some ⟨ga, 0, none⟩) 1 c [.int .u64 s, .int .i64 m, .slice (some ⟨gB, 0, none⟩) n d]) K) (hx : Vw K (fun w => Reads w 1 (some ⟨gB, 0, none⟩) n xs)) (hk : k < n) (hn : n ≤ 1000000) (hv : nth xs (k * 1) = some (.float .f64 v)) :
    Fn Try.prog 21 #[.pointer (some ⟨g, 0, none⟩), .int .i64 k] K (Ret (fun _ : Option Addr × Nat => True) (fun q => .tuple #[.slice q.1 1 q.2, .bool true]) (fun q => own 24 1 q.1 1 q.2 [.float .f64 v] :: K)) := by
  refine fn_enter Try.func21 rfl _ Try.ntmps21 (by simp) [(0, .pointer (some ⟨g, 0, none⟩)), (1, .int .i64 k)] (args_of (by simp)) ?_
  refine go_Sn ?_
  refine sl_pu (pu_ldr (size := 3) (Vw.of_own hR) (by decide) (i := 2) rfl rfl rfl) rfl ?_
  refine go_Sn ?_
  refine sc_for (ClE k ga c) (ClH K v) (fun _ => True) clM none (by show Has _ [_, _, _, _, _]; exact has_) (by show Sub _ K; exact sub_) trivial ?_
  rintro (_ | ⟨A2, c2⟩) -
  · show SC _ _ _ _ [(1, .int .i64 k), (6, .slice none 0 0), (38, .slice (some ⟨ga, 0, none⟩) 1 c), (39, .int .i64 1), (40, .int .i64 0)] K
    refine go_Sn ?_
    refine sl_alloc rfl rfl rfl ?_; intro g5
    refine sl_store_whole (cl := [.int .u64 s, .int .i64 m, .slice (some ⟨gB, 0, none⟩) n d]) rfl (by exact pick_) rfl rfl (by rfl) row_one ?_
    refine go_Sn ?_
    refine sl_pu (pu_ldr (hx.mono (by exact sub_)) (by omega) rfl rfl hv) rfl ?_
    refine go_Sn ?_
    refine sl_build (size := 1) (e := 24) (cells := [Value.float .f64 v]) rfl (fun W => by kernel_rfl) rfl (by decide) rfl ?_
    intro gb
    refine sl_sub (L' := own 24 1 none 0 0 [] :: own 24 1 (some ⟨gb, 0, none⟩) 1 1 [Value.float .f64 v] :: K) (Sub.own_nil (by exact sub_)) ?_
    refine sl_app (A := none) (k := 0) (c := 0) rfl (by exact pick_) rfl (Vw.of_own (e := 24) (A := some ⟨gb, 0, none⟩) (c := 1) (by exact at_)) fl_one rfl infoF64 (by decide) (by decide) rfl (by decide) (by decide) ?_
    intro A2 c2
    rw [Nat.zero_add, List.nil_append]
    refine go_Sn ?_
    exact se_round (some (A2, c2)) (by show Has _ [_, _, _, _, _]; exact has_) (by show Sub _ (_ :: K); exact sub_) trivial (by show 0 < 1; decide)
  · show SC _ _ _ _ [(1, .int .i64 k), (6, .slice A2 1 c2), (38, .slice (some ⟨ga, 0, none⟩) 1 c), (39, .int .i64 1), (40, .int .i64 1)] (own 24 1 A2 1 c2 [.float .f64 v] :: K)
    refine go_Sn ?_
    exact se_ret2 (A2, c2) trivial rfl rfl rfl rfl (by exact sub_)
end Go.Proofs.Ytidphdlhghgglaa
/- A function's walk in parts: a piece of its code, what comes behind it left open. No program is in sight. -/
namespace Go.Proofs.Ytidphdlhghgglaa
open Go.RowKit
/-- A function's code. -/
def fb (f : Func) : Code := match f.body with
  | some c => c
  | none => .skip
/-- A piece of a code: true is the first of two, or the only one. -/
def cAt : List Bool → Code → Code
  | [], c => c
  | true :: r, .seq a _ => cAt r a
  | false :: r, .seq _ b => cAt r b
  | true :: r, .cond _ a _ => cAt r a
  | false :: r, .cond _ _ b => cAt r b
  | _ :: r, .block _ a => cAt r a
  | _ :: r, .loop a => cAt r a
  | _ :: r, .scope a => cAt r a
  | _, c => c
section
variable {P : Program} {Q : Exit → Act → World → Prop} {n : Nat} {l : Env} {L : List Fa} {x y : Code} {α : Type} {E : α → Env} {H : α → List Fa} {R : α → Prop} {id : Nat}
theorem se_mono {l l' : Env} {L L' : List Fa} {e : Exit} (h : SE Q e n l' L') (hl : Has l l') (hs : Sub L L') : SE Q e n l L := se_of fun w hw => WE.mk fun a ha => (h.to (hw.sub hs)).get (ha.sub hl.sub)
/-- How a piece ends: one of the states that are told. -/
abbrev Ends (n : Nat) (Q : Exit → Act → World → Prop) (e : Exit) (E : α → Env) (H : α → List Fa) (R : α → Prop) : Prop := ∀ (p : α) {l : Env} {L : List Fa}, R p → Has l (E p) → Sub L (H p) → SE Q e n l L
/-- A piece within its block, and what stands behind the block. -/
theorem sc_bpart (hp : ∀ Q', NoP Q' → Ends n Q' .normal E H R → SC P x Q' n l L) (hN : NoP (Exit.inBlock id (Exit.then (fun a w => y.wp P Q a w) Q))) (hy : ∀ p, R p → SC P y Q n (E p) (H p)) : SC P x (Exit.inBlock id (Exit.then (fun a w => y.wp P Q a w) Q)) n l L :=
  hp _ hN fun p _ _ hR hl hs => se_mono (se_block (se_seq (hy p hR))) hl hs
/-- A piece that leaves its block, and what stands behind the block. -/
theorem sc_xpart (hp : ∀ Q', NoP Q' → Ends n Q' (.exit id) E H R → SC P x Q' n l L) (hN : NoP (Exit.inBlock id (Exit.then (fun a w => y.wp P Q a w) Q))) (hy : ∀ p, R p → SC P y Q n (E p) (H p)) : SC P x (Exit.inBlock id (Exit.then (fun a w => y.wp P Q a w) Q)) n l L :=
  hp _ hN fun p _ _ hR hl hs => se_mono (se_block_hit (se_seq (hy p hR))) hl hs
/-- A piece, and what stands behind it. -/
theorem sc_spart (hp : ∀ Q', NoP Q' → Ends n Q' .normal E H R → SC P x Q' n l L) (hN : NoP (Exit.then (fun a w => y.wp P Q a w) Q)) (hy : ∀ p, R p → SC P y Q n (E p) (H p)) : SC P x (Exit.then (fun a w => y.wp P Q a w) Q) n l L :=
  hp _ hN fun p _ _ hR hl hs => se_mono (se_seq (hy p hR)) hl hs
end
theorem star2 {a b : Fa} {K : List Fa} : Ent_ (a :: b :: K) (star [a, b] :: K) := fun w hw => star_in (G := [a, b]) w hw
theorem star2_out {a b c : Fa} : Ent_ [star [a, b], c] [b, c] := fun w hw => (star_out (G := [a, b]) (K := [c]) w hw).sub (.skip .refl)
theorem star2_hd {a b c : Fa} : Ent_ [star [a, b], c] [a] := fun w hw => (star_out (G := [a, b]) (K := [c]) w hw).sub (.cons .here (.skip (.skip .refl)))
end Go.Proofs.Ytidphdlhghgglaa
/- A table over facts: Add, Rows, Column, Mean. -/
namespace Go.Proofs.Ytidphdlhghgglaa
open Go.RowKit
attribute [local irreducible] Go.Calls Go.Exit.then Go.Exit.inBlock Go.bodyPost Go.Code.wp Go.wpList
abbrev tB (g : Nat) (R : Option Addr) (n c : Nat) : Fa := blk g 49 [.slice R n c]
abbrev tO (R : Option Addr) (n c : Nat) (ts : List TR) : Fa := own 52 3 R n c (rows TR.C ts)
/-- Where a row's numbers lie. -/
def TR.rd (r : TR) (L : List Fa) : Prop := Vw L (fun w => Reads w 1 r.A r.l.length (r.l.map fl))
theorem fls_one (l : List Nat) : ∀ u ∈ l.map fl, u.oneCell' = true := by
  intro u hu
  obtain ⟨x, _, rfl⟩ := List.mem_map.1 hu
  rfl
def cmpR (s : Int) (r : TR) : Int := if r.s < s then -1 else if s < r.s then 1 else 0
theorem nth_Tb2 {φ : Prop} (h : φ := by (first | rfl | first | assumption | exact rows_nth TR.len (by assumption) rfl)) : φ := h
theorem mid_Tb2 {φ : Prop} (h : φ := by (first | first | exact rows_mid TR.len (by assumption) | exact Mid.all | exact Mid.head)) : φ := h
theorem sz_Tb2 {φ : Prop} (h : φ := by (first | rfl | (rfl; first | done | fail))) : φ := h
theorem one_Tb2 {φ : Prop} (h : φ := by (first | assumption | exact first | exact one_bytes _ | exact TR.one _ | exact row_one | (simp only [List.mem_cons, List.not_mem_nil, or_false, forall_eq_or_imp, forall_eq]; decide) | exact one_bytes _)) : φ := h
theorem set_Tb2 {φ : Prop} (h : φ := by (first | (fail) | ((repeat (first | exact SetAt.here | apply SetAt.there)); first | done | fail))) : φ := h
theorem cl_Tb2 {φ : Prop} (h : φ := by first | rfl | exact .t | exact .f | exact .t (by omega) | exact .f (by omega) | exact .u | exact .i (by (first | exact .t (by omega) | exact .f (by omega) | exact .u | exact .i (by omega) | exact .v (by omega) | exact .b (by omega) | exact .w | rfl | omega)) | exact .v (by omega) | exact .b (by omega) | exact .q (by omega) | exact .w | exact .b (by exact at_) rfl (by exact nth_Tb2) | exact .w (by exact at_) rfl rfl (by exact sz_Tb2) | exact .s (by exact at_) (by exact mid_Tb2) rfl rfl (by exact sz_Tb2) | exact .z rfl rfl ⟨by kernel_rfl⟩ | exact .b rfl rfl ⟨by kernel_rfl⟩ | exact .a rfl rfl ⟨by kernel_rfl⟩ | exact .o rfl | exact .s | exact .n | exact .p rfl | exact .q rfl | exact .c rfl | exact .d rfl | exact .n rfl rfl (by omega) | exact .a rfl rfl (by omega) | exact .p rfl rfl (by omega) (by omega) | exact .y rfl rfl (by omega) (by omega) | exact .o (by exact at_) (by omega) rfl (by exact nth_Tb2) | exact .m (by exact at_) (by omega) (by exact mid_Tb2) rfl rfl (by exact sz_Tb2) | exact .mlen (by exact at_) rfl | exact .t (by exact at_) rfl rfl (by first | exact True.intro | rfl) (by assumption) | exact .f (by exact at_) rfl rfl (by first | exact True.intro | rfl) (by assumption) rfl | exact .t1 (by exact at_) rfl rfl (by first | exact True.intro | rfl) (by assumption) | exact .f1 (by exact at_) rfl rfl (by first | exact True.intro | rfl) (by assumption) rfl | exact .r rfl rfl (by omega) (by omega) (by exact nth_Tb2) rfl | exact .s rfl (by omega) (by assumption) | exact at_ | assumption | exact .r rfl rfl | exact .h rfl rfl rfl (by omega) | exact .l rfl rfl rfl (by omega) (by omega) | exact .g rfl rfl rfl rfl (by omega) (by omega) | exact .h rfl rfl (toN_ (by omega)) (by omega) | exact .l rfl rfl (toN_ (by omega)) (by omega) (by omega) | exact .g rfl rfl (toN_ (by omega)) (toN_ (by omega)) (by omega) (by omega) | exact .o (by decide) | exact .f (by decide) | exact .n (by omega) (by first | decide | (show _ ≤ ((64 : Nat) : Int); omega)) | (constructor; (repeat (first | exact .t (by omega) | exact .f (by omega) | exact .u | exact .i (by omega) | exact .v (by omega) | exact .b (by omega) | exact .w | rfl | omega)); first | done | fail) | omega | (show _ ≤ ((64 : Nat) : Int); omega)) : φ := h
theorem pv_Tb2 {φ : Prop} (h : φ := by constructor; (repeat exact cl_Tb2); first | done | fail) : φ := h
theorem su_Tb2 {φ ψ : Prop} (k : ψ) (h : Hide ψ → φ := by (intro k; (first | refine sl_pu (PuI.sep (by exact pv_Tb2)) rfl ?_ | refine sl_yes rfl rfl ?_ | refine sl_no rfl rfl rfl ?_ | refine sl_off rfl rfl rfl ?_ | (first | refine sl_pu (pu_ldo (by exact at_) (by omega) rfl (at2 _ _ _) rfl (by exact nth_Tb2)) rfl ?_ | refine sl_pu (pu_ldo (by exact at_) (by omega) rfl (at1 _ _) rfl (by exact nth_Tb2)) rfl ?_ | refine sl_pu (pu_ldo (by exact at_) (by omega) rfl rfl rfl (by exact nth_Tb2)) rfl ?_)); exact k.out)) : φ := h ⟨k⟩
theorem rq_Tb2 {φ ψ : Prop} (k : ψ) (h : Hide ψ → φ := by (intro k; (first | refine wq_pu (PuI.sep (by exact pv_Tb2)) rfl ?_ | refine wq_yes rfl rfl ?_ | refine wq_no rfl rfl rfl ?_ | refine wq_off rfl rfl rfl ?_ | (first | refine wq_pu (pu_ldo (by exact at_) (by omega) rfl (at2 _ _ _) rfl (by exact nth_Tb2)) rfl ?_ | refine wq_pu (pu_ldo (by exact at_) (by omega) rfl (at1 _ _) rfl (by exact nth_Tb2)) rfl ?_ | refine wq_pu (pu_ldo (by exact at_) (by omega) rfl rfl rfl (by exact nth_Tb2)) rfl ?_)); exact k.out)) : φ := h ⟨k⟩
theorem sto_Tb2 {φ ψ : Prop} (k : ψ) (h : Hide ψ → φ := by (intro k; (first | refine sl_store rfl (by exact pick_) rfl rfl (by kernel_rfl) (by exact set_Tb2) ?_ | refine sl_store_whole rfl (by exact pick_) rfl (by exact sz_Tb2) (by exact sz_Tb2) (by exact one_Tb2) ?_); exact k.out)) : φ := h ⟨k⟩
theorem go_Tb2 {φ ψ : Prop} (k : ψ) (h : Hide ψ → φ := by (intro k; (repeat (first | refine su_Tb2 ?_ | refine so_ ?_ | refine sto_Tb2 ?_)); exact k.out)) : φ := h ⟨k⟩
set_option maxRecDepth 100000 in
theorem add1_ok {L : List Fa} {r : TR} {s : Int} : Fn Try.prog 35 #[.agg r.C.toArray, .int .u64 s] L (Ret (fun _ : Unit => True) (fun _ => .int .i64 (cmpR s r)) (fun _ => L)) := by
  refine fn_enter Try.func35 rfl _ Try.ntmps35 (by simp) [(0, .agg r.C.toArray), (1, .int .u64 s)] (args_of (by simp)) ?_
  refine sc_seq ?_
  refine sc_region ?_
  refine sl_box rfl rfl rfl ?_; intro g2
  by_cases h1 : r.s < s
  · rw [show cmpR s r = -1 from if_pos h1]
    refine go_Tb2 ?_
    exact se_ret1 () trivial rfl rfl (by exact sub_)
  by_cases h2 : s < r.s
  · rw [show cmpR s r = 1 by unfold cmpR; rw [if_neg h1, if_pos h2]]
    refine go_Tb2 ?_
    exact se_ret1 () trivial rfl rfl (by exact sub_)
  · rw [show cmpR s r = 0 by unfold cmpR; rw [if_neg h1, if_neg h2]]
    refine go_Tb2 ?_
    exact se_ret1 () trivial rfl rfl (by exact sub_)
theorem cmpR_lt {s : Int} {r : TR} (h : r.s < s) : cmpR s r < 0 := by
  unfold cmpR
  rw [if_pos h]
  decide
theorem cmpR_ge {s : Int} {r : TR} (h : s ≤ r.s) : 0 ≤ cmpR s r := by
  unfold cmpR
  rw [if_neg (by omega)]
  split <;> decide
theorem cmpR_zero {s : Int} {r : TR} : cmpR s r = 0 ↔ r.s = s := by
  unfold cmpR
  split
  · constructor
    · intro h
      cases h
    · omega
  · split
    · constructor
      · intro h
        cases h
      · omega
    · constructor
      · omega
      · intro _
        rfl
def neq0 (ts : List TR) (k : Nat) : Bool := match ts[0]? with
  | some q => decide (q.l.length ≠ k)
  | none => false
def hitR (ts : List TR) (s : Int) (p : Nat) : Bool := match ts[p]? with
  | some q => decide (cmpR s q = 0)
  | none => false
theorem srchR {K : List Fa} {R : Option Addr} {c p : Nat} {ts : List TR} {s : Int} (hv : Vw K (fun w => Reads w 3 R ts.length (rows TR.C ts))) (hp : p ≤ ts.length) (h1 : ∀ k q, k < p → ts[k]? = some q → q.s < s) (h2 : ∀ k q, p ≤ k → ts[k]? = some q → s ≤ q.s) (hle : ts.length ≤ 32) :
    Fn Try.prog 34 #[.slice R ts.length c, .int .u64 s, .func (.func 35) #[] #[]] K (Ret (fun _ : Unit => True) (fun _ => .tuple #[.int .i64 p, .bool (hitR ts s p)]) (fun _ => K)) :=
  trsearch_ok (cf := cmpR s) hv hp (fun k q hk hs => cmpR_lt (h1 k q hk hs)) (fun k q hk hs => cmpR_ge (h2 k q hk hs)) (by omega) (fun L q _ => add1_ok)
/-- Why a row isn't added, if the rows' places don't matter. -/
def addW (ts : List TR) (m : Int) (k : Nat) : Int := if m < 1 ∨ 256 < m then 17 else if 64 < k ∨ ts.length = 32 then 5 else if neq0 ts k = true then 9 else 0
theorem neq0_eq {ts : List TR} {q : TR} {k : Nat} (h : ts[0]? = some q) : neq0 ts k = decide (q.l.length ≠ k) := by
  unfold neq0
  rw [h]
theorem addW_zero {ts : List TR} {m : Int} {k : Nat} (h : addW ts m k = 0) : (1 ≤ m ∧ m ≤ 256) ∧ (k ≤ 64 ∧ ts.length ≠ 32) ∧ neq0 ts k = false := by
  unfold addW at h
  by_cases h1 : m < 1 ∨ 256 < m
  · rw [if_pos h1] at h
    cases h
  rw [if_neg h1] at h
  by_cases h2 : 64 < k ∨ ts.length = 32
  · rw [if_pos h2] at h
    cases h
  rw [if_neg h2] at h
  cases h3 : neq0 ts k with
  | true =>
    rw [if_pos h3] at h
    cases h
  | false => exact ⟨by omega, by omega, rfl⟩
set_option maxRecDepth 100000 in
set_option maxHeartbeats 4000000 in
theorem addT_bad {K : List Fa} {g n c : Nat} {R : Option Addr} {ts : List TR} {r : TR} (hT : At (tB g R n c) K) (hO : At (tO R n c ts) K) (hn : n = ts.length) (hl : r.l.length ≤ 9223372036854775807) (hw : addW ts r.m r.l.length ≠ 0) :
    Fn Try.prog 19 #[.pointer (some ⟨g, 0, none⟩), .agg r.C.toArray] K (Ret (fun _ : Unit => True) (fun _ => .int .i64 (addW ts r.m r.l.length)) (fun _ => K)) := by
  refine fn_enter Try.func19 rfl _ Try.ntmps19 (by simp) [(0, .pointer (some ⟨g, 0, none⟩)), (1, .agg r.C.toArray)] (args_of (by simp)) ?_
  refine sc_seq ?_
  refine sc_region ?_
  refine sl_box rfl rfl rfl ?_; intro g3
  by_cases hm : r.m < 1 ∨ 256 < r.m
  · rw [show addW ts r.m r.l.length = 17 from if_pos hm]
    by_cases h1 : r.m < 1
    · refine go_Tb2 ?_
      exact se_ret1 () trivial rfl rfl (by exact sub_)
    · have h2 : 256 < r.m := by omega
      refine go_Tb2 ?_
      exact se_ret1 () trivial rfl rfl (by exact sub_)
  by_cases h5 : 64 < r.l.length ∨ ts.length = 32
  · rw [show addW ts r.m r.l.length = 5 by unfold addW; rw [if_neg hm, if_pos h5]]
    by_cases h1 : 64 < r.l.length
    · refine go_Tb2 ?_
      exact se_ret1 () trivial rfl rfl (by exact sub_)
    · have h2 : n = 32 := by omega
      subst h2
      refine go_Tb2 ?_
      exact se_ret1 () trivial rfl rfl (by exact sub_)
  have h32 : n ≠ 32 := by omega
  cases hb : neq0 ts r.l.length with
  | false => exact absurd (by unfold addW; rw [if_neg hm, if_neg h5, hb]; rfl) hw
  | true =>
    rw [show addW ts r.m r.l.length = 9 by unfold addW; rw [if_neg hm, if_neg h5, if_pos hb]]
    cases hq : ts[0]? with
    | none =>
      unfold neq0 at hb
      rw [hq] at hb
      cases hb
    | some q =>
      rw [neq0_eq hq] at hb
      have hne : ¬ (q.l.length : Int) = r.l.length := by
        have := of_decide_eq_true hb
        omega
      have hpos : 0 < n := by
        obtain ⟨h, -⟩ := List.getElem?_eq_some_iff.1 hq
        omega
      have hnx : nth (rows TR.C ts) 2 = some (.slice q.A q.l.length q.c) := rows_nth (i := 0) (j := 2) TR.len hq rfl
      refine sl_form (e := 52) (size := 3) (A := R) (m := n) (by exact at_) hpos ?_
      rintro gR rfl
      refine go_Tb2 ?_
      ((refine sq_region (by kernel_rfl) (by kernel_rfl) ?_; (repeat refine rq_Tb2 ?_); refine sq_end ?_))
      refine go_Tb2 ?_
      exact se_ret1 () trivial rfl rfl (by exact sub_)
set_option maxRecDepth 100000 in
set_option maxHeartbeats 4000000 in
theorem addT_is {K : List Fa} {g n c p : Nat} {R : Option Addr} {ts : List TR} {r q : TR} (hT : At (tB g R n c) K) (hO : At (tO R n c ts) K) (hn : n = ts.length) (hle : ts.length ≤ 32) (hw : addW ts r.m r.l.length = 0) (hp : p ≤ ts.length) (h1 : ∀ k s, k < p → ts[k]? = some s → s.s < r.s) (h2 : ∀ k s, p ≤ k → ts[k]? = some s → r.s ≤ s.s) (hq : ts[p]? = some q) (hqs : q.s = r.s) :
    Fn Try.prog 19 #[.pointer (some ⟨g, 0, none⟩), .agg r.C.toArray] K (Ret (fun _ : Unit => True) (fun _ => .int .i64 29) (fun _ => K)) := by
  refine fn_enter Try.func19 rfl _ Try.ntmps19 (by simp) [(0, .pointer (some ⟨g, 0, none⟩)), (1, .agg r.C.toArray)] (args_of (by simp)) ?_
  refine sc_seq ?_
  refine sc_region ?_
  refine sl_box rfl rfl rfl ?_; intro g3
  obtain ⟨hm, h5, hb⟩ := addW_zero hw
  obtain ⟨hpl, -⟩ := List.getElem?_eq_some_iff.1 hq
  have h32 : n ≠ 32 := by omega
  have hpos : 0 < n := by omega
  obtain ⟨q0, h0⟩ : ∃ q0, ts[0]? = some q0 := ⟨_, List.getElem?_eq_getElem (by omega)⟩
  rw [neq0_eq h0] at hb
  have heq : q0.l.length = r.l.length := by
    have := of_decide_eq_false hb
    omega
  have hnx : nth (rows TR.C ts) 2 = some (.slice q0.A q0.l.length q0.c) := rows_nth (i := 0) (j := 2) TR.len h0 rfl
  refine sl_form (e := 52) (size := 3) (A := R) (m := n) (by exact at_) hpos ?_
  rintro gR rfl
  refine go_Tb2 ?_
  ((refine sq_region (by kernel_rfl) (by kernel_rfl) ?_; (repeat refine rq_Tb2 ?_); refine sq_end ?_))
  refine go_Tb2 ?_
  have hit : hitR ts r.s p = true := by
    unfold hitR
    rw [hq]
    exact decide_eq_true (cmpR_zero.2 hqs)
  have hcall := fun (K' : List Fa) (hv : At (tO (some ⟨gR, 0, none⟩) n c ts) K') => srchR (K := K') (R := some ⟨gR, 0, none⟩) (c := c) (p := p) (ts := ts) (s := r.s) (by rw [← hn]; exact Vw.of_own hv) hp h1 h2 hle
  simp only [hit, ← hn] at hcall
  refine sd_drawn (fun W => AllP W [tB g (some ⟨gR, 0, none⟩) n c, blk g3 52 r.C]) (fun _ => true) (by kernel_rfl) 12 rfl ?_
  refine sd_yes2 0 rfl (by exact gd_) (by kernel_rfl) (by kernel_rfl) (by exact nop_) (PuI.all (by exact pv_Tb2)) rfl (fun w hw => all_ hw) ?_
  refine sd_yes2 1 rfl (by exact gd_) (by kernel_rfl) (by kernel_rfl) (by exact nop_) (PuI.all (by exact pv_Tb2)) rfl (fun w hw => all_ hw) ?_
  refine sd_yes2 2 rfl (by exact gd_) (by kernel_rfl) (by kernel_rfl) (by exact nop_) (PuI.all (by exact pv_Tb2)) rfl (fun w hw => all_ hw) ?_
  refine sd_yes2 3 rfl (by exact gd_) (by kernel_rfl) (by kernel_rfl) (by exact nop_) (PuI.all (by exact pv_Tb2)) rfl (fun w hw => all_ hw) ?_
  refine sd_yes2 4 rfl (by exact gd_) (by kernel_rfl) (by kernel_rfl) (by exact nop_) (PuI.all (by exact pv_Tb2)) rfl (fun w hw => all_ hw) ?_
  refine sd_yes2 5 rfl (by exact gd_) (by kernel_rfl) (by kernel_rfl) (by exact nop_) (PuI.all (by exact pv_Tb2)) rfl (fun w hw => all_ hw) ?_
  refine sd_one 6 (by kernel_rfl) (sa_sl 6 rfl ?_)
  refine sl_call rfl rfl (by kernel_rfl) rfl Sub.refl (hcall _ (by exact at_)) ?_
  rintro _ -
  refine sl_nil ?_
  refine se_sd (fun _ w hw => all_ hw) ?_
  refine sd_yes2 7 rfl (by exact gd_) (by kernel_rfl) (by kernel_rfl) (by exact nop_) (PuI.all (by exact pv_Tb2)) rfl (fun w hw => all_ hw) ?_
  refine sd_yes2 8 rfl (by exact gd_) (by kernel_rfl) (by kernel_rfl) (by exact nop_) (PuI.all (by exact pv_Tb2)) rfl (fun w hw => all_ hw) ?_
  refine sd_yes2 9 rfl (by exact gd_) (by kernel_rfl) (by kernel_rfl) (by exact nop_) (PuI.all (by exact pv_Tb2)) rfl (fun w hw => all_ hw) ?_
  refine sd_yes2 10 rfl (by exact gd_) (by kernel_rfl) (by kernel_rfl) (by exact nop_) (PuI.all (by exact pv_Tb2)) rfl (fun w hw => all_ hw) ?_
  refine sd_yes2 11 rfl (by exact gd_) (by kernel_rfl) (by kernel_rfl) (by exact nop_) (PuI.all (by exact pv_Tb2)) rfl (fun w hw => all_ hw) ?_
  refine sd_done (by kernel_rfl) ?_
  refine go_Tb2 ?_
  exact se_ret1 () trivial rfl rfl (by exact sub_)
set_option maxRecDepth 100000 in
set_option maxHeartbeats 4000000 in
theorem addT_new {K : List Fa} {g n c p : Nat} {R : Option Addr} {ts : List TR} {r : TR} (hn : n = ts.length) (hle : ts.length ≤ 32) (hw : addW ts r.m r.l.length = 0) (hp : p ≤ ts.length) (h1 : ∀ k s, k < p → ts[k]? = some s → s.s < r.s) (h2 : ∀ k s, p ≤ k → ts[k]? = some s → r.s < s.s) (hrd : r.rd K) :
    Fn Try.prog 19 #[.pointer (some ⟨g, 0, none⟩), .agg r.C.toArray] (tB g R n c :: tO R n c ts :: K) (Ret (fun _ : Ad => True) (fun _ => .int .i64 0) (fun q => tB g q.A (n + 1) q.c :: tO q.A (n + 1) q.c (ts.take p ++ ⟨r.s, r.m, q.B, q.d, r.l⟩ :: ts.drop p) :: own 24 1 q.B r.l.length q.d (r.l.map fl) :: K)) := by
  refine fn_enter Try.func19 rfl _ Try.ntmps19 (by simp) [(0, .pointer (some ⟨g, 0, none⟩)), (1, .agg r.C.toArray)] (args_of (by simp)) ?_
  refine sc_seq ?_
  refine sc_region ?_
  refine sl_box rfl rfl rfl ?_; intro g3
  obtain ⟨hm, h5, hb⟩ := addW_zero hw
  have h32 : n ≠ 32 := by omega
  subst hn
  have hcall := fun (K' : List Fa) (hv : At (tO R ts.length c ts) K') => srchR (c := c) (Vw.of_own hv) hp h1 (fun k s hk hs => Int.le_of_lt (h2 k s hk hs)) hle
  have hfalse : hitR ts r.s p = false := by
    unfold hitR
    cases hq : ts[p]? with
    | none => rfl
    | some q =>
      have := h2 p q (Nat.le_refl _) hq
      exact decide_eq_false (fun e => by
        have := cmpR_zero.1 e
        omega)
  simp only [hfalse] at hcall
  repeat refine su_Tb2 ?_
  refine sl_nil ?_
  refine se_seq ?_
  refine sc_seq ?_
  refine sc_join (fun _ : Unit => [(0, .pointer (some ⟨g, 0, none⟩)), (3, .pointer (some ⟨g3, 0, none⟩))]) (fun _ => blk g3 52 r.C :: tB g R ts.length c :: tO R ts.length c ts :: K) (fun _ => True) ?_ ?_
  · by_cases hz : ts.length = 0
    · rw [hz]
      refine go_Tb2 ?_
      ((refine sq_region (by kernel_rfl) (by kernel_rfl) ?_; (repeat refine rq_Tb2 ?_); refine sq_end ?_))
      refine go_Tb2 ?_
      exact se_mid () (by exact has_) (by exact sub_) trivial
    · obtain ⟨q0, h0⟩ : ∃ q0, ts[0]? = some q0 := ⟨_, List.getElem?_eq_getElem (by omega)⟩
      rw [neq0_eq h0] at hb
      have heq : q0.l.length = r.l.length := by
        have := of_decide_eq_false hb
        omega
      have hnx : nth (rows TR.C ts) 2 = some (.slice q0.A q0.l.length q0.c) := rows_nth (i := 0) (j := 2) TR.len h0 rfl
      refine sc_form (e := 52) (size := 3) (A := R) (m := ts.length) (by exact at_) (by omega) ?_
      rintro gR rfl
      refine go_Tb2 ?_
      ((refine sq_region (by kernel_rfl) (by kernel_rfl) ?_; (repeat refine rq_Tb2 ?_); refine sq_end ?_))
      refine go_Tb2 ?_
      exact se_mid () (by exact has_) (by exact sub_) trivial
  rintro _ -
  refine sc_seq ?_
  refine sd_drawn (fun W => AllP W [tB g R ts.length c, blk g3 52 r.C]) (fun _ => true) (by kernel_rfl) 12 rfl ?_
  refine sd_yes2 0 rfl (by exact gd_) (by kernel_rfl) (by kernel_rfl) (by exact nop_) (PuI.all (by exact pv_Tb2)) rfl (fun w hw => all_ hw) ?_
  refine sd_yes2 1 rfl (by exact gd_) (by kernel_rfl) (by kernel_rfl) (by exact nop_) (PuI.all (by exact pv_Tb2)) rfl (fun w hw => all_ hw) ?_
  refine sd_yes2 2 rfl (by exact gd_) (by kernel_rfl) (by kernel_rfl) (by exact nop_) (PuI.all (by exact pv_Tb2)) rfl (fun w hw => all_ hw) ?_
  refine sd_yes2 3 rfl (by exact gd_) (by kernel_rfl) (by kernel_rfl) (by exact nop_) (PuI.all (by exact pv_Tb2)) rfl (fun w hw => all_ hw) ?_
  refine sd_yes2 4 rfl (by exact gd_) (by kernel_rfl) (by kernel_rfl) (by exact nop_) (PuI.all (by exact pv_Tb2)) rfl (fun w hw => all_ hw) ?_
  refine sd_yes2 5 rfl (by exact gd_) (by kernel_rfl) (by kernel_rfl) (by exact nop_) (PuI.all (by exact pv_Tb2)) rfl (fun w hw => all_ hw) ?_
  refine sd_one 6 (by kernel_rfl) (sa_sl 6 rfl ?_)
  refine sl_call rfl rfl (by kernel_rfl) rfl Sub.refl (hcall _ (by exact at_)) ?_
  rintro _ -
  refine sl_nil ?_
  refine se_sd (fun _ w hw => all_ hw) ?_
  refine sd_yes2 7 rfl (by exact gd_) (by kernel_rfl) (by kernel_rfl) (by exact nop_) (PuI.all (by exact pv_Tb2)) rfl (fun w hw => all_ hw) ?_
  refine sd_yes2 8 rfl (by exact gd_) (by kernel_rfl) (by kernel_rfl) (by exact nop_) (PuI.all (by exact pv_Tb2)) rfl (fun w hw => all_ hw) ?_
  refine sd_yes2 9 rfl (by exact gd_) (by kernel_rfl) (by kernel_rfl) (by exact nop_) (PuI.all (by exact pv_Tb2)) rfl (fun w hw => all_ hw) ?_
  refine sd_yes2 10 rfl (by exact gd_) (by kernel_rfl) (by kernel_rfl) (by exact nop_) (PuI.all (by exact pv_Tb2)) rfl (fun w hw => all_ hw) ?_
  refine sd_yes2 11 rfl (by exact gd_) (by kernel_rfl) (by kernel_rfl) (by exact nop_) (PuI.all (by exact pv_Tb2)) rfl (fun w hw => all_ hw) ?_
  refine sd_done (by kernel_rfl) ?_
  refine go_Tb2 ?_
  refine sl_call rfl rfl (by kernel_rfl) rfl Sub.refl (clonef_ok (hrd.mono (by exact sub_)) (fls_one _) (by omega)) ?_
  rintro ⟨B, d⟩ -
  dsimp only
  refine go_Tb2 ?_
  have hins := fun (A2 : Option Addr) (c2 gb : Nat) => trinsert_ok (K := own 24 1 B r.l.length d (r.l.map fl) :: blk g3 52 (TR.C ⟨r.s, r.m, B, d, r.l⟩) :: tB g R ts.length c :: tO R ts.length c ts :: K) (A := A2) (c := c2) (g := gb) (i := p) (ss := ts) (s := ⟨r.s, r.m, B, d, r.l⟩) hp (by omega)
  refine sd_drawn (fun W => AllP W [tB g R ts.length c, blk g3 52 (TR.C ⟨r.s, r.m, B, d, r.l⟩)]) (fun i => !(List.contains [12] i)) (by kernel_rfl) 13 rfl ?_
  refine sd_yes2 0 rfl (by exact gd_) (by kernel_rfl) (by kernel_rfl) (by exact nop_) (PuI.all (by exact pv_Tb2)) rfl (fun w hw => all_ hw) ?_
  refine sd_yes2 1 rfl (by exact gd_) (by kernel_rfl) (by kernel_rfl) (by exact nop_) (PuI.all (by exact pv_Tb2)) rfl (fun w hw => all_ hw) ?_
  refine sd_yes2 2 rfl (by exact gd_) (by kernel_rfl) (by kernel_rfl) (by exact nop_) (PuI.all (by exact pv_Tb2)) rfl (fun w hw => all_ hw) ?_
  refine sd_yes2 3 rfl (by exact gd_) (by kernel_rfl) (by kernel_rfl) (by exact nop_) (PuI.all (by exact pv_Tb2)) rfl (fun w hw => all_ hw) ?_
  refine sd_yes2 4 rfl (by exact gd_) (by kernel_rfl) (by kernel_rfl) (by exact nop_) (PuI.all (by exact pv_Tb2)) rfl (fun w hw => all_ hw) ?_
  refine sd_yes2 6 rfl (by exact gd_) (by kernel_rfl) (by kernel_rfl) (by exact nop_) (PuI.all (by exact pv_Tb2)) rfl (fun w hw => all_ hw) ?_
  refine sd_yes2 7 rfl (by exact gd_) (by kernel_rfl) (by kernel_rfl) (by exact nop_) (PuI.all (by exact pv_Tb2)) rfl (fun w hw => all_ hw) ?_
  refine sd_two 5 8 (by kernel_rfl) (sa_sl 5 rfl ?_) (sa_sl 8 rfl ?_)
  · refine sl_call rfl rfl (by kernel_rfl) rfl Sub.refl (trclone_ok (Vw.of_own (c := c) (e := 52) (by exact at_)) (rows_one_cell TR.one _) (by omega)) ?_
    rintro ⟨A1, c1⟩ -
    refine sl_nil ?_
    refine se_sd (fun _ w hw => all_ hw) ?_
    refine sd_one 8 (by kernel_rfl) (sa_sl 8 rfl ?_)
    refine sl_build (size := 3) (e := 52) (cells := TR.C ⟨r.s, r.m, B, d, r.l⟩) rfl (fun W => by kernel_rfl) rfl (by decide) rfl ?_
    intro gb
    refine sl_nil ?_
    refine se_sd (fun _ w hw => all_ hw) ?_
    refine sd_one 9 (by kernel_rfl) (sa_sl 9 rfl ?_)
    refine sl_call rfl rfl (by kernel_rfl) rfl (by exact sub_) (hins A1 c1 gb) ?_
    rintro ⟨A2, c2⟩ -
    dsimp only
    refine sl_nil ?_
    refine se_sd (fun _ w hw => all_ hw) ?_
    refine sd_yes2 10 rfl (by exact gd_) (by kernel_rfl) (by kernel_rfl) (by exact nop_) (PuI.all (by exact pv_Tb2)) rfl (fun w hw => all_ hw) ?_
    refine sd_yes2 11 rfl (by exact gd_) (by kernel_rfl) (by kernel_rfl) (by exact nop_) (PuI.all (by exact pv_Tb2)) rfl (fun w hw => all_ hw) ?_
    refine sd_one 12 (by kernel_rfl) (sa_sl 12 rfl ?_)
    refine sto_Tb2 ?_
    refine sl_nil ?_
    refine se_sd (fun h => absurd h (by decide)) ?_
    refine sd_done (by kernel_rfl) ?_
    refine go_Tb2 ?_
    exact se_ret1 ⟨A2, c2, B, d⟩ trivial rfl rfl (by exact sub_)
  · refine sl_build (size := 3) (e := 52) (cells := TR.C ⟨r.s, r.m, B, d, r.l⟩) rfl (fun W => by kernel_rfl) rfl (by decide) rfl ?_
    intro gb
    refine sl_nil ?_
    refine se_sd (fun _ w hw => all_ hw) ?_
    refine sd_one 5 (by kernel_rfl) (sa_sl 5 rfl ?_)
    refine sl_call rfl rfl (by kernel_rfl) rfl Sub.refl (trclone_ok (Vw.of_own (c := c) (e := 52) (by exact at_)) (rows_one_cell TR.one _) (by omega)) ?_
    rintro ⟨A1, c1⟩ -
    refine sl_nil ?_
    refine se_sd (fun _ w hw => all_ hw) ?_
    refine sd_one 9 (by kernel_rfl) (sa_sl 9 rfl ?_)
    refine sl_call rfl rfl (by kernel_rfl) rfl (by exact sub_) (hins A1 c1 gb) ?_
    rintro ⟨A2, c2⟩ -
    dsimp only
    refine sl_nil ?_
    refine se_sd (fun _ w hw => all_ hw) ?_
    refine sd_yes2 10 rfl (by exact gd_) (by kernel_rfl) (by kernel_rfl) (by exact nop_) (PuI.all (by exact pv_Tb2)) rfl (fun w hw => all_ hw) ?_
    refine sd_yes2 11 rfl (by exact gd_) (by kernel_rfl) (by kernel_rfl) (by exact nop_) (PuI.all (by exact pv_Tb2)) rfl (fun w hw => all_ hw) ?_
    refine sd_one 12 (by kernel_rfl) (sa_sl 12 rfl ?_)
    refine sto_Tb2 ?_
    refine sl_nil ?_
    refine se_sd (fun h => absurd h (by decide)) ?_
    refine sd_done (by kernel_rfl) ?_
    refine go_Tb2 ?_
    exact se_ret1 ⟨A2, c2, B, d⟩ trivial rfl rfl (by exact sub_)
end Go.Proofs.Ytidphdlhghgglaa
