/- A table of no row or one. -/
import Derived.Test.YtidphdlhghgglaaSa
import Derived.Test.YtidphdlhghgglaaReg4
namespace Go.Proofs.Ytidphdlhghgglaa
open Go.RowKit
attribute [local irreducible] Go.Calls Go.Exit.then Go.Exit.inBlock Go.bodyPost Go.Code.wp Go.wpList
theorem infoRow : (Try.prog.info? 52).map (fun i => (i.zero, i.size, i.bytes)) = some (some (.agg #[.int .u64 0, .int .i64 0, .slice none 0 0]), 3, 40) := by kernel_rfl
theorem row_one {s m : Int} {A : Option Addr} {n c : Nat} : ∀ u ∈ [Value.int .u64 s, .int .i64 m, .slice A n c], u.oneCell' = true := by
  intro u hu
  simp only [List.mem_cons, List.not_mem_nil, or_false] at hu
  rcases hu with rfl | rfl | rfl <;> rfl
structure Ad where
  A : Option Addr
  c : Nat
  B : Option Addr
  d : Nat
theorem nth_Sn {φ : Prop} (h : φ := by (first | rfl | assumption)) : φ := h
theorem mid_Sn {φ : Prop} (h : φ := by (first | exact Mid.all | exact Mid.all | exact Mid.head)) : φ := h
theorem sz_Sn {φ : Prop} (h : φ := by (first | rfl | (rfl; first | done | fail))) : φ := h
theorem one_Sn {φ : Prop} (h : φ := by (first | assumption | exact first | exact row_one | exact one_bytes _ | (simp only [List.mem_cons, List.not_mem_nil, or_false, forall_eq_or_imp, forall_eq]; decide) | exact one_bytes _)) : φ := h
theorem set_Sn {φ : Prop} (h : φ := by (first | (fail) | ((repeat (first | exact SetAt.here | apply SetAt.there)); first | done | fail))) : φ := h
theorem cl_Sn {φ : Prop} (h : φ := by first | rfl | exact .t | exact .f | exact .t (by omega) | exact .f (by omega) | exact .u | exact .i (by (first | exact .t (by omega) | exact .f (by omega) | exact .u | exact .i (by omega) | exact .v (by omega) | exact .b (by omega) | exact .w | rfl | omega)) | exact .v (by omega) | exact .b (by omega) | exact .q (by omega) | exact .w | exact .b (by exact at_) rfl (by exact nth_Sn) | exact .w (by exact at_) rfl rfl (by exact sz_Sn) | exact .s (by exact at_) (by exact mid_Sn) rfl rfl (by exact sz_Sn) | exact .z rfl rfl ⟨by kernel_rfl⟩ | exact .b rfl rfl ⟨by kernel_rfl⟩ | exact .a rfl rfl ⟨by kernel_rfl⟩ | exact .o rfl | exact .s | exact .n | exact .p rfl | exact .q rfl | exact .c rfl | exact .d rfl | exact .n rfl rfl (by omega) | exact .a rfl rfl (by omega) | exact .p rfl rfl (by omega) (by omega) | exact .y rfl rfl (by omega) (by omega) | exact .o (by exact at_) (by omega) rfl (by exact nth_Sn) | exact .m (by exact at_) (by omega) (by exact mid_Sn) rfl rfl (by exact sz_Sn) | exact .mlen (by exact at_) rfl | exact .t (by exact at_) rfl rfl (by first | exact True.intro | rfl) (by assumption) | exact .f (by exact at_) rfl rfl (by first | exact True.intro | rfl) (by assumption) rfl | exact .t1 (by exact at_) rfl rfl (by first | exact True.intro | rfl) (by assumption) | exact .f1 (by exact at_) rfl rfl (by first | exact True.intro | rfl) (by assumption) rfl | exact .r rfl rfl (by omega) (by omega) (by exact nth_Sn) rfl | exact .s rfl (by omega) (by assumption) | exact at_ | assumption | exact .r rfl rfl | exact .h rfl rfl rfl (by omega) | exact .l rfl rfl rfl (by omega) (by omega) | exact .g rfl rfl rfl rfl (by omega) (by omega) | exact .h rfl rfl (toN_ (by omega)) (by omega) | exact .l rfl rfl (toN_ (by omega)) (by omega) (by omega) | exact .g rfl rfl (toN_ (by omega)) (toN_ (by omega)) (by omega) (by omega) | exact .o (by decide) | exact .f (by decide) | exact .n (by omega) (by first | decide | (show _ ≤ ((64 : Nat) : Int); omega)) | (constructor; (repeat (first | exact .t (by omega) | exact .f (by omega) | exact .u | exact .i (by omega) | exact .v (by omega) | exact .b (by omega) | exact .w | rfl | omega)); first | done | fail) | omega | (show _ ≤ ((64 : Nat) : Int); omega)) : φ := h
theorem pv_Sn {φ : Prop} (h : φ := by constructor; (repeat exact cl_Sn); first | done | fail) : φ := h
theorem su_Sn {φ ψ : Prop} (k : ψ) (h : Hide ψ → φ := by (intro k; (first | refine sl_pu (PuI.sep (by exact pv_Sn)) rfl ?_ | refine sl_yes rfl rfl ?_ | refine sl_no rfl rfl rfl ?_ | refine sl_off rfl rfl rfl ?_ | (fail)); exact k.out)) : φ := h ⟨k⟩
theorem rq_Sn {φ ψ : Prop} (k : ψ) (h : Hide ψ → φ := by (intro k; (first | refine wq_pu (PuI.sep (by exact pv_Sn)) rfl ?_ | refine wq_yes rfl rfl ?_ | refine wq_no rfl rfl rfl ?_ | refine wq_off rfl rfl rfl ?_ | (fail)); exact k.out)) : φ := h ⟨k⟩
theorem sto_Sn {φ ψ : Prop} (k : ψ) (h : Hide ψ → φ := by (intro k; (first | refine sl_store rfl (by exact pick_) rfl rfl (by kernel_rfl) (by exact set_Sn) ?_ | refine sl_store_whole rfl (by exact pick_) rfl (by exact sz_Sn) (by exact sz_Sn) (by exact one_Sn) ?_); exact k.out)) : φ := h ⟨k⟩
theorem go_Sn {φ ψ : Prop} (k : ψ) (h : Hide ψ → φ := by (intro k; (repeat (first | refine su_Sn ?_ | refine so_ ?_ | refine sto_Sn ?_)); exact k.out)) : φ := h ⟨k⟩
set_option maxRecDepth 100000 in
theorem clonef_ok {K : List Fa} {A : Option Addr} {n c : Nat} {xs : List Value} (hr : Vw K (fun w => Reads w 1 A n xs)) (h1 : ∀ u ∈ xs, u.oneCell' = true) (hn : n ≤ 1000000) :
    Fn Try.prog 36 #[.slice A n c] K (Ret (fun _ : Option Addr × Nat => True) (fun q => .slice q.1 n q.2) (fun q => own 24 1 q.1 n q.2 xs :: K)) := by
  refine fn_enter Try.func36 rfl _ Try.ntmps36 (by simp) [(0, .slice A n c)] (args_of (by simp)) ?_
  cases A with
  | none =>
    refine sc_know (φ := n = 0 ∧ xs = []) (fun w hw => ?_) ?_
    · have h := hr w hw
      rcases Nat.eq_zero_or_pos n with h0 | h0
      · subst h0
        exact ⟨rfl, List.eq_nil_of_length_eq_zero (by simpa using h.1)⟩
      · obtain ⟨ad, h2, _⟩ := h.2 h0
        cases h2
    rintro ⟨rfl, rfl⟩
    refine go_Sn ?_
    exact se_ret1 (none, 0) trivial rfl rfl (Sub.own_nil Sub.refl)
  | some a =>
    refine go_Sn ?_
    refine sl_build0 (e := 24) (size := 1) rfl (fun W => by kernel_rfl) rfl ?_
    intro g0
    refine go_Sn ?_
    refine sl_app rfl (by exact pick_) rfl (hr.mono (by exact sub_)) h1 rfl infoF64 (by decide) (by decide) rfl (by unfold maxLen; omega) (by omega) ?_
    intro A2 c2
    rw [Nat.zero_add, List.nil_append]
    refine go_Sn ?_
    exact se_ret1 (A2, c2) trivial rfl rfl (by exact sub_)
set_option maxRecDepth 100000 in
theorem cloneR_nil {K : List Fa} : Fn Try.prog 38 #[.slice none 0 0] K (Ret (fun _ : Unit => True) (fun _ => .slice none 0 0) (fun _ => K)) := by
  refine fn_enter Try.func38 rfl _ Try.ntmps38 (by simp) [(0, .slice none 0 0)] (args_of (by simp)) ?_
  refine go_Sn ?_
  exact se_ret1 () trivial rfl rfl (by exact sub_)
set_option maxRecDepth 100000 in
theorem search_nil {K : List Fa} {s : Int} {f : Value} : Fn Try.prog 34 #[.slice none 0 0, .int .u64 s, f] K (Ret (fun _ : Unit => True) (fun _ => .tuple #[.int .i64 0, .bool false]) (fun _ => K)) := by
  refine fn_enter Try.func34 rfl _ Try.ntmps34 (by simp) [(0, .slice none 0 0), (1, .int .u64 s), (2, f)] (args_of (by simp)) ?_
  refine go_Sn ?_
  refine sc_for (fun _ : Unit => [(0, .slice none 0 0), (1, .int .u64 s), (2, f), (8, .int .i64 0), (9, .int .i64 0), (10, .int .i64 0)]) (fun _ => K) (fun _ => True) (fun _ => 0) () (by exact has_) (by exact sub_) trivial ?_
  rintro _ -
  refine go_Sn ?_
  exact se_ret2 () trivial rfl rfl rfl rfl (by exact sub_)
set_option maxRecDepth 100000 in
theorem insert_nil {K : List Fa} {g : Nat} {s m : Int} {A : Option Addr} {n c : Nat} (hv : At (own 52 3 (some ⟨g, 0, none⟩) 1 1 [.int .u64 s, .int .i64 m, .slice A n c]) K) :
    Fn Try.prog 37 #[.slice none 0 0, .int .i64 0, .slice (some ⟨g, 0, none⟩) 1 1] K (Ret (fun _ : Option Addr × Nat => True) (fun q => .slice q.1 1 q.2) (fun q => own 52 3 q.1 1 q.2 [.int .u64 s, .int .i64 m, .slice A n c] :: K)) := by
  refine fn_enter Try.func37 rfl _ Try.ntmps37 (by simp) [(0, .slice none 0 0), (1, .int .i64 0), (2, .slice (some ⟨g, 0, none⟩) 1 1)] (args_of (by simp)) ?_
  refine go_Sn ?_
  refine sl_sub (L' := own 52 3 none 0 0 [] :: K) (Sub.own_nil Sub.refl) ?_
  refine sl_app (A := none) (k := 0) (c := 0) rfl (by exact pick_) rfl ((Vw.of_own hv).mono (by exact sub_)) row_one rfl infoRow (by decide) (by decide) rfl (by decide) (by decide) ?_
  intro A2 c2
  rw [Nat.zero_add, List.nil_append]
  refine go_Sn ?_
  exact se_ret1 (A2, c2) trivial rfl rfl (by exact sub_)
set_option maxRecDepth 100000 in
set_option maxHeartbeats 2000000 in
theorem add_nilT {K : List Fa} {s m : Int} {A : Option Addr} {n c : Nat} :
    Fn Try.prog 19 #[.pointer none, .agg #[.int .u64 s, .int .i64 m, .slice A n c]] K (Ret (fun _ : Unit => True) (fun _ => .int .i64 1) (fun _ => K)) := by
  refine fn_enter Try.func19 rfl _ Try.ntmps19 (by simp) [(0, .pointer none), (1, .agg #[.int .u64 s, .int .i64 m, .slice A n c])] (args_of (by simp)) ?_
  refine sc_seq ?_
  refine sc_region ?_
  refine sl_box rfl rfl rfl ?_; intro g3
  refine go_Sn ?_
  exact se_ret1 () trivial rfl rfl (by exact sub_)
set_option maxRecDepth 100000 in
set_option maxHeartbeats 2000000 in
theorem add_first {K : List Fa} {g gi : Nat} {xs : List Value} (h1 : ∀ u ∈ xs, u.oneCell' = true) :
    Fn Try.prog 19 #[.pointer (some ⟨g, 0, none⟩), .agg #[.int .u64 3, .int .i64 1, .slice (some ⟨gi, 0, none⟩) 2 2]] (blk g 49 [.slice none 0 0] :: own 24 1 (some ⟨gi, 0, none⟩) 2 2 xs :: K) (Ret (fun _ : Ad => True) (fun _ => .int .i64 0) (fun q => blk g 49 [.slice q.A 1 q.c] :: own 52 3 q.A 1 q.c [.int .u64 3, .int .i64 1, .slice q.B 2 q.d] :: own 24 1 q.B 2 q.d xs :: own 24 1 (some ⟨gi, 0, none⟩) 2 2 xs :: K)) := by
  refine fn_enter Try.func19 rfl _ Try.ntmps19 (by simp) [(0, .pointer (some ⟨g, 0, none⟩)), (1, .agg #[.int .u64 3, .int .i64 1, .slice (some ⟨gi, 0, none⟩) 2 2])] (args_of (by simp)) ?_
  refine sc_seq ?_
  refine sc_region ?_
  refine sl_box rfl rfl rfl ?_; intro g3
  refine go_Sn ?_
  refine sq_region (by kernel_rfl) (by kernel_rfl) ?_
  repeat refine rq_Sn ?_
  refine sq_end ?_
  refine go_Sn ?_
  refine sd_drawn (fun W => AllP W [blk g 49 [.slice none 0 0], blk g3 52 [.int .u64 3, .int .i64 1, .slice (some ⟨gi, 0, none⟩) 2 2]]) (fun _ => true) (by kernel_rfl) 12 rfl ?_
  refine sd_yes2 0 rfl (by exact gd_) (by kernel_rfl) (by kernel_rfl) (by exact nop_) (PuI.all (by exact pv_Sn)) rfl (fun w hw => all_ hw) ?_
  refine sd_yes2 1 rfl (by exact gd_) (by kernel_rfl) (by kernel_rfl) (by exact nop_) (PuI.all (by exact pv_Sn)) rfl (fun w hw => all_ hw) ?_
  refine sd_yes2 2 rfl (by exact gd_) (by kernel_rfl) (by kernel_rfl) (by exact nop_) (PuI.all (by exact pv_Sn)) rfl (fun w hw => all_ hw) ?_
  refine sd_yes2 3 rfl (by exact gd_) (by kernel_rfl) (by kernel_rfl) (by exact nop_) (PuI.all (by exact pv_Sn)) rfl (fun w hw => all_ hw) ?_
  refine sd_yes2 4 rfl (by exact gd_) (by kernel_rfl) (by kernel_rfl) (by exact nop_) (PuI.all (by exact pv_Sn)) rfl (fun w hw => all_ hw) ?_
  refine sd_yes2 5 rfl (by exact gd_) (by kernel_rfl) (by kernel_rfl) (by exact nop_) (PuI.all (by exact pv_Sn)) rfl (fun w hw => all_ hw) ?_
  refine sd_one 6 (by kernel_rfl) (sa_sl 6 rfl ?_)
  refine sl_call rfl rfl (by kernel_rfl) rfl Sub.refl search_nil ?_
  rintro _ -
  refine sl_nil ?_
  refine se_sd (fun _ w hw => all_ hw) ?_
  refine sd_yes2 7 rfl (by exact gd_) (by kernel_rfl) (by kernel_rfl) (by exact nop_) (PuI.all (by exact pv_Sn)) rfl (fun w hw => all_ hw) ?_
  refine sd_yes2 8 rfl (by exact gd_) (by kernel_rfl) (by kernel_rfl) (by exact nop_) (PuI.all (by exact pv_Sn)) rfl (fun w hw => all_ hw) ?_
  refine sd_yes2 9 rfl (by exact gd_) (by kernel_rfl) (by kernel_rfl) (by exact nop_) (PuI.all (by exact pv_Sn)) rfl (fun w hw => all_ hw) ?_
  refine sd_yes2 10 rfl (by exact gd_) (by kernel_rfl) (by kernel_rfl) (by exact nop_) (PuI.all (by exact pv_Sn)) rfl (fun w hw => all_ hw) ?_
  refine sd_yes2 11 rfl (by exact gd_) (by kernel_rfl) (by kernel_rfl) (by exact nop_) (PuI.all (by exact pv_Sn)) rfl (fun w hw => all_ hw) ?_
  refine sd_done (by kernel_rfl) ?_
  refine go_Sn ?_
  refine sl_call rfl rfl (by kernel_rfl) rfl Sub.refl (clonef_ok (Vw.of_own (e := 24) (A := some ⟨gi, 0, none⟩) (c := 2) (xs := xs) (by exact at_)) h1 (by decide)) ?_
  rintro ⟨B, d⟩ -
  dsimp only
  refine go_Sn ?_
  refine sd_drawn (fun W => AllP W [blk g 49 [.slice none 0 0], blk g3 52 [.int .u64 3, .int .i64 1, .slice B 2 d]]) (fun i => !(List.contains [12] i)) (by kernel_rfl) 13 rfl ?_
  refine sd_yes2 0 rfl (by exact gd_) (by kernel_rfl) (by kernel_rfl) (by exact nop_) (PuI.all (by exact pv_Sn)) rfl (fun w hw => all_ hw) ?_
  refine sd_yes2 1 rfl (by exact gd_) (by kernel_rfl) (by kernel_rfl) (by exact nop_) (PuI.all (by exact pv_Sn)) rfl (fun w hw => all_ hw) ?_
  refine sd_yes2 2 rfl (by exact gd_) (by kernel_rfl) (by kernel_rfl) (by exact nop_) (PuI.all (by exact pv_Sn)) rfl (fun w hw => all_ hw) ?_
  refine sd_yes2 3 rfl (by exact gd_) (by kernel_rfl) (by kernel_rfl) (by exact nop_) (PuI.all (by exact pv_Sn)) rfl (fun w hw => all_ hw) ?_
  refine sd_yes2 4 rfl (by exact gd_) (by kernel_rfl) (by kernel_rfl) (by exact nop_) (PuI.all (by exact pv_Sn)) rfl (fun w hw => all_ hw) ?_
  refine sd_yes2 6 rfl (by exact gd_) (by kernel_rfl) (by kernel_rfl) (by exact nop_) (PuI.all (by exact pv_Sn)) rfl (fun w hw => all_ hw) ?_
  refine sd_yes2 7 rfl (by exact gd_) (by kernel_rfl) (by kernel_rfl) (by exact nop_) (PuI.all (by exact pv_Sn)) rfl (fun w hw => all_ hw) ?_
  refine sd_two 5 8 (by kernel_rfl) (sa_sl 5 rfl ?_) (sa_sl 8 rfl ?_)
  · refine sl_call rfl rfl (by kernel_rfl) rfl Sub.refl cloneR_nil ?_
    rintro _ -
    refine sl_nil ?_
    refine se_sd (fun _ w hw => all_ hw) ?_
    refine sd_one 8 (by kernel_rfl) (sa_sl 8 rfl ?_)
    refine sl_build (size := 3) (e := 52) (cells := [.int .u64 3, .int .i64 1, .slice B 2 d]) rfl (fun W => by kernel_rfl) rfl (by decide) rfl ?_
    intro gb
    refine sl_nil ?_
    refine se_sd (fun _ w hw => all_ hw) ?_
    refine sd_one 9 (by kernel_rfl) (sa_sl 9 rfl ?_)
    refine sl_call rfl rfl (by kernel_rfl) rfl Sub.refl (insert_nil (g := gb) (by exact at_)) ?_
    rintro ⟨A2, c2⟩ -
    dsimp only
    refine sl_nil ?_
    refine se_sd (fun _ w hw => all_ hw) ?_
    refine sd_yes2 10 rfl (by exact gd_) (by kernel_rfl) (by kernel_rfl) (by exact nop_) (PuI.all (by exact pv_Sn)) rfl (fun w hw => all_ hw) ?_
    refine sd_yes2 11 rfl (by exact gd_) (by kernel_rfl) (by kernel_rfl) (by exact nop_) (PuI.all (by exact pv_Sn)) rfl (fun w hw => all_ hw) ?_
    refine sd_one 12 (by kernel_rfl) (sa_sl 12 rfl ?_)
    refine sto_Sn ?_
    refine sl_nil ?_
    refine se_sd (fun h => absurd h (by decide)) ?_
    refine sd_done (by kernel_rfl) ?_
    refine go_Sn ?_
    exact se_ret1 ⟨A2, c2, B, d⟩ trivial rfl rfl (by exact sub_)
  · refine sl_build (size := 3) (e := 52) (cells := [.int .u64 3, .int .i64 1, .slice B 2 d]) rfl (fun W => by kernel_rfl) rfl (by decide) rfl ?_
    intro gb
    refine sl_nil ?_
    refine se_sd (fun _ w hw => all_ hw) ?_
    refine sd_one 5 (by kernel_rfl) (sa_sl 5 rfl ?_)
    refine sl_call rfl rfl (by kernel_rfl) rfl Sub.refl cloneR_nil ?_
    rintro _ -
    refine sl_nil ?_
    refine se_sd (fun _ w hw => all_ hw) ?_
    refine sd_one 9 (by kernel_rfl) (sa_sl 9 rfl ?_)
    refine sl_call rfl rfl (by kernel_rfl) rfl Sub.refl (insert_nil (g := gb) (by exact at_)) ?_
    rintro ⟨A2, c2⟩ -
    dsimp only
    refine sl_nil ?_
    refine se_sd (fun _ w hw => all_ hw) ?_
    refine sd_yes2 10 rfl (by exact gd_) (by kernel_rfl) (by kernel_rfl) (by exact nop_) (PuI.all (by exact pv_Sn)) rfl (fun w hw => all_ hw) ?_
    refine sd_yes2 11 rfl (by exact gd_) (by kernel_rfl) (by kernel_rfl) (by exact nop_) (PuI.all (by exact pv_Sn)) rfl (fun w hw => all_ hw) ?_
    refine sd_one 12 (by kernel_rfl) (sa_sl 12 rfl ?_)
    refine sto_Sn ?_
    refine sl_nil ?_
    refine se_sd (fun h => absurd h (by decide)) ?_
    refine sd_done (by kernel_rfl) ?_
    refine go_Sn ?_
    exact se_ret1 ⟨A2, c2, B, d⟩ trivial rfl rfl (by exact sub_)
set_option maxRecDepth 100000 in
theorem rows_nilT {K : List Fa} : Fn Try.prog 20 #[.pointer none] K (Ret (fun _ : Unit => True) (fun _ => .slice none 0 0) (fun _ => K)) := by
  refine fn_enter Try.func20 rfl _ Try.ntmps20 (by simp) [(0, .pointer none)] (args_of (by simp)) ?_
  refine go_Sn ?_
  exact se_ret1 () trivial rfl rfl (by exact sub_)
set_option maxRecDepth 100000 in
theorem column_nilT {K : List Fa} {k : Int} : Fn Try.prog 21 #[.pointer none, .int .i64 k] K (Ret (fun _ : Unit => True) (fun _ => .tuple #[.slice none 0 0, .bool false]) (fun _ => K)) := by
  refine fn_enter Try.func21 rfl _ Try.ntmps21 (by simp) [(0, .pointer none), (1, .int .i64 k)] (args_of (by simp)) ?_
  refine go_Sn ?_
  exact se_ret2 () trivial rfl rfl rfl rfl (by exact sub_)
set_option maxRecDepth 100000 in
theorem mean_nilT {K : List Fa} {k : Int} : Fn Try.prog 22 #[.pointer none, .int .i64 k] K (Ret (fun _ : Unit => True) (fun _ => .tuple #[.float .f64 0, .int .i64 6]) (fun _ => K)) := by
  refine fn_enter Try.func22 rfl _ Try.ntmps22 (by simp) [(0, .pointer none), (1, .int .i64 k)] (args_of (by simp)) ?_
  refine go_Sn ?_
  refine sl_call rfl rfl (by kernel_rfl) rfl Sub.refl column_nilT ?_
  rintro _ -
  refine go_Sn ?_
  exact se_ret2 () trivial rfl rfl rfl rfl (by exact sub_)
def RwE (ga c : Nat) : Option Ad → Env
  | none => [(3, .slice none 0 0), (11, .slice (some ⟨ga, 0, none⟩) 1 c), (12, .int .i64 1), (13, .int .i64 0)]
  | some q => [(3, .slice q.A 1 q.c), (11, .slice (some ⟨ga, 0, none⟩) 1 c), (12, .int .i64 1), (13, .int .i64 1)]
def RwH (K : List Fa) (s m : Int) (n : Nat) (xs : List Value) : Option Ad → List Fa
  | none => K
  | some q => own 52 3 q.A 1 q.c [.int .u64 s, .int .i64 m, .slice q.B n q.d] :: own 24 1 q.B n q.d xs :: K
def rwM : Option Ad → Nat
  | none => 1
  | some _ => 0
set_option maxRecDepth 100000 in
set_option maxHeartbeats 2000000 in
theorem rowsT_one {K : List Fa} {g ga c n d : Nat} {s m : Int} {B : Option Addr} {xs : List Value} (hT : At (blk g 49 [.slice (some ⟨ga, 0, none⟩) 1 c]) K) (hR : At (own 52 3 (some ⟨ga, 0, none⟩) 1 c [.int .u64 s, .int .i64 m, .slice B n d]) K) (hx : Vw K (fun w => Reads w 1 B n xs)) (h1 : ∀ u ∈ xs, u.oneCell' = true) (hn : n ≤ 1000000) :
    Fn Try.prog 20 #[.pointer (some ⟨g, 0, none⟩)] K (Ret (fun _ : Ad => True) (fun q => .slice q.A 1 q.c) (fun q => own 52 3 q.A 1 q.c [.int .u64 s, .int .i64 m, .slice q.B n q.d] :: own 24 1 q.B n q.d xs :: K)) := by
  refine fn_enter Try.func20 rfl _ Try.ntmps20 (by simp) [(0, .pointer (some ⟨g, 0, none⟩))] (args_of (by simp)) ?_
  refine go_Sn ?_
  refine sc_for (RwE ga c) (RwH K s m n xs) (fun _ => True) rwM none (by show Has _ [_, _, _, _]; exact has_) (by show Sub _ K; exact sub_) trivial ?_
  rintro (_ | ⟨A2, c2, B2, d2⟩) -
  · show SC _ _ _ _ [(3, .slice none 0 0), (11, .slice (some ⟨ga, 0, none⟩) 1 c), (12, .int .i64 1), (13, .int .i64 0)] K
    refine go_Sn ?_
    refine sl_alloc rfl rfl rfl ?_; intro g5
    refine sl_store_whole (cl := [.int .u64 s, .int .i64 m, .slice B n d]) rfl (by exact pick_) rfl rfl (by rfl) row_one ?_
    refine go_Sn ?_
    refine sl_call rfl rfl (by kernel_rfl) rfl Sub.refl (clonef_ok (hx.mono (by exact sub_)) h1 hn) ?_
    rintro ⟨B2, d2⟩ -
    dsimp only
    refine go_Sn ?_
    refine sl_build (size := 3) (e := 52) (cells := [.int .u64 s, .int .i64 m, .slice B2 n d2]) rfl (fun W => by kernel_rfl) rfl (by decide) rfl ?_
    intro gb
    refine sl_sub (L' := own 52 3 none 0 0 [] :: own 52 3 (some ⟨gb, 0, none⟩) 1 1 [.int .u64 s, .int .i64 m, .slice B2 n d2] :: own 24 1 B2 n d2 xs :: K) (Sub.own_nil (by exact sub_)) ?_
    refine sl_app (A := none) (k := 0) (c := 0) rfl (by exact pick_) rfl (Vw.of_own (e := 52) (A := some ⟨gb, 0, none⟩) (c := 1) (by exact at_)) row_one rfl infoRow (by decide) (by decide) rfl (by decide) (by decide) ?_
    intro A2 c2
    rw [Nat.zero_add, List.nil_append]
    refine go_Sn ?_
    exact se_round (some ⟨A2, c2, B2, d2⟩) (by show Has _ [_, _, _, _]; exact has_) (by show Sub _ (_ :: _ :: K); exact sub_) trivial (by show 0 < 1; decide)
  · show SC _ _ _ _ [(3, .slice A2 1 c2), (11, .slice (some ⟨ga, 0, none⟩) 1 c), (12, .int .i64 1), (13, .int .i64 1)] (own 52 3 A2 1 c2 [.int .u64 s, .int .i64 m, .slice B2 n d2] :: own 24 1 B2 n d2 xs :: K)
    refine go_Sn ?_
    exact se_ret1 ⟨A2, c2, B2, d2⟩ trivial rfl rfl (by exact sub_)
def ClE (at' ga c : Nat) : Option (Option Addr × Nat) → Env
  | none => [(1, .int .i64 at'), (6, .slice none 0 0), (38, .slice (some ⟨ga, 0, none⟩) 1 c), (39, .int .i64 1), (40, .int .i64 0)]
  | some q => [(1, .int .i64 at'), (6, .slice q.1 1 q.2), (38, .slice (some ⟨ga, 0, none⟩) 1 c), (39, .int .i64 1), (40, .int .i64 1)]
def ClH (K : List Fa) (v : Nat) : Option (Option Addr × Nat) → List Fa
  | none => K
  | some q => own 24 1 q.1 1 q.2 [.float .f64 v] :: K
def clM : Option (Option Addr × Nat) → Nat
  | none => 1
  | some _ => 0
set_option maxRecDepth 100000 in
set_option maxHeartbeats 2000000 in
theorem column_one {K : List Fa} {g ga c n d gB k v : Nat} {s m : Int} {xs : List Value} (hT : At (blk g 49 [.slice (some ⟨ga, 0, none⟩) 1 c]) K) (hR : At (own 52 3 (some ⟨ga, 0, none⟩) 1 c [.int .u64 s, .int .i64 m, .slice (some ⟨gB, 0, none⟩) n d]) K) (hx : Vw K (fun w => Reads w 1 (some ⟨gB, 0, none⟩) n xs)) (hk : k < n) (hn : n ≤ 1000000) (hv : nth xs (k * 1) = some (.float .f64 v)) :
    Fn Try.prog 21 #[.pointer (some ⟨g, 0, none⟩), .int .i64 k] K (Ret (fun _ : Option Addr × Nat => True) (fun q => .tuple #[.slice q.1 1 q.2, .bool true]) (fun q => own 24 1 q.1 1 q.2 [.float .f64 v] :: K)) := by
  refine fn_enter Try.func21 rfl _ Try.ntmps21 (by simp) [(0, .pointer (some ⟨g, 0, none⟩)), (1, .int .i64 k)] (args_of (by simp)) ?_
  refine go_Sn ?_
  refine sl_pu (pu_ldr (size := 3) (Vw.of_own hR) (by decide) (i := 2) rfl rfl rfl) rfl ?_
  refine go_Sn ?_
  refine sc_for (ClE k ga c) (ClH K v) (fun _ => True) clM none (by show Has _ [_, _, _, _, _]; exact has_) (by show Sub _ K; exact sub_) trivial ?_
  rintro (_ | ⟨A2, c2⟩) -
  · show SC _ _ _ _ [(1, .int .i64 k), (6, .slice none 0 0), (38, .slice (some ⟨ga, 0, none⟩) 1 c), (39, .int .i64 1), (40, .int .i64 0)] K
    refine go_Sn ?_
    refine sl_alloc rfl rfl rfl ?_; intro g5
    refine sl_store_whole (cl := [.int .u64 s, .int .i64 m, .slice (some ⟨gB, 0, none⟩) n d]) rfl (by exact pick_) rfl rfl (by rfl) row_one ?_
    refine go_Sn ?_
    refine sl_pu (pu_ldr (hx.mono (by exact sub_)) (by omega) rfl rfl hv) rfl ?_
    refine go_Sn ?_
    refine sl_build (size := 1) (e := 24) (cells := [Value.float .f64 v]) rfl (fun W => by kernel_rfl) rfl (by decide) rfl ?_
    intro gb
    refine sl_sub (L' := own 24 1 none 0 0 [] :: own 24 1 (some ⟨gb, 0, none⟩) 1 1 [Value.float .f64 v] :: K) (Sub.own_nil (by exact sub_)) ?_
    refine sl_app (A := none) (k := 0) (c := 0) rfl (by exact pick_) rfl (Vw.of_own (e := 24) (A := some ⟨gb, 0, none⟩) (c := 1) (by exact at_)) fl_one rfl infoF64 (by decide) (by decide) rfl (by decide) (by decide) ?_
    intro A2 c2
    rw [Nat.zero_add, List.nil_append]
    refine go_Sn ?_
    exact se_round (some (A2, c2)) (by show Has _ [_, _, _, _, _]; exact has_) (by show Sub _ (_ :: K); exact sub_) trivial (by show 0 < 1; decide)
  · show SC _ _ _ _ [(1, .int .i64 k), (6, .slice A2 1 c2), (38, .slice (some ⟨ga, 0, none⟩) 1 c), (39, .int .i64 1), (40, .int .i64 1)] (own 24 1 A2 1 c2 [.float .f64 v] :: K)
    refine go_Sn ?_
    exact se_ret2 (A2, c2) trivial rfl rfl rfl rfl (by exact sub_)
end Go.Proofs.Ytidphdlhghgglaa
