/- A nil disk. -/
import Derived.Test.YtemhhhikopemmaaDk2
namespace Go.Proofs.Ytemhhhikopemmaa
open Go.RowKit Go.MapKept
attribute [local irreducible] Go.Calls Go.Exit.then Go.Exit.inBlock Go.bodyPost Go.Code.wp Go.wpList
theorem nth_Dk5 {φ : Prop} (h : φ := by (first | rfl | rfl)) : φ := h
theorem mid_Dk5 {φ : Prop} (h : φ := by (first | exact Mid.all | exact Mid.all | exact Mid.head)) : φ := h
theorem sz_Dk5 {φ : Prop} (h : φ := by (first | rfl | (rfl; first | done | fail))) : φ := h
theorem one_Dk5 {φ : Prop} (h : φ := by (first | assumption | exact one_bytes _ | (simp only [List.mem_cons, List.not_mem_nil, or_false, forall_eq_or_imp, forall_eq]; decide) | exact one_bytes _)) : φ := h
theorem set_Dk5 {φ : Prop} (h : φ := by (first | (fail) | ((repeat (first | exact SetAt.here | apply SetAt.there)); first | done | fail))) : φ := h
theorem cl_Dk5 {φ : Prop} (h : φ := by first | rfl | exact .t | exact .f | exact .t (by omega) | exact .f (by omega) | exact .u | exact .i (by (first | exact .t (by omega) | exact .f (by omega) | exact .u | exact .i (by omega) | exact .v (by omega) | exact .b (by omega) | exact .w | rfl | omega)) | exact .v (by omega) | exact .b (by omega) | exact .q (by omega) | exact .w | exact .b (by exact at_) rfl (by exact nth_Dk5) | exact .w (by exact at_) rfl rfl (by exact sz_Dk5) | exact .s (by exact at_) (by exact mid_Dk5) rfl rfl (by exact sz_Dk5) | exact .z rfl rfl ⟨by kernel_rfl⟩ | exact .b rfl rfl ⟨by kernel_rfl⟩ | exact .a rfl rfl ⟨by kernel_rfl⟩ | exact .o rfl | exact .s | exact .n | exact .p rfl | exact .q rfl | exact .c rfl | exact .d rfl | exact .n rfl rfl (by omega) | exact .a rfl rfl (by omega) | exact .p rfl rfl (by omega) (by omega) | exact .y rfl rfl (by omega) (by omega) | exact .o (by exact at_) (by omega) rfl (by exact nth_Dk5) | exact .m (by exact at_) (by omega) (by exact mid_Dk5) rfl rfl (by exact sz_Dk5) | exact .mlen (by exact at_) rfl | exact .t (by exact at_) rfl rfl (by first | exact True.intro | rfl) (by assumption) | exact .f (by exact at_) rfl rfl (by first | exact True.intro | rfl) (by assumption) rfl | exact .t1 (by exact at_) rfl rfl (by first | exact True.intro | rfl) (by assumption) | exact .f1 (by exact at_) rfl rfl (by first | exact True.intro | rfl) (by assumption) rfl | exact .r rfl rfl (by omega) (by omega) (by exact nth_Dk5) rfl | exact .s rfl (by omega) (by assumption) | exact at_ | assumption | exact .r rfl rfl | exact .h rfl rfl rfl (by omega) | exact .l rfl rfl rfl (by omega) (by omega) | exact .g rfl rfl rfl rfl (by omega) (by omega) | exact .h rfl rfl (toN_ (by omega)) (by omega) | exact .l rfl rfl (toN_ (by omega)) (by omega) (by omega) | exact .g rfl rfl (toN_ (by omega)) (toN_ (by omega)) (by omega) (by omega) | exact .o (by decide) | exact .f (by decide) | exact .n (by omega) (by first | decide | (show _ ≤ ((64 : Nat) : Int); omega)) | (constructor; (repeat (first | exact .t (by omega) | exact .f (by omega) | exact .u | exact .i (by omega) | exact .v (by omega) | exact .b (by omega) | exact .w | rfl | omega)); first | done | fail) | omega | (show _ ≤ ((64 : Nat) : Int); omega)) : φ := h
theorem pv_Dk5 {φ : Prop} (h : φ := by constructor; (repeat exact cl_Dk5); first | done | fail) : φ := h
theorem su_Dk5 {φ ψ : Prop} (k : ψ) (h : Hide ψ → φ := by (intro k; (first | refine sl_pu (PuI.sep (by exact pv_Dk5)) rfl ?_ | refine sl_yes rfl rfl ?_ | refine sl_no rfl rfl rfl ?_ | refine sl_off rfl rfl rfl ?_); exact k.out)) : φ := h ⟨k⟩
theorem rq_Dk5 {φ ψ : Prop} (k : ψ) (h : Hide ψ → φ := by (intro k; (first | refine wq_pu (PuI.sep (by exact pv_Dk5)) rfl ?_ | refine wq_yes rfl rfl ?_ | refine wq_no rfl rfl rfl ?_ | refine wq_off rfl rfl rfl ?_); exact k.out)) : φ := h ⟨k⟩
theorem sto_Dk5 {φ ψ : Prop} (k : ψ) (h : Hide ψ → φ := by (intro k; (first | refine sl_store rfl (by exact pick_) rfl rfl (by kernel_rfl) (by exact set_Dk5) ?_ | refine sl_store_whole rfl (by exact pick_) rfl (by exact sz_Dk5) (by exact sz_Dk5) (by exact one_Dk5) ?_); exact k.out)) : φ := h ⟨k⟩
theorem go_Dk5 {φ ψ : Prop} (k : ψ) (h : Hide ψ → φ := by (intro k; (repeat (first | refine su_Dk5 ?_ | refine so_ ?_ | refine sto_Dk5 ?_)); exact k.out)) : φ := h ⟨k⟩
set_option maxRecDepth 100000 in
set_option maxHeartbeats 2000000 in
theorem nilRead {K : List Fa} {s : ByteArray} :
    Fn Try.prog 31 #[.pointer none, .string s] K (Ret (fun _ : Unit => True) (fun _ => .tuple #[.slice none 0 0, .int .i64 1]) (fun _ => K)) := by
  refine fn_enter Try.func31 rfl _ Try.ntmps31 (by simp) [(0, .pointer none), (1, .string s)] (args_of (by simp)) ?_
  refine go_Dk5 ?_
  exact se_ret2 () trivial rfl rfl rfl rfl (by exact sub_)
set_option maxRecDepth 100000 in
set_option maxHeartbeats 2000000 in
theorem nilAppend {K : List Fa} {s : ByteArray} {v : Value} :
    Fn Try.prog 19 #[.pointer none, .string s, v] K (Ret (fun _ : Unit => True) (fun _ => .int .i64 1) (fun _ => K)) := by
  refine fn_enter Try.func19 rfl _ Try.ntmps19 (by simp) [(0, .pointer none), (1, .string s), (2, v)] (args_of (by simp)) ?_
  refine go_Dk5 ?_
  exact se_ret1 () trivial rfl rfl (by exact sub_)
set_option maxRecDepth 100000 in
set_option maxHeartbeats 2000000 in
theorem nilSync {K : List Fa} {s : ByteArray} :
    Fn Try.prog 20 #[.pointer none, .string s] K (Ret (fun _ : Unit => True) (fun _ => .int .i64 1) (fun _ => K)) := by
  refine fn_enter Try.func20 rfl _ Try.ntmps20 (by simp) [(0, .pointer none), (1, .string s)] (args_of (by simp)) ?_
  refine go_Dk5 ?_
  exact se_ret1 () trivial rfl rfl (by exact sub_)
set_option maxRecDepth 100000 in
set_option maxHeartbeats 2000000 in
theorem nilCut {K : List Fa} {s : ByteArray} {k : Int} :
    Fn Try.prog 33 #[.pointer none, .string s, .int .i64 k] K (Ret (fun _ : Unit => True) (fun _ => .int .i64 1) (fun _ => K)) := by
  refine fn_enter Try.func33 rfl _ Try.ntmps33 (by simp) [(0, .pointer none), (1, .string s), (2, .int .i64 k)] (args_of (by simp)) ?_
  refine go_Dk5 ?_
  exact se_ret1 () trivial rfl rfl (by exact sub_)
set_option maxRecDepth 100000 in
set_option maxHeartbeats 2000000 in
theorem nilTurn {K : List Fa} {s : ByteArray} {k : Int} :
    Fn Try.prog 21 #[.pointer none, .string s, .int .i64 k] K (Ret (fun _ : Unit => True) (fun _ => .int .i64 1) (fun _ => K)) := by
  refine fn_enter Try.func21 rfl _ Try.ntmps21 (by simp) [(0, .pointer none), (1, .string s), (2, .int .i64 k)] (args_of (by simp)) ?_
  refine go_Dk5 ?_
  exact se_ret1 () trivial rfl rfl (by exact sub_)
set_option maxRecDepth 100000 in
set_option maxHeartbeats 2000000 in
theorem nilLoose {K : List Fa} {s : ByteArray} :
    Fn Try.prog 32 #[.pointer none, .string s] K (Ret (fun _ : Unit => True) (fun _ => .int .i64 0) (fun _ => K)) := by
  refine fn_enter Try.func32 rfl _ Try.ntmps32 (by simp) [(0, .pointer none), (1, .string s)] (args_of (by simp)) ?_
  refine go_Dk5 ?_
  refine sl_call rfl rfl (by kernel_rfl) rfl Sub.refl hasD_nil ?_
  rintro _ -
  refine go_Dk5 ?_
  exact se_ret1 () trivial rfl rfl (by exact sub_)
set_option maxRecDepth 100000 in
set_option maxHeartbeats 2000000 in
theorem nilUsed {K : List Fa}  :
    Fn Try.prog 35 #[.pointer none] K (Ret (fun _ : Unit => True) (fun _ => .int .i64 0) (fun _ => K)) := by
  refine fn_enter Try.func35 rfl _ Try.ntmps35 (by simp) [(0, .pointer none)] (args_of (by simp)) ?_
  refine go_Dk5 ?_
  exact se_ret1 () trivial rfl rfl (by exact sub_)
set_option maxRecDepth 100000 in
set_option maxHeartbeats 2000000 in
theorem nilNames {K : List Fa}  :
    Fn Try.prog 28 #[.pointer none] K (Ret (fun _ : Unit => True) (fun _ => .slice none 0 0) (fun _ => K)) := by
  refine fn_enter Try.func28 rfl _ Try.ntmps28 (by simp) [(0, .pointer none)] (args_of (by simp)) ?_
  refine go_Dk5 ?_
  exact se_ret1 () trivial rfl rfl (by exact sub_)
set_option maxRecDepth 100000 in
set_option maxHeartbeats 2000000 in
theorem nilCopy {K : List Fa}  :
    Fn Try.prog 29 #[.pointer none] K (Ret (fun _ : Unit => True) (fun _ => .pointer none) (fun _ => K)) := by
  refine fn_enter Try.func29 rfl _ Try.ntmps29 (by simp) [(0, .pointer none)] (args_of (by simp)) ?_
  refine go_Dk5 ?_
  exact se_ret1 () trivial rfl rfl (by exact sub_)
set_option maxRecDepth 100000 in
set_option maxHeartbeats 2000000 in
theorem nilCrash {K : List Fa} {k : Int} :
    Fn Try.prog 30 #[.pointer none, .int .i64 k] K (Ret (fun _ : Unit => True) (fun _ => .tuple #[]) (fun _ => K)) := by
  refine fn_enter Try.func30 rfl _ Try.ntmps30 (by simp) [(0, .pointer none), (1, .int .i64 k)] (args_of (by simp)) ?_
  refine go_Dk5 ?_
  refine sl_call rfl rfl (by kernel_rfl) rfl Sub.refl nilNames ?_
  rintro _ -
  refine go_Dk5 ?_
  refine sc_for (fun _ : Unit => [(10, .int .i64 0), (11, .int .i64 0)]) (fun _ => K) (fun _ => True) (fun _ => 0) () (by exact has_) (by exact sub_) trivial ?_
  rintro _ -
  refine go_Dk5 ?_
  exact se_end0 () trivial rfl rfl (by exact sub_)
end Go.Proofs.Ytemhhhikopemmaa
