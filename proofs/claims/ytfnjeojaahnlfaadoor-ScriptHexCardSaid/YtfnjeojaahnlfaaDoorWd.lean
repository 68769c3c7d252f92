/- Package script: the reader of a line's words. -/
import Derived.Test.YtfnjeojaahnlfaaDoorWb
namespace Go.Proofs.YtfnjeojaahnlfaaDoor
open Go.RowKit
attribute [local irreducible] Go.Calls Go.Exit.then Go.Exit.inBlock Go.bodyPost Go.Code.wp Go.wpList
abbrev encW (l : List UInt8) : Value := .string (sOf l)
/-- Words that can be read. -/
structure Wds (K : List Fa) (A : Option Addr) (c : Nat) (ws : List (List UInt8)) : Prop where
  r : Vw K (fun w => Reads w 1 A ws.length (ws.map encW))
  le : ws.length ≤ c
theorem Wds.tail {K : List Fa} {A : Option Addr} {c : Nat} {x : List UInt8} {ws : List (List UInt8)} (h : Wds K A c (x :: ws)) : Wds K (cutA A c 1 1) (c - 1) ws := by
  have hl := h.le
  rw [List.length_cons] at hl
  refine ⟨fun w hw => ?_, by omega⟩
  have h1 := (h.r w hw).cut (k := 1) (cap := c) (by rw [List.length_cons]; omega) h.le
  exact h1
abbrev rdrB (g : Nat) (A : Option Addr) (n c : Nat) : Fa := blk g 73 [.slice A n c]
structure Wr2 where
  A : Option Addr
  c : Nat
theorem nth_Wd {φ : Prop} (h : φ := by (first | rfl | rfl)) : φ := h
theorem mid_Wd {φ : Prop} (h : φ := by (first | exact Mid.all | exact Mid.all | exact Mid.head)) : φ := h
theorem sz_Wd {φ : Prop} (h : φ := by (first | rfl | (rfl; first | done | fail))) : φ := h
theorem one_Wd {φ : Prop} (h : φ := by (first | assumption | exact one_bytes _ | (simp only [List.mem_cons, List.not_mem_nil, or_false, forall_eq_or_imp, forall_eq]; decide) | exact one_bytes _ | (intro v hv; (repeat (rcases List.mem_cons.1 hv with rfl | hv; rfl)); cases hv))) : φ := h
theorem set_Wd {φ : Prop} (h : φ := by (first | (fail) | ((repeat (first | exact SetAt.here | apply SetAt.there)); first | done | fail))) : φ := h
theorem cl_Wd {φ : Prop} (h : φ := by first | rfl | exact .t | exact .f | exact .t (by omega) | exact .f (by omega) | exact .u | exact .i (by (first | exact .t (by omega) | exact .f (by omega) | exact .u | exact .i (by omega) | exact .v (by omega) | exact .b (by omega) | exact .w | rfl | omega)) | exact .v (by omega) | exact .b (by omega) | exact .q (by omega) | exact .w | exact .b (by exact at_) rfl (by exact nth_Wd) | exact .w (by exact at_) rfl rfl (by exact sz_Wd) | exact .s (by exact at_) (by exact mid_Wd) rfl rfl (by exact sz_Wd) | exact .z rfl rfl ⟨by kernel_rfl⟩ | exact .b rfl rfl ⟨by kernel_rfl⟩ | exact .a rfl rfl ⟨by kernel_rfl⟩ | exact .o rfl | exact .s | exact .n | exact .p rfl | exact .q rfl | exact .c rfl | exact .d rfl | exact .n rfl rfl (by omega) | exact .a rfl rfl (by omega) | exact .p rfl rfl (by omega) (by omega) | exact .y rfl rfl (by omega) (by omega) | exact .o (by exact at_) (by omega) rfl (by exact nth_Wd) | exact .m (by exact at_) (by omega) (by exact mid_Wd) rfl rfl (by exact sz_Wd) | exact .mlen (by exact at_) rfl | exact .t (by exact at_) rfl rfl (by first | exact True.intro | rfl) (by assumption) | exact .f (by exact at_) rfl rfl (by first | exact True.intro | rfl) (by assumption) rfl | exact .t1 (by exact at_) rfl rfl (by first | exact True.intro | rfl) (by assumption) | exact .f1 (by exact at_) rfl rfl (by first | exact True.intro | rfl) (by assumption) rfl | exact .r rfl rfl (by omega) (by omega) (by exact nth_Wd) rfl | exact .s rfl (by omega) (by assumption) | exact at_ | assumption | exact .r rfl rfl | exact .h rfl rfl rfl (by omega) | exact .l rfl rfl rfl (by omega) (by omega) | exact .g rfl rfl rfl rfl (by omega) (by omega) | exact .h rfl rfl (toN_ (by omega)) (by omega) | exact .l rfl rfl (toN_ (by omega)) (by omega) (by omega) | exact .g rfl rfl (toN_ (by omega)) (toN_ (by omega)) (by omega) (by omega) | exact .o (by decide) | exact .f (by decide) | exact .n (by omega) (by first | decide | (show _ ≤ ((64 : Nat) : Int); omega)) | (constructor; (repeat (first | exact .t (by omega) | exact .f (by omega) | exact .u | exact .i (by omega) | exact .v (by omega) | exact .b (by omega) | exact .w | rfl | omega)); first | done | fail) | omega | (show _ ≤ ((64 : Nat) : Int); omega)) : φ := h
theorem pv_Wd {φ : Prop} (h : φ := by constructor; (repeat exact cl_Wd); first | done | fail) : φ := h
theorem su_Wd {φ ψ : Prop} (k : ψ) (h : Hide ψ → φ := by (intro k; (first | refine sl_pu (PuI.sep (by exact pv_Wd)) rfl ?_ | refine sl_yes rfl rfl ?_ | refine sl_no rfl rfl rfl ?_ | refine sl_off rfl rfl rfl ?_ | (fail)); exact k.out)) : φ := h ⟨k⟩
theorem rq_Wd {φ ψ : Prop} (k : ψ) (h : Hide ψ → φ := by (intro k; (first | refine wq_pu (PuI.sep (by exact pv_Wd)) rfl ?_ | refine wq_yes rfl rfl ?_ | refine wq_no rfl rfl rfl ?_ | refine wq_off rfl rfl rfl ?_ | (fail)); exact k.out)) : φ := h ⟨k⟩
theorem sto_Wd {φ ψ : Prop} (k : ψ) (h : Hide ψ → φ := by (intro k; (first | refine sl_store rfl (by exact pick_) rfl rfl (by kernel_rfl) (by exact set_Wd) ?_ | refine sl_store_whole rfl (by exact pick_) rfl (by exact sz_Wd) (by exact sz_Wd) (by exact one_Wd) ?_); exact k.out)) : φ := h ⟨k⟩
theorem go_Wd {φ ψ : Prop} (k : ψ) (h : Hide ψ → φ := by (intro k; (repeat (first | refine su_Wd ?_ | refine so_ ?_ | refine sto_Wd ?_)); exact k.out)) : φ := h ⟨k⟩
set_option maxRecDepth 100000 in
theorem word_ok {K Z : List Fa} {g c : Nat} {A : Option Addr} {x : List UInt8} {ws : List (List UInt8)} (hz : Sub K Z) (h : Wds Z A c (x :: ws)) :
    Fn Tryd.prog 34 #[.pointer (some ⟨g, 0, none⟩)] (rdrB g A (x :: ws).length c :: K) (Ret (fun q : Wr2 => Wds Z q.A q.c ws) (fun _ => .string (sOf x)) (fun q => rdrB g q.A ws.length q.c :: K)) := by
  have hl := h.le
  rw [List.length_cons] at hl
  have hr := h.r.mono hz
  refine fn_know (fun w hw => vw_form hr (by rw [List.length_cons]; omega) w hw.tl) ?_
  rintro ⟨ad, rfl⟩
  rw [List.length_cons] at hr ⊢
  refine fn_enter Tryd.func34 rfl _ Tryd.ntmps34 (by simp) [(0, .pointer (some ⟨g, 0, none⟩))] (args_of (by simp)) ?_
  refine go_Wd ?_
  refine sl_pu (pu_ldr (i := 0 * 1) (v := .string (sOf x)) (hr.mono (by exact sub_)) (by omega) rfl rfl rfl) rfl ?_
  refine go_Wd ?_
  exact se_ret1 (⟨cutA (some ad) c 1 1, c - 1⟩ : Wr2) h.tail rfl rfl (by exact sub_)
set_option maxRecDepth 100000 in
theorem rnumber_ok {K Z : List Fa} {g c most : Nat} {A : Option Addr} {x : List UInt8} {ws : List (List UInt8)} (hz : Sub K Z) (h : Wds Z A c (x :: ws)) (hx : x.length ≤ 1048576) (hm : most ≤ 18446744073709551615) {n : Nat} (hn : numL x most = (n, true)) :
    Fn Tryd.prog 35 #[.pointer (some ⟨g, 0, none⟩), .int .u64 most] (rdrB g A (x :: ws).length c :: K) (Ret (fun q : Wr2 => Wds Z q.A q.c ws) (fun _ => .int .u64 n) (fun q => rdrB g q.A ws.length q.c :: K)) := by
  refine fn_enter Tryd.func35 rfl _ Tryd.ntmps35 (by simp) [(0, .pointer (some ⟨g, 0, none⟩)), (1, .int .u64 most)] (args_of (by simp)) ?_
  refine go_Wd ?_
  refine sl_call rfl rfl (by kernel_rfl) rfl (by exact sub_) (word_ok hz h) ?_; rintro q hq
  refine go_Wd ?_
  refine sl_call rfl rfl (by kernel_rfl) rfl (by exact sub_) (number_ok x hx most hm) ?_; rintro _ -
  rw [hn]
  dsimp only
  refine go_Wd ?_
  exact se_ret1 q hq rfl rfl (by exact sub_)
abbrev lLeader : List UInt8 := [108, 101, 97, 100, 101, 114]
abbrev lHelper : List UInt8 := [104, 101, 108, 112, 101, 114]
set_option maxRecDepth 100000 in
theorem who_helper {K Z : List Fa} {g c : Nat} {A : Option Addr} {ws : List (List UInt8)} (hz : Sub K Z) (h : Wds Z A c (lHelper :: ws)) :
    Fn Tryd.prog 40 #[.pointer (some ⟨g, 0, none⟩)] (rdrB g A (lHelper :: ws).length c :: K) (Ret (fun q : Wr2 => Wds Z q.A q.c ws) (fun _ => .int .i64 1) (fun q => rdrB g q.A ws.length q.c :: K)) := by
  refine fn_enter Tryd.func40 rfl _ Tryd.ntmps40 (by simp) [(0, .pointer (some ⟨g, 0, none⟩))] (args_of (by simp)) ?_
  have e1 : ((sOf lHelper).toList == (sOf lLeader).toList) = false := by rw [sOf_eq]; rfl
  refine go_Wd ?_
  refine sl_call rfl rfl (by kernel_rfl) rfl (by exact sub_) (word_ok hz h) ?_; rintro q hq
  refine go_Wd ?_
  rw [e1]
  refine go_Wd ?_
  exact se_ret1 q hq rfl rfl (by exact sub_)
end Go.Proofs.YtfnjeojaahnlfaaDoor
