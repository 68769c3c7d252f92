/- The small tasks. -/
import Derived.Test.YtdmeofobljjpfaaCd
import Derived.Test.YtdmeofobljjpfaaReg4
namespace Go.Proofs.Ytdmeofobljjpfaa
open Go.RowKit
attribute [local irreducible] Go.Calls Go.Exit.then Go.Exit.inBlock Go.bodyPost Go.Code.wp Go.wpList
def tagS (m : Int) : ByteArray := if m = 0 then ⟨#[]⟩ else if m = 1 then ⟨#[116]⟩ else ⟨#[116, 97, 108, 108, 121]⟩
def tagL : List Value := [.string ⟨#[]⟩, .string ⟨#[116]⟩, .string ⟨#[116, 97, 108, 108, 121]⟩]
theorem tag_nth {x : Int} (h : 0 ≤ x ∧ x ≤ 255) : nth tagL ((x % 3).toNat * 1) = some (.string (tagS (x % 3))) := by
  rcases (show x % 3 = 0 ∨ x % 3 = 1 ∨ x % 3 = 2 by omega) with e | e | e <;> rw [e] <;> rfl
/-- A small task's numbers. -/
structure Sk where
  k : Int
  f : Int
  b : Int
  l : Int
  w : Int
  c : Int
  p : Int
  t : Int
  hk : 0 ≤ k ∧ k ≤ 255
  hf : 0 ≤ f ∧ f ≤ 255
  hb : 0 ≤ b ∧ b ≤ 255
  hl : 0 ≤ l ∧ l ≤ 255
  hw : 0 ≤ w ∧ w ≤ 255
  hc : 0 ≤ c ∧ c ≤ 255
  hp : 0 ≤ p ∧ p ≤ 255
  ht : 0 ≤ t ∧ t ≤ 255
def Sk.cells (s : Sk) : List Value := sCells s.k s.f s.b s.l s.w s.c ++ [.int .u8 s.p, .int .u8 s.t]
/-- Its task. -/
def Sk.tc (s : Sk) : List Value := sC s.k s.f s.b s.l s.w s.c ++ [.int .i64 (1 + s.p % 3), .string (tagS (s.t % 3))]
theorem Sk.tc_one (s : Sk) : ∀ v ∈ s.tc, v.oneCell' = true := by
  intro v hv
  simp only [Sk.tc, sC, cCells, List.cons_append, List.nil_append, List.mem_cons, List.not_mem_nil, or_false] at hv
  rcases hv with rfl | rfl | rfl | rfl | rfl | rfl | rfl | rfl <;> rfl
theorem nth_Ce {φ : Prop} (h : φ := by (first | rfl | rfl)) : φ := h
theorem mid_Ce {φ : Prop} (h : φ := by (first | first | exact Mid.head | exact Mid.all | exact Mid.all | exact Mid.head)) : φ := h
theorem sz_Ce {φ : Prop} (h : φ := by (first | rfl | (rfl; first | done | fail))) : φ := h
theorem one_Ce {φ : Prop} (h : φ := by (first | assumption | exact one_bytes _ | (simp only [List.mem_cons, List.not_mem_nil, or_false, forall_eq_or_imp, forall_eq]; decide) | exact one_bytes _)) : φ := h
theorem set_Ce {φ : Prop} (h : φ := by (first | (fail) | ((repeat (first | exact SetAt.here | apply SetAt.there)); first | done | fail))) : φ := h
theorem cl_Ce {φ : Prop} (h : φ := by first | rfl | exact .t | exact .f | exact .t (by omega) | exact .f (by omega) | exact .u | exact .i (by (first | exact .t (by omega) | exact .f (by omega) | exact .u | exact .i (by omega) | exact .v (by omega) | exact .b (by omega) | exact .w | rfl | omega)) | exact .v (by omega) | exact .b (by omega) | exact .q (by omega) | exact .w | exact .b (by exact at_) rfl (by exact nth_Ce) | exact .w (by exact at_) rfl rfl (by exact sz_Ce) | exact .s (by exact at_) (by exact mid_Ce) rfl rfl (by exact sz_Ce) | exact .z rfl rfl ⟨by kernel_rfl⟩ | exact .b rfl rfl ⟨by kernel_rfl⟩ | exact .a rfl rfl ⟨by kernel_rfl⟩ | exact .o rfl | exact .s | exact .n | exact .p rfl | exact .q rfl | exact .c rfl | exact .d rfl | exact .n rfl rfl (by omega) | exact .a rfl rfl (by omega) | exact .p rfl rfl (by omega) (by omega) | exact .y rfl rfl (by omega) (by omega) | exact .o (by exact at_) (by omega) rfl (by exact nth_Ce) | exact .m (by exact at_) (by omega) (by exact mid_Ce) rfl rfl (by exact sz_Ce) | exact .mlen (by exact at_) rfl | exact .t (by exact at_) rfl rfl (by first | exact True.intro | rfl) (by assumption) | exact .f (by exact at_) rfl rfl (by first | exact True.intro | rfl) (by assumption) rfl | exact .t1 (by exact at_) rfl rfl (by first | exact True.intro | rfl) (by assumption) | exact .f1 (by exact at_) rfl rfl (by first | exact True.intro | rfl) (by assumption) rfl | exact .r rfl rfl (by omega) (by omega) (by exact nth_Ce) rfl | exact .s rfl (by omega) (by assumption) | exact at_ | assumption | exact .r rfl rfl | exact .h rfl rfl rfl (by omega) | exact .l rfl rfl rfl (by omega) (by omega) | exact .g rfl rfl rfl rfl (by omega) (by omega) | exact .h rfl rfl (toN_ (by omega)) (by omega) | exact .l rfl rfl (toN_ (by omega)) (by omega) (by omega) | exact .g rfl rfl (toN_ (by omega)) (toN_ (by omega)) (by omega) (by omega) | exact .o (by decide) | exact .f (by decide) | exact .n (by omega) (by first | decide | (show _ ≤ ((64 : Nat) : Int); omega)) | (constructor; (repeat (first | exact .t (by omega) | exact .f (by omega) | exact .u | exact .i (by omega) | exact .v (by omega) | exact .b (by omega) | exact .w | rfl | omega)); first | done | fail) | omega | (show _ ≤ ((64 : Nat) : Int); omega)) : φ := h
theorem pv_Ce {φ : Prop} (h : φ := by constructor; (repeat exact cl_Ce); first | done | fail) : φ := h
theorem su_Ce {φ ψ : Prop} (k : ψ) (h : Hide ψ → φ := by (intro k; (first | refine sl_pu (PuI.sep (by exact pv_Ce)) rfl ?_ | refine sl_yes rfl rfl ?_ | refine sl_no rfl rfl rfl ?_ | refine sl_off rfl rfl rfl ?_ | (fail)); exact k.out)) : φ := h ⟨k⟩
theorem rq_Ce {φ ψ : Prop} (k : ψ) (h : Hide ψ → φ := by (intro k; (first | refine wq_pu (PuI.sep (by exact pv_Ce)) rfl ?_ | refine wq_yes rfl rfl ?_ | refine wq_no rfl rfl rfl ?_ | refine wq_off rfl rfl rfl ?_ | (fail)); exact k.out)) : φ := h ⟨k⟩
theorem sto_Ce {φ ψ : Prop} (k : ψ) (h : Hide ψ → φ := by (intro k; (first | refine sl_store rfl (by exact pick_) rfl rfl (by kernel_rfl) (by exact set_Ce) ?_ | refine sl_store_whole rfl (by exact pick_) rfl (by exact sz_Ce) (by exact sz_Ce) (by exact one_Ce) ?_); exact k.out)) : φ := h ⟨k⟩
theorem go_Ce {φ ψ : Prop} (k : ψ) (h : Hide ψ → φ := by (intro k; (repeat (first | refine su_Ce ?_ | refine so_ ?_ | refine sto_Ce ?_)); exact k.out)) : φ := h ⟨k⟩
set_option maxRecDepth 100000 in
set_option maxHeartbeats 8000000 in
theorem stask_ok {K : List Fa} (s : Sk) :
    Fn Try.prog 10 #[.agg s.cells.toArray] K (Ret (fun _ : Unit => True) (fun _ => .agg s.tc.toArray) (fun _ => K)) := by
  refine fn_enter Try.func10 rfl _ Try.ntmps10 (by simp) [(0, .agg s.cells.toArray)] (args_of (by simp)) ?_
  have h1 := s.hp
  have h2 := s.ht
  refine go_Ce ?_
  refine sl_box rfl rfl rfl ?_; intro g1
  refine sl_alloc rfl rfl rfl ?_; intro g2
  refine go_Ce ?_
  refine sd_drawn (fun W => AllP W [blk g1 41 s.cells]) (fun _ => true) (by kernel_rfl) 16 rfl ?_
  refine sd_yes2 0 rfl (by exact gd_) (by kernel_rfl) (by kernel_rfl) (by exact nop_) (PuI.all (by exact pv_Ce)) rfl (fun w hw => all_ hw) ?_
  refine sd_yes2 1 rfl (by exact gd_) (by kernel_rfl) (by kernel_rfl) (by exact nop_) (PuI.all (by exact pv_Ce)) rfl (fun w hw => all_ hw) ?_
  refine sd_yes2 3 rfl (by exact gd_) (by kernel_rfl) (by kernel_rfl) (by exact nop_) (PuI.all (by exact pv_Ce)) rfl (fun w hw => all_ hw) ?_
  refine sd_yes2 4 rfl (by exact gd_) (by kernel_rfl) (by kernel_rfl) (by exact nop_) (PuI.all (by exact pv_Ce)) rfl (fun w hw => all_ hw) ?_
  refine sd_yes2 5 rfl (by exact gd_) (by kernel_rfl) (by kernel_rfl) (by exact nop_) (PuI.all (by exact pv_Ce)) rfl (fun w hw => all_ hw) ?_
  refine sd_yes2 6 rfl (by exact gd_) (by kernel_rfl) (by kernel_rfl) (by exact nop_) (PuI.all (by exact pv_Ce)) rfl (fun w hw => all_ hw) ?_
  refine sd_yes2 7 rfl (by exact gd_) (by kernel_rfl) (by kernel_rfl) (by exact nop_) (PuI.all (by exact pv_Ce)) rfl (fun w hw => all_ hw) ?_
  refine sd_yes2 9 rfl (by exact gd_) (by kernel_rfl) (by kernel_rfl) (by exact nop_) (PuI.all (by exact pv_Ce)) rfl (fun w hw => all_ hw) ?_
  refine sd_yes2 10 rfl (by exact gd_) (by kernel_rfl) (by kernel_rfl) (by exact nop_) (PuI.all (by exact pv_Ce)) rfl (fun w hw => all_ hw) ?_
  refine sd_yes2 11 rfl (by exact gd_) (by kernel_rfl) (by kernel_rfl) (by exact nop_) (PuI.all (by exact pv_Ce)) rfl (fun w hw => all_ hw) ?_
  refine sd_two 2 8 (by kernel_rfl) (sa_sl 2 rfl ?_) (sa_sl 8 rfl ?_)
  · refine sl_call rfl rfl (by kernel_rfl) rfl (by exact sub_) (scirc_ok s.hk s.hf s.hb s.hl s.hw s.hc) ?_
    rintro _ -
    refine sl_nil ?_
    refine se_sd (fun _ w hw => all_ hw) ?_
    refine sd_one 8 (by kernel_rfl) (sa_sl 8 rfl ?_)
    refine sl_build (size := 1) (e := 9) (cells := tagL) rfl (fun W => by kernel_rfl) rfl (by decide) rfl ?_
    intro gb
    refine sl_nil ?_
    refine se_sd (fun _ w hw => all_ hw) ?_
    refine sd_yes2 12 rfl (by exact gd_) (by kernel_rfl) (by kernel_rfl) (by exact nop_) (PuI.all (by exact pv_Ce)) rfl (fun w hw => all_ hw) ?_
    refine sd_one 13 (by kernel_rfl) (sa_sl 13 rfl ?_)
    refine sl_pu (pu_ldr (size := 1) (m := 3) (Vw.of_own (e := 9) (A := some ⟨gb, 0, none⟩) (c := 3) (by exact at_)) (by omega) rfl rfl (tag_nth s.ht)) rfl ?_
    refine sl_nil ?_
    refine se_sd (fun _ w hw => all_ hw) ?_
    refine sd_yes2 14 rfl (by exact gd_) (by kernel_rfl) (by kernel_rfl) (by exact nop_) (pu_build (v := .agg s.tc.toArray) rfl (fun W => by kernel_rfl)) rfl (fun w hw => all_ hw) ?_
    refine sd_one 15 (by kernel_rfl) (sa_sl 15 rfl ?_)
    refine sl_store_whole rfl (by exact pick_) rfl (by rfl) (by rfl) s.tc_one ?_
    refine sl_nil ?_
    refine se_sd (fun _ w hw => all_ hw) ?_
    refine sd_done (by kernel_rfl) ?_
    refine go_Ce ?_
    exact se_ret_c () trivial rfl rfl (by exact at_) rfl rfl rfl rfl (by exact sub_)
  · refine sl_build (size := 1) (e := 9) (cells := tagL) rfl (fun W => by kernel_rfl) rfl (by decide) rfl ?_
    intro gb
    refine sl_nil ?_
    refine se_sd (fun _ w hw => all_ hw) ?_
    refine sd_yes2 12 rfl (by exact gd_) (by kernel_rfl) (by kernel_rfl) (by exact nop_) (PuI.all (by exact pv_Ce)) rfl (fun w hw => all_ hw) ?_
    refine sd_two 2 13 (by kernel_rfl) (sa_sl 2 rfl ?_) (sa_sl 13 rfl ?_)
    · refine sl_call rfl rfl (by kernel_rfl) rfl (by exact sub_) (scirc_ok s.hk s.hf s.hb s.hl s.hw s.hc) ?_
      rintro _ -
      refine sl_nil ?_
      refine se_sd (fun _ w hw => all_ hw) ?_
      refine sd_one 13 (by kernel_rfl) (sa_sl 13 rfl ?_)
      refine sl_pu (pu_ldr (size := 1) (m := 3) (Vw.of_own (e := 9) (A := some ⟨gb, 0, none⟩) (c := 3) (by exact at_)) (by omega) rfl rfl (tag_nth s.ht)) rfl ?_
      refine sl_nil ?_
      refine se_sd (fun _ w hw => all_ hw) ?_
      refine sd_yes2 14 rfl (by exact gd_) (by kernel_rfl) (by kernel_rfl) (by exact nop_) (pu_build (v := .agg s.tc.toArray) rfl (fun W => by kernel_rfl)) rfl (fun w hw => all_ hw) ?_
      refine sd_one 15 (by kernel_rfl) (sa_sl 15 rfl ?_)
      refine sl_store_whole rfl (by exact pick_) rfl (by rfl) (by rfl) s.tc_one ?_
      refine sl_nil ?_
      refine se_sd (fun _ w hw => all_ hw) ?_
      refine sd_done (by kernel_rfl) ?_
      refine go_Ce ?_
      exact se_ret_c () trivial rfl rfl (by exact at_) rfl rfl rfl rfl (by exact sub_)
    · refine sl_pu (pu_ldr (size := 1) (m := 3) (Vw.of_own (e := 9) (A := some ⟨gb, 0, none⟩) (c := 3) (by exact at_)) (by omega) rfl rfl (tag_nth s.ht)) rfl ?_
      refine sl_nil ?_
      refine se_sd (fun _ w hw => all_ hw) ?_
      refine sd_one 2 (by kernel_rfl) (sa_sl 2 rfl ?_)
      refine sl_call rfl rfl (by kernel_rfl) rfl (by exact sub_) (scirc_ok s.hk s.hf s.hb s.hl s.hw s.hc) ?_
      rintro _ -
      refine sl_nil ?_
      refine se_sd (fun _ w hw => all_ hw) ?_
      refine sd_yes2 14 rfl (by exact gd_) (by kernel_rfl) (by kernel_rfl) (by exact nop_) (pu_build (v := .agg s.tc.toArray) rfl (fun W => by kernel_rfl)) rfl (fun w hw => all_ hw) ?_
      refine sd_one 15 (by kernel_rfl) (sa_sl 15 rfl ?_)
      refine sl_store_whole rfl (by exact pick_) rfl (by rfl) (by rfl) s.tc_one ?_
      refine sl_nil ?_
      refine se_sd (fun _ w hw => all_ hw) ?_
      refine sd_done (by kernel_rfl) ?_
      refine go_Ce ?_
      exact se_ret_c () trivial rfl rfl (by exact at_) rfl rfl rfl rfl (by exact sub_)
end Go.Proofs.Ytdmeofobljjpfaa
