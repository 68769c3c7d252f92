/- Several texts, one behind the other (Qb, Qc). -/
import Derived.Test.YtdmeofobljjpfaaQa
/- slices.Sort at uint64: siftDown, heapSort. (Written by wip/tools/mkqs.py.) -/
namespace Go.Proofs.Ytdmeofobljjpfaa
open Go.RowKit Go.Sort
attribute [local irreducible] Go.Calls Go.Exit.then Go.Exit.inBlock Go.bodyPost Go.Code.wp Go.wpList
theorem sift_end {hi F r : Nat} {e : Array Int} (h : hi ≤ 2 * r + 1) : siftDown ltInt hi F r e = e := by
  rw [siftDown, dif_pos h]
theorem sift_size (hi F : Nat) : ∀ (k r : Nat) (e : Array Int), hi - r ≤ k → (siftDown ltInt hi F r e).size = e.size
  | 0, r, e, h => by rw [sift_end (by omega)]
  | k + 1, r, e, h => by
    by_cases h0 : hi ≤ 2 * r + 1
    · rw [sift_end h0]
    rw [siftDown, dif_neg h0]
    split
    · split
      · rfl
      · split
        · rw [sift_size hi F k _ _ (by omega), size_swp]
        · rfl
    · split
      · rfl
      · rw [sift_size hi F k _ _ (by omega), size_swp]
theorem sift_l {hi F r : Nat} {e : Array Int} (h : ¬ hi ≤ 2 * r + 1) (h1 : ¬ (2 * r + 2 < hi ∧ ltInt e[F + (2 * r + 1)]! e[F + (2 * r + 2)]! = true)) : siftDown ltInt hi F r e = if ltInt e[F + r]! e[F + (2 * r + 1)]! = true then siftDown ltInt hi F (2 * r + 1) (swp e (F + r) (F + (2 * r + 1))) else e := by
  rw [siftDown, dif_neg h, if_neg (by simpa [Nat.add_assoc] using h1)]
  cases hl : ltInt e[F + r]! e[F + (2 * r + 1)]! <;> simp
theorem sift_r {hi F r : Nat} {e : Array Int} (h : 2 * r + 2 < hi) (h1 : ltInt e[F + (2 * r + 1)]! e[F + (2 * r + 2)]! = true) : siftDown ltInt hi F r e = if ltInt e[F + r]! e[F + (2 * r + 2)]! = true then siftDown ltInt hi F (2 * r + 2) (swp e (F + r) (F + (2 * r + 2))) else e := by
  rw [siftDown, dif_neg (by omega), if_pos (by simpa [Nat.add_assoc] using ⟨h, h1⟩)]
  cases hl : ltInt e[F + r]! e[F + (2 * r + 2)]! <;> simp [h]
theorem nth_Qb {φ : Prop} (h : φ := by (first | rfl | first | exact un_nth1 (by omega) | exact un_nth0 (by omega))) : φ := h
theorem mid_Qb {φ : Prop} (h : φ := by (first | exact Mid.all | exact Mid.all | exact Mid.head)) : φ := h
theorem sz_Qb {φ : Prop} (h : φ := by (first | rfl | (rfl; first | done | fail))) : φ := h
theorem one_Qb {φ : Prop} (h : φ := by (first | assumption | exact one_bytes _ | (simp only [List.mem_cons, List.not_mem_nil, or_false, forall_eq_or_imp, forall_eq]; decide) | exact one_bytes _ | (intro v hv; (repeat (rcases List.mem_cons.1 hv with rfl | hv; rfl)); cases hv))) : φ := h
theorem set_Qb {φ : Prop} (h : φ := by (first | (fail) | ((repeat (first | exact SetAt.here | apply SetAt.there)); first | done | fail))) : φ := h
theorem cl_Qb {φ : Prop} (h : φ := by first | rfl | exact .t | exact .f | exact .t (by omega) | exact .f (by omega) | exact .u | exact .i (by (first | exact .t (by omega) | exact .f (by omega) | exact .u | exact .i (by omega) | exact .v (by omega) | exact .b (by omega) | exact .w | rfl | omega)) | exact .v (by omega) | exact .b (by omega) | exact .q (by omega) | exact .w | exact .b (by exact at_) rfl (by exact nth_Qb) | exact .w (by exact at_) rfl rfl (by exact sz_Qb) | exact .s (by exact at_) (by exact mid_Qb) rfl rfl (by exact sz_Qb) | exact .z rfl rfl ⟨by kernel_rfl⟩ | exact .b rfl rfl ⟨by kernel_rfl⟩ | exact .a rfl rfl ⟨by kernel_rfl⟩ | exact .o rfl | exact .s | exact .n | exact .p rfl | exact .q rfl | exact .c rfl | exact .d rfl | exact .n rfl rfl (by omega) | exact .a rfl rfl (by omega) | exact .p rfl rfl (by omega) (by omega) | exact .y rfl rfl (by omega) (by omega) | exact .o (by exact at_) (by omega) rfl (by exact nth_Qb) | exact .m (by exact at_) (by omega) (by exact mid_Qb) rfl rfl (by exact sz_Qb) | exact .mlen (by exact at_) rfl | exact .t (by exact at_) rfl rfl (by first | exact True.intro | rfl) (by assumption) | exact .f (by exact at_) rfl rfl (by first | exact True.intro | rfl) (by assumption) rfl | exact .t1 (by exact at_) rfl rfl (by first | exact True.intro | rfl) (by assumption) | exact .f1 (by exact at_) rfl rfl (by first | exact True.intro | rfl) (by assumption) rfl | exact .r rfl rfl (by omega) (by omega) (by exact nth_Qb) rfl | exact .s rfl (by omega) (by assumption) | exact at_ | assumption | exact .r rfl rfl | exact .h rfl rfl rfl (by omega) | exact .l rfl rfl rfl (by omega) (by omega) | exact .g rfl rfl rfl rfl (by omega) (by omega) | exact .h rfl rfl (toN_ (by omega)) (by omega) | exact .l rfl rfl (toN_ (by omega)) (by omega) (by omega) | exact .g rfl rfl (toN_ (by omega)) (toN_ (by omega)) (by omega) (by omega) | exact .o (by decide) | exact .f (by decide) | exact .n (by omega) (by first | decide | (show _ ≤ ((64 : Nat) : Int); omega)) | (constructor; (repeat (first | exact .t (by omega) | exact .f (by omega) | exact .u | exact .i (by omega) | exact .v (by omega) | exact .b (by omega) | exact .w | rfl | omega)); first | done | fail) | omega | (show _ ≤ ((64 : Nat) : Int); omega)) : φ := h
theorem pv_Qb {φ : Prop} (h : φ := by constructor; (repeat exact cl_Qb); first | done | fail) : φ := h
theorem su_Qb {φ ψ : Prop} (k : ψ) (h : Hide ψ → φ := by (intro k; (first | refine sl_pu (PuI.sep (by exact pv_Qb)) rfl ?_ | refine sl_yes rfl rfl ?_ | refine sl_no rfl rfl rfl ?_ | refine sl_off rfl rfl rfl ?_ | (fail)); exact k.out)) : φ := h ⟨k⟩
theorem rq_Qb {φ ψ : Prop} (k : ψ) (h : Hide ψ → φ := by (intro k; (first | refine wq_pu (PuI.sep (by exact pv_Qb)) rfl ?_ | refine wq_yes rfl rfl ?_ | refine wq_no rfl rfl rfl ?_ | refine wq_off rfl rfl rfl ?_ | (fail)); exact k.out)) : φ := h ⟨k⟩
theorem sto_Qb {φ ψ : Prop} (k : ψ) (h : Hide ψ → φ := by (intro k; (first | refine sl_store rfl (by exact pick_) rfl rfl (by kernel_rfl) (by exact set_Qb) ?_ | refine sl_store_whole rfl (by exact pick_) rfl (by exact sz_Qb) (by exact sz_Qb) (by exact one_Qb) ?_); exact k.out)) : φ := h ⟨k⟩
theorem go_Qb {φ ψ : Prop} (k : ψ) (h : Hide ψ → φ := by (intro k; (repeat (first | refine su_Qb ?_ | refine so_ ?_ | refine sto_Qb ?_)); exact k.out)) : φ := h ⟨k⟩
set_option maxRecDepth 100000 in
set_option maxHeartbeats 8000000 in
theorem sift_ok {K : List Fa} {g n c : Nat} {d : Array Int} {lo hi F : Nat} (hd : d.size = n) (hF : F + hi ≤ n) (hn : n ≤ 1000000) (hlo : lo ≤ n) :
    Fn Try.prog 62 #[.slice (some ⟨g, 0, none⟩) n c, .int .i64 (lo : Nat), .int .i64 (hi : Nat), .int .i64 (F : Nat)] (uo g n c d :: K) (Ret (fun _ : Unit => True) (fun _ => .tuple #[]) (fun _ => uo g n c (siftDown ltInt hi F lo d) :: K)) := by
  refine fn_enter Try.func62 rfl _ Try.ntmps62 (by simp) [(0, .slice (some ⟨g, 0, none⟩) n c), (1, .int .i64 (lo : Nat)), (2, .int .i64 (hi : Nat)), (3, .int .i64 (F : Nat))] (args_of (by simp)) ?_
  generalize hT : siftDown ltInt hi F lo d = T
  refine go_Qb ?_
  refine sc_for (α := Nat × Array Int) (fun p => [(0, .slice (some ⟨g, 0, none⟩) n c), (2, .int .i64 hi), (3, .int .i64 F), (8, .int .i64 p.1)]) (fun p => uo g n c p.2 :: K) (fun p => p.2.size = n ∧ p.1 ≤ n ∧ siftDown ltInt hi F p.1 p.2 = T) (fun p => hi - p.1) (lo, d) (by exact has_) (by exact sub_) ⟨hd, hlo, hT⟩ ?_
  rintro ⟨r, e⟩ ⟨hes, hrn, heT⟩
  dsimp only at hes hrn heT ⊢
  by_cases h0 : hi ≤ 2 * r + 1
  · rw [sift_end h0] at heT
    subst heT
    refine go_Qb ?_
    exact se_end0 () trivial rfl rfl (by exact sub_)
  by_cases hc : 2 * r + 2 < hi
  · cases hl : ltInt e[F + (2 * r + 1)]! e[F + (2 * r + 2)]! with
    | true =>
      rw [sift_r hc hl] at heT
      refine go_Qb ?_
      refine sq_region (by kernel_rfl) (by kernel_rfl) ?_
      repeat refine rq_Qb ?_
      refine WQ_call rfl rfl (by kernel_rfl) rfl (less_ok (lt_k (by omega) (by omega) hl)) ?_
      repeat refine rq_Qb ?_
      refine sq_end ?_
      refine go_Qb ?_
      cases hl2 : ltInt e[F + r]! e[F + (2 * r + 2)]! with
      | false =>
        rw [hl2, if_neg (by decide)] at heT
        subst heT
        refine sq_region (by kernel_rfl) (by kernel_rfl) ?_
        repeat refine rq_Qb ?_
        refine WQ_call rfl rfl (by kernel_rfl) rfl (less_ok (lt_k (by omega) (by omega) hl2)) ?_
        repeat refine rq_Qb ?_
        refine sq_end ?_
        refine go_Qb ?_
        exact se_ret0 () trivial rfl rfl (by exact sub_)
      | true =>
        rw [hl2, if_pos rfl] at heT
        refine sq_region (by kernel_rfl) (by kernel_rfl) ?_
        repeat refine rq_Qb ?_
        refine WQ_call rfl rfl (by kernel_rfl) rfl (less_ok (lt_k (by omega) (by omega) hl2)) ?_
        repeat refine rq_Qb ?_
        refine sq_end ?_
        refine go_Qb ?_
        refine sd_drawn (fun W => AllP W []) (fun _ => true) (by kernel_rfl) 24 rfl ?_
        refine sd_yes2 0 rfl (by exact gd_) (by kernel_rfl) (by kernel_rfl) (by exact nop_) (PuI.all (by exact pv_Qb)) rfl (fun w hw => all_ hw) ?_
        refine sd_yes2 1 rfl (by exact gd_) (by kernel_rfl) (by kernel_rfl) (by exact nop_) (PuI.all (by exact pv_Qb)) rfl (fun w hw => all_ hw) ?_
        refine sd_yes2 2 rfl (by exact gd_) (by kernel_rfl) (by kernel_rfl) (by exact nop_) (PuI.all (by exact pv_Qb)) rfl (fun w hw => all_ hw) ?_
        refine sd_yes2 3 rfl (by exact gd_) (by kernel_rfl) (by kernel_rfl) (by exact nop_) (PuI.all (by exact pv_Qb)) rfl (fun w hw => all_ hw) ?_
        refine sd_yes2 4 rfl (by exact gd_) (by kernel_rfl) (by kernel_rfl) (by exact nop_) (PuI.all (by exact pv_Qb)) rfl (fun w hw => all_ hw) ?_
        refine sd_yes2 5 rfl (by exact gd_) (by kernel_rfl) (by kernel_rfl) (by exact nop_) (PuI.all (by exact pv_Qb)) rfl (fun w hw => all_ hw) ?_
        refine sd_yes2 6 rfl (by exact gd_) (by kernel_rfl) (by kernel_rfl) (by exact nop_) (PuI.all (by exact pv_Qb)) rfl (fun w hw => all_ hw) ?_
        refine sd_yes2 7 rfl (by exact gd_) (by kernel_rfl) (by kernel_rfl) (by exact nop_) (PuI.all (by exact pv_Qb)) rfl (fun w hw => all_ hw) ?_
        refine sd_yes2 8 rfl (by exact gd_) (by kernel_rfl) (by kernel_rfl) (by exact nop_) (PuI.all (by exact pv_Qb)) rfl (fun w hw => all_ hw) ?_
        refine sd_yes2 9 rfl (by exact gd_) (by kernel_rfl) (by kernel_rfl) (by exact nop_) (PuI.all (by exact pv_Qb)) rfl (fun w hw => all_ hw) ?_
        refine sd_yes2 10 rfl (by exact gd_) (by kernel_rfl) (by kernel_rfl) (by exact nop_) (PuI.all (by exact pv_Qb)) rfl (fun w hw => all_ hw) ?_
        refine sd_yes2 11 rfl (by exact gd_) (by kernel_rfl) (by kernel_rfl) (by exact nop_) (PuI.all (by exact pv_Qb)) rfl (fun w hw => all_ hw) ?_
        refine sd_yes2 12 rfl (by exact gd_) (by kernel_rfl) (by kernel_rfl) (by exact nop_) (PuI.all (by exact pv_Qb)) rfl (fun w hw => all_ hw) ?_
        refine sd_yes2 14 rfl (by exact gd_) (by kernel_rfl) (by kernel_rfl) (by exact nop_) (PuI.all (by exact pv_Qb)) rfl (fun w hw => all_ hw) ?_
        refine sd_yes2 15 rfl (by exact gd_) (by kernel_rfl) (by kernel_rfl) (by exact nop_) (PuI.all (by exact pv_Qb)) rfl (fun w hw => all_ hw) ?_
        refine sd_yes2 16 rfl (by exact gd_) (by kernel_rfl) (by kernel_rfl) (by exact nop_) (PuI.all (by exact pv_Qb)) rfl (fun w hw => all_ hw) ?_
        refine sd_yes2 17 rfl (by exact gd_) (by kernel_rfl) (by kernel_rfl) (by exact nop_) (PuI.all (by exact pv_Qb)) rfl (fun w hw => all_ hw) ?_
        refine sd_yes2 18 rfl (by exact gd_) (by kernel_rfl) (by kernel_rfl) (by exact nop_) (PuI.all (by exact pv_Qb)) rfl (fun w hw => all_ hw) ?_
        refine sd_batch (fun i => [13, 19].contains i) ?_
        refine sx_yes 13 rfl (by exact gd_) (by kernel_rfl) (by kernel_rfl) (by exact nop_) (PuI.sep (by exact pv_Qb)) rfl (fun _ h => h) ?_
        refine sx_yes 19 rfl (by exact gd_) (by kernel_rfl) (by kernel_rfl) (by exact nop_) (PuI.sep (by exact pv_Qb)) rfl (fun _ h => h) ?_
        refine sx_rest (by kernel_rfl) ?_
        refine sd_one 20 (by kernel_rfl) (sa_sl 20 rfl ?_)
        repeat refine su_Qb ?_
        refine sl_nil ?_
        refine se_sd (fun _ _ _ => trivial) ?_
        refine sd_one 21 (by kernel_rfl) (sa_sl 21 rfl ?_)
        refine sl_sto2 (i := F + r) rfl (at1k (by omega)) (by exact pick_) rfl rfl rfl (by omega) ?_
        refine sl_nil ?_
        refine se_sd (fun _ _ _ => trivial) ?_
        refine sd_one 22 (by kernel_rfl) (sa_sl 22 rfl ?_)
        repeat refine su_Qb ?_
        refine sl_nil ?_
        refine se_sd (fun _ _ _ => trivial) ?_
        refine sd_one 23 (by kernel_rfl) (sa_sl 23 rfl ?_)
        refine sl_swp (i := F + r) (j := F + (2 * r + 2)) rfl (at1k (by omega)) (by exact pick_) rfl (get_k (by omega)) (get_k (by omega)) rfl (by omega) ?_
        refine sl_nil ?_
        refine se_sd (fun _ _ _ => trivial) ?_
        refine sd_done (by kernel_rfl) ?_
        refine go_Qb ?_
        rw [show (2 * (r : Int) + 1 + 1 : Int) = (((2 * r + 2) : Nat) : Int) by omega]
        exact se_round ((2 * r + 2), swp e (F + r) (F + (2 * r + 2))) (by exact has_) (by exact sub_) ⟨swp_sz hes _ _, by dsimp only; omega, heT⟩ (by dsimp only; omega)
    | false =>
      rw [sift_l h0 (by simp [hl])] at heT
      refine go_Qb ?_
      refine sq_region (by kernel_rfl) (by kernel_rfl) ?_
      repeat refine rq_Qb ?_
      refine WQ_call rfl rfl (by kernel_rfl) rfl (less_ok (lt_k (by omega) (by omega) hl)) ?_
      repeat refine rq_Qb ?_
      refine sq_end ?_
      refine go_Qb ?_
      cases hl2 : ltInt e[F + r]! e[F + (2 * r + 1)]! with
      | false =>
        rw [hl2, if_neg (by decide)] at heT
        subst heT
        refine sq_region (by kernel_rfl) (by kernel_rfl) ?_
        repeat refine rq_Qb ?_
        refine WQ_call rfl rfl (by kernel_rfl) rfl (less_ok (lt_k (by omega) (by omega) hl2)) ?_
        repeat refine rq_Qb ?_
        refine sq_end ?_
        refine go_Qb ?_
        exact se_ret0 () trivial rfl rfl (by exact sub_)
      | true =>
        rw [hl2, if_pos rfl] at heT
        refine sq_region (by kernel_rfl) (by kernel_rfl) ?_
        repeat refine rq_Qb ?_
        refine WQ_call rfl rfl (by kernel_rfl) rfl (less_ok (lt_k (by omega) (by omega) hl2)) ?_
        repeat refine rq_Qb ?_
        refine sq_end ?_
        refine go_Qb ?_
        refine sd_drawn (fun W => AllP W []) (fun _ => true) (by kernel_rfl) 24 rfl ?_
        refine sd_yes2 0 rfl (by exact gd_) (by kernel_rfl) (by kernel_rfl) (by exact nop_) (PuI.all (by exact pv_Qb)) rfl (fun w hw => all_ hw) ?_
        refine sd_yes2 1 rfl (by exact gd_) (by kernel_rfl) (by kernel_rfl) (by exact nop_) (PuI.all (by exact pv_Qb)) rfl (fun w hw => all_ hw) ?_
        refine sd_yes2 2 rfl (by exact gd_) (by kernel_rfl) (by kernel_rfl) (by exact nop_) (PuI.all (by exact pv_Qb)) rfl (fun w hw => all_ hw) ?_
        refine sd_yes2 3 rfl (by exact gd_) (by kernel_rfl) (by kernel_rfl) (by exact nop_) (PuI.all (by exact pv_Qb)) rfl (fun w hw => all_ hw) ?_
        refine sd_yes2 4 rfl (by exact gd_) (by kernel_rfl) (by kernel_rfl) (by exact nop_) (PuI.all (by exact pv_Qb)) rfl (fun w hw => all_ hw) ?_
        refine sd_yes2 5 rfl (by exact gd_) (by kernel_rfl) (by kernel_rfl) (by exact nop_) (PuI.all (by exact pv_Qb)) rfl (fun w hw => all_ hw) ?_
        refine sd_yes2 6 rfl (by exact gd_) (by kernel_rfl) (by kernel_rfl) (by exact nop_) (PuI.all (by exact pv_Qb)) rfl (fun w hw => all_ hw) ?_
        refine sd_yes2 7 rfl (by exact gd_) (by kernel_rfl) (by kernel_rfl) (by exact nop_) (PuI.all (by exact pv_Qb)) rfl (fun w hw => all_ hw) ?_
        refine sd_yes2 8 rfl (by exact gd_) (by kernel_rfl) (by kernel_rfl) (by exact nop_) (PuI.all (by exact pv_Qb)) rfl (fun w hw => all_ hw) ?_
        refine sd_yes2 9 rfl (by exact gd_) (by kernel_rfl) (by kernel_rfl) (by exact nop_) (PuI.all (by exact pv_Qb)) rfl (fun w hw => all_ hw) ?_
        refine sd_yes2 10 rfl (by exact gd_) (by kernel_rfl) (by kernel_rfl) (by exact nop_) (PuI.all (by exact pv_Qb)) rfl (fun w hw => all_ hw) ?_
        refine sd_yes2 11 rfl (by exact gd_) (by kernel_rfl) (by kernel_rfl) (by exact nop_) (PuI.all (by exact pv_Qb)) rfl (fun w hw => all_ hw) ?_
        refine sd_yes2 12 rfl (by exact gd_) (by kernel_rfl) (by kernel_rfl) (by exact nop_) (PuI.all (by exact pv_Qb)) rfl (fun w hw => all_ hw) ?_
        refine sd_yes2 14 rfl (by exact gd_) (by kernel_rfl) (by kernel_rfl) (by exact nop_) (PuI.all (by exact pv_Qb)) rfl (fun w hw => all_ hw) ?_
        refine sd_yes2 15 rfl (by exact gd_) (by kernel_rfl) (by kernel_rfl) (by exact nop_) (PuI.all (by exact pv_Qb)) rfl (fun w hw => all_ hw) ?_
        refine sd_yes2 16 rfl (by exact gd_) (by kernel_rfl) (by kernel_rfl) (by exact nop_) (PuI.all (by exact pv_Qb)) rfl (fun w hw => all_ hw) ?_
        refine sd_yes2 17 rfl (by exact gd_) (by kernel_rfl) (by kernel_rfl) (by exact nop_) (PuI.all (by exact pv_Qb)) rfl (fun w hw => all_ hw) ?_
        refine sd_yes2 18 rfl (by exact gd_) (by kernel_rfl) (by kernel_rfl) (by exact nop_) (PuI.all (by exact pv_Qb)) rfl (fun w hw => all_ hw) ?_
        refine sd_batch (fun i => [13, 19].contains i) ?_
        refine sx_yes 13 rfl (by exact gd_) (by kernel_rfl) (by kernel_rfl) (by exact nop_) (PuI.sep (by exact pv_Qb)) rfl (fun _ h => h) ?_
        refine sx_yes 19 rfl (by exact gd_) (by kernel_rfl) (by kernel_rfl) (by exact nop_) (PuI.sep (by exact pv_Qb)) rfl (fun _ h => h) ?_
        refine sx_rest (by kernel_rfl) ?_
        refine sd_one 20 (by kernel_rfl) (sa_sl 20 rfl ?_)
        repeat refine su_Qb ?_
        refine sl_nil ?_
        refine se_sd (fun _ _ _ => trivial) ?_
        refine sd_one 21 (by kernel_rfl) (sa_sl 21 rfl ?_)
        refine sl_sto2 (i := F + r) rfl (at1k (by omega)) (by exact pick_) rfl rfl rfl (by omega) ?_
        refine sl_nil ?_
        refine se_sd (fun _ _ _ => trivial) ?_
        refine sd_one 22 (by kernel_rfl) (sa_sl 22 rfl ?_)
        repeat refine su_Qb ?_
        refine sl_nil ?_
        refine se_sd (fun _ _ _ => trivial) ?_
        refine sd_one 23 (by kernel_rfl) (sa_sl 23 rfl ?_)
        refine sl_swp (i := F + r) (j := F + (2 * r + 1)) rfl (at1k (by omega)) (by exact pick_) rfl (get_k (by omega)) (get_k (by omega)) rfl (by omega) ?_
        refine sl_nil ?_
        refine se_sd (fun _ _ _ => trivial) ?_
        refine sd_done (by kernel_rfl) ?_
        refine go_Qb ?_
        rw [show (2 * (r : Int) + 1 : Int) = (((2 * r + 1) : Nat) : Int) by omega]
        exact se_round ((2 * r + 1), swp e (F + r) (F + (2 * r + 1))) (by exact has_) (by exact sub_) ⟨swp_sz hes _ _, by dsimp only; omega, heT⟩ (by dsimp only; omega)
  · rw [sift_l h0 (by simp [hc])] at heT
    refine go_Qb ?_
    refine sq_region (by kernel_rfl) (by kernel_rfl) ?_
    repeat refine rq_Qb ?_
    refine sq_end ?_
    refine go_Qb ?_
    cases hl2 : ltInt e[F + r]! e[F + (2 * r + 1)]! with
    | false =>
      rw [hl2, if_neg (by decide)] at heT
      subst heT
      refine sq_region (by kernel_rfl) (by kernel_rfl) ?_
      repeat refine rq_Qb ?_
      refine WQ_call rfl rfl (by kernel_rfl) rfl (less_ok (lt_k (by omega) (by omega) hl2)) ?_
      repeat refine rq_Qb ?_
      refine sq_end ?_
      refine go_Qb ?_
      exact se_ret0 () trivial rfl rfl (by exact sub_)
    | true =>
      rw [hl2, if_pos rfl] at heT
      refine sq_region (by kernel_rfl) (by kernel_rfl) ?_
      repeat refine rq_Qb ?_
      refine WQ_call rfl rfl (by kernel_rfl) rfl (less_ok (lt_k (by omega) (by omega) hl2)) ?_
      repeat refine rq_Qb ?_
      refine sq_end ?_
      refine go_Qb ?_
      refine sd_drawn (fun W => AllP W []) (fun _ => true) (by kernel_rfl) 24 rfl ?_
      refine sd_yes2 0 rfl (by exact gd_) (by kernel_rfl) (by kernel_rfl) (by exact nop_) (PuI.all (by exact pv_Qb)) rfl (fun w hw => all_ hw) ?_
      refine sd_yes2 1 rfl (by exact gd_) (by kernel_rfl) (by kernel_rfl) (by exact nop_) (PuI.all (by exact pv_Qb)) rfl (fun w hw => all_ hw) ?_
      refine sd_yes2 2 rfl (by exact gd_) (by kernel_rfl) (by kernel_rfl) (by exact nop_) (PuI.all (by exact pv_Qb)) rfl (fun w hw => all_ hw) ?_
      refine sd_yes2 3 rfl (by exact gd_) (by kernel_rfl) (by kernel_rfl) (by exact nop_) (PuI.all (by exact pv_Qb)) rfl (fun w hw => all_ hw) ?_
      refine sd_yes2 4 rfl (by exact gd_) (by kernel_rfl) (by kernel_rfl) (by exact nop_) (PuI.all (by exact pv_Qb)) rfl (fun w hw => all_ hw) ?_
      refine sd_yes2 5 rfl (by exact gd_) (by kernel_rfl) (by kernel_rfl) (by exact nop_) (PuI.all (by exact pv_Qb)) rfl (fun w hw => all_ hw) ?_
      refine sd_yes2 6 rfl (by exact gd_) (by kernel_rfl) (by kernel_rfl) (by exact nop_) (PuI.all (by exact pv_Qb)) rfl (fun w hw => all_ hw) ?_
      refine sd_yes2 7 rfl (by exact gd_) (by kernel_rfl) (by kernel_rfl) (by exact nop_) (PuI.all (by exact pv_Qb)) rfl (fun w hw => all_ hw) ?_
      refine sd_yes2 8 rfl (by exact gd_) (by kernel_rfl) (by kernel_rfl) (by exact nop_) (PuI.all (by exact pv_Qb)) rfl (fun w hw => all_ hw) ?_
      refine sd_yes2 9 rfl (by exact gd_) (by kernel_rfl) (by kernel_rfl) (by exact nop_) (PuI.all (by exact pv_Qb)) rfl (fun w hw => all_ hw) ?_
      refine sd_yes2 10 rfl (by exact gd_) (by kernel_rfl) (by kernel_rfl) (by exact nop_) (PuI.all (by exact pv_Qb)) rfl (fun w hw => all_ hw) ?_
      refine sd_yes2 11 rfl (by exact gd_) (by kernel_rfl) (by kernel_rfl) (by exact nop_) (PuI.all (by exact pv_Qb)) rfl (fun w hw => all_ hw) ?_
      refine sd_yes2 12 rfl (by exact gd_) (by kernel_rfl) (by kernel_rfl) (by exact nop_) (PuI.all (by exact pv_Qb)) rfl (fun w hw => all_ hw) ?_
      refine sd_yes2 14 rfl (by exact gd_) (by kernel_rfl) (by kernel_rfl) (by exact nop_) (PuI.all (by exact pv_Qb)) rfl (fun w hw => all_ hw) ?_
      refine sd_yes2 15 rfl (by exact gd_) (by kernel_rfl) (by kernel_rfl) (by exact nop_) (PuI.all (by exact pv_Qb)) rfl (fun w hw => all_ hw) ?_
      refine sd_yes2 16 rfl (by exact gd_) (by kernel_rfl) (by kernel_rfl) (by exact nop_) (PuI.all (by exact pv_Qb)) rfl (fun w hw => all_ hw) ?_
      refine sd_yes2 17 rfl (by exact gd_) (by kernel_rfl) (by kernel_rfl) (by exact nop_) (PuI.all (by exact pv_Qb)) rfl (fun w hw => all_ hw) ?_
      refine sd_yes2 18 rfl (by exact gd_) (by kernel_rfl) (by kernel_rfl) (by exact nop_) (PuI.all (by exact pv_Qb)) rfl (fun w hw => all_ hw) ?_
      refine sd_batch (fun i => [13, 19].contains i) ?_
      refine sx_yes 13 rfl (by exact gd_) (by kernel_rfl) (by kernel_rfl) (by exact nop_) (PuI.sep (by exact pv_Qb)) rfl (fun _ h => h) ?_
      refine sx_yes 19 rfl (by exact gd_) (by kernel_rfl) (by kernel_rfl) (by exact nop_) (PuI.sep (by exact pv_Qb)) rfl (fun _ h => h) ?_
      refine sx_rest (by kernel_rfl) ?_
      refine sd_one 20 (by kernel_rfl) (sa_sl 20 rfl ?_)
      repeat refine su_Qb ?_
      refine sl_nil ?_
      refine se_sd (fun _ _ _ => trivial) ?_
      refine sd_one 21 (by kernel_rfl) (sa_sl 21 rfl ?_)
      refine sl_sto2 (i := F + r) rfl (at1k (by omega)) (by exact pick_) rfl rfl rfl (by omega) ?_
      refine sl_nil ?_
      refine se_sd (fun _ _ _ => trivial) ?_
      refine sd_one 22 (by kernel_rfl) (sa_sl 22 rfl ?_)
      repeat refine su_Qb ?_
      refine sl_nil ?_
      refine se_sd (fun _ _ _ => trivial) ?_
      refine sd_one 23 (by kernel_rfl) (sa_sl 23 rfl ?_)
      refine sl_swp (i := F + r) (j := F + (2 * r + 1)) rfl (at1k (by omega)) (by exact pick_) rfl (get_k (by omega)) (get_k (by omega)) rfl (by omega) ?_
      refine sl_nil ?_
      refine se_sd (fun _ _ _ => trivial) ?_
      refine sd_done (by kernel_rfl) ?_
      refine go_Qb ?_
      rw [show (2 * (r : Int) + 1 : Int) = (((2 * r + 1) : Nat) : Int) by omega]
      exact se_round ((2 * r + 1), swp e (F + r) (F + (2 * r + 1))) (by exact has_) (by exact sub_) ⟨swp_sz hes _ _, by dsimp only; omega, heT⟩ (by dsimp only; omega)
set_option maxRecDepth 100000 in
set_option maxHeartbeats 8000000 in
theorem heap_ok {K : List Fa} {g n c : Nat} {d : Array Int} {a h : Nat} (hd : d.size = n) (hb : a + h ≤ n) (h1 : 1 ≤ h) (hn : n ≤ 1000000) :
    Fn Try.prog 46 #[.slice (some ⟨g, 0, none⟩) n c, .int .i64 (a : Nat), .int .i64 ((a + h : Nat) : Int)] (uo g n c d :: K) (Ret (fun _ : Unit => True) (fun _ => .tuple #[]) (fun _ => uo g n c (heapSort ltInt d a (a + h)) :: K)) := by
  refine fn_enter Try.func46 rfl _ Try.ntmps46 (by simp) [(0, .slice (some ⟨g, 0, none⟩) n c), (1, .int .i64 (a : Nat)), (2, .int .i64 ((a + h : Nat) : Int))] (args_of (by simp)) ?_
  generalize hT : heapSort ltInt d a (a + h) = T
  unfold heapSort at hT
  rw [show a + h - a = h by omega] at hT
  refine go_Qb ?_
  rw [show (((a + h : Nat) : Int) - a) = h by omega, show (((h : Nat) : Int) - 1) / 2 = (((h - 1) / 2 + 1 : Nat) : Int) - 1 by omega]
  refine sc_for (α := Nat × Array Int) (fun p => [(0, .slice (some ⟨g, 0, none⟩) n c), (6, .int .i64 a), (7, .int .i64 0), (8, .int .i64 h), (9, .int .i64 ((p.1 : Int) - 1))]) (fun p => uo g n c p.2 :: K) (fun p => p.2.size = n ∧ p.1 ≤ n ∧ heapPop ltInt a h (heapBuild ltInt h a p.1 p.2) = T) (fun p => p.1) ((h - 1) / 2 + 1, d) (by exact has_) (by exact sub_) ⟨hd, by dsimp only; omega, hT⟩ ?_
  rintro ⟨k, e⟩ ⟨hes, hk, heT⟩
  dsimp only at hes hk heT ⊢
  rcases k with _ | k
  · simp only [heapBuild] at heT
    refine go_Qb ?_
    refine sc_for (α := Nat × Array Int) (fun p => [(0, .slice (some ⟨g, 0, none⟩) n c), (6, .int .i64 a), (7, .int .i64 0), (10, .int .i64 ((p.1 : Int) - 1))]) (fun p => uo g n c p.2 :: K) (fun p => p.2.size = n ∧ p.1 ≤ h ∧ heapPop ltInt a p.1 p.2 = T) (fun p => p.1) (h, e) (by exact has_) (by exact sub_) ⟨hes, by dsimp only; omega, heT⟩ ?_
    rintro ⟨k, e'⟩ ⟨hes', hk', heT'⟩
    dsimp only at hes' hk' heT' ⊢
    rcases k with _ | k
    · simp only [heapPop] at heT'
      subst heT'
      refine go_Qb ?_
      exact se_end0 () trivial rfl rfl (by exact sub_)
    rw [heapPop] at heT'
    rw [show (((k + 1 : Nat) : Int) - 1) = (k : Int) by omega]
    refine go_Qb ?_
    refine sd_drawn (fun W => AllP W []) (fun _ => true) (by kernel_rfl) 20 rfl ?_
    refine sd_yes2 0 rfl (by exact gd_) (by kernel_rfl) (by kernel_rfl) (by exact nop_) (PuI.all (by exact pv_Qb)) rfl (fun w hw => all_ hw) ?_
    refine sd_yes2 1 rfl (by exact gd_) (by kernel_rfl) (by kernel_rfl) (by exact nop_) (PuI.all (by exact pv_Qb)) rfl (fun w hw => all_ hw) ?_
    refine sd_yes2 2 rfl (by exact gd_) (by kernel_rfl) (by kernel_rfl) (by exact nop_) (PuI.all (by exact pv_Qb)) rfl (fun w hw => all_ hw) ?_
    refine sd_yes2 3 rfl (by exact gd_) (by kernel_rfl) (by kernel_rfl) (by exact nop_) (PuI.all (by exact pv_Qb)) rfl (fun w hw => all_ hw) ?_
    refine sd_yes2 4 rfl (by exact gd_) (by kernel_rfl) (by kernel_rfl) (by exact nop_) (PuI.all (by exact pv_Qb)) rfl (fun w hw => all_ hw) ?_
    refine sd_yes2 5 rfl (by exact gd_) (by kernel_rfl) (by kernel_rfl) (by exact nop_) (PuI.all (by exact pv_Qb)) rfl (fun w hw => all_ hw) ?_
    refine sd_yes2 6 rfl (by exact gd_) (by kernel_rfl) (by kernel_rfl) (by exact nop_) (PuI.all (by exact pv_Qb)) rfl (fun w hw => all_ hw) ?_
    refine sd_yes2 7 rfl (by exact gd_) (by kernel_rfl) (by kernel_rfl) (by exact nop_) (PuI.all (by exact pv_Qb)) rfl (fun w hw => all_ hw) ?_
    refine sd_yes2 8 rfl (by exact gd_) (by kernel_rfl) (by kernel_rfl) (by exact nop_) (PuI.all (by exact pv_Qb)) rfl (fun w hw => all_ hw) ?_
    refine sd_yes2 9 rfl (by exact gd_) (by kernel_rfl) (by kernel_rfl) (by exact nop_) (PuI.all (by exact pv_Qb)) rfl (fun w hw => all_ hw) ?_
    refine sd_yes2 10 rfl (by exact gd_) (by kernel_rfl) (by kernel_rfl) (by exact nop_) (PuI.all (by exact pv_Qb)) rfl (fun w hw => all_ hw) ?_
    refine sd_yes2 12 rfl (by exact gd_) (by kernel_rfl) (by kernel_rfl) (by exact nop_) (PuI.all (by exact pv_Qb)) rfl (fun w hw => all_ hw) ?_
    refine sd_yes2 13 rfl (by exact gd_) (by kernel_rfl) (by kernel_rfl) (by exact nop_) (PuI.all (by exact pv_Qb)) rfl (fun w hw => all_ hw) ?_
    refine sd_yes2 14 rfl (by exact gd_) (by kernel_rfl) (by kernel_rfl) (by exact nop_) (PuI.all (by exact pv_Qb)) rfl (fun w hw => all_ hw) ?_
    refine sd_batch (fun i => [11, 15].contains i) ?_
    refine sx_yes 11 rfl (by exact gd_) (by kernel_rfl) (by kernel_rfl) (by exact nop_) (PuI.sep (by exact pv_Qb)) rfl (fun _ h => h) ?_
    refine sx_yes 15 rfl (by exact gd_) (by kernel_rfl) (by kernel_rfl) (by exact nop_) (PuI.sep (by exact pv_Qb)) rfl (fun _ h => h) ?_
    refine sx_rest (by kernel_rfl) ?_
    refine sd_one 16 (by kernel_rfl) (sa_sl 16 rfl ?_)
    repeat refine su_Qb ?_
    refine sl_nil ?_
    refine se_sd (fun _ _ _ => trivial) ?_
    refine sd_one 17 (by kernel_rfl) (sa_sl 17 rfl ?_)
    refine sl_sto2 (i := a) rfl (at1k (by omega)) (by exact pick_) rfl rfl rfl (by omega) ?_
    refine sl_nil ?_
    refine se_sd (fun _ _ _ => trivial) ?_
    refine sd_one 18 (by kernel_rfl) (sa_sl 18 rfl ?_)
    repeat refine su_Qb ?_
    refine sl_nil ?_
    refine se_sd (fun _ _ _ => trivial) ?_
    refine sd_one 19 (by kernel_rfl) (sa_sl 19 rfl ?_)
    refine sl_swp (i := a) (j := a + k) rfl (at1k (by omega)) (by exact pick_) rfl (get_k (by omega)) (get_k (by omega)) rfl (by omega) ?_
    refine sl_nil ?_
    refine se_sd (fun _ _ _ => trivial) ?_
    refine sd_done (by kernel_rfl) ?_
    refine go_Qb ?_
    refine sl_call rfl rfl (by kernel_rfl) rfl (by exact sub_) (sift_ok (lo := 0) (swp_sz hes' _ _) (by omega) hn (by omega)) ?_
    rintro _ -
    refine go_Qb ?_
    exact se_round (k, siftDown ltInt k a 0 (swp e' a (a + k))) (by exact has_) (by exact sub_) ⟨by dsimp only; rw [sift_size _ _ _ _ _ (Nat.le_refl _)]; exact swp_sz hes' _ _, by dsimp only; omega, heT'⟩ (by dsimp only; omega)
  rw [heapBuild] at heT
  rw [show (((k + 1 : Nat) : Int) - 1) = (k : Int) by omega]
  refine go_Qb ?_
  refine sl_call rfl rfl (by kernel_rfl) rfl (by exact sub_) (sift_ok (lo := k) hes (by omega) hn (by omega)) ?_
  rintro _ -
  refine go_Qb ?_
  exact se_round (k, siftDown ltInt h a k e) (by exact has_) (by exact sub_) ⟨by dsimp only; rw [sift_size _ _ _ _ _ (Nat.le_refl _)]; exact hes, by dsimp only; omega, heT⟩ (by dsimp only; omega)
end Go.Proofs.Ytdmeofobljjpfaa
/- slices.Sort at uint64: the pivot; a range turned round. (Written by wip/tools/mkqs.py.) -/
namespace Go.Proofs.Ytdmeofobljjpfaa
open Go.RowKit Go.Sort
attribute [local irreducible] Go.Calls Go.Exit.then Go.Exit.inBlock Go.bodyPost Go.Code.wp Go.wpList
theorem nth_Qc {φ : Prop} (h : φ := by (first | rfl | first | exact un_nth1 (by omega) | exact un_nth0 (by omega))) : φ := h
theorem mid_Qc {φ : Prop} (h : φ := by (first | exact Mid.all | exact Mid.all | exact Mid.head)) : φ := h
theorem sz_Qc {φ : Prop} (h : φ := by (first | rfl | (rfl; first | done | fail))) : φ := h
theorem one_Qc {φ : Prop} (h : φ := by (first | assumption | exact one_bytes _ | (simp only [List.mem_cons, List.not_mem_nil, or_false, forall_eq_or_imp, forall_eq]; decide) | exact one_bytes _ | (intro v hv; (repeat (rcases List.mem_cons.1 hv with rfl | hv; rfl)); cases hv))) : φ := h
theorem set_Qc {φ : Prop} (h : φ := by (first | (fail) | ((repeat (first | exact SetAt.here | apply SetAt.there)); first | done | fail))) : φ := h
theorem cl_Qc {φ : Prop} (h : φ := by first | rfl | exact .t | exact .f | exact .t (by omega) | exact .f (by omega) | exact .u | exact .i (by (first | exact .t (by omega) | exact .f (by omega) | exact .u | exact .i (by omega) | exact .v (by omega) | exact .b (by omega) | exact .w | rfl | omega)) | exact .v (by omega) | exact .b (by omega) | exact .q (by omega) | exact .w | exact .b (by exact at_) rfl (by exact nth_Qc) | exact .w (by exact at_) rfl rfl (by exact sz_Qc) | exact .s (by exact at_) (by exact mid_Qc) rfl rfl (by exact sz_Qc) | exact .z rfl rfl ⟨by kernel_rfl⟩ | exact .b rfl rfl ⟨by kernel_rfl⟩ | exact .a rfl rfl ⟨by kernel_rfl⟩ | exact .o rfl | exact .s | exact .n | exact .p rfl | exact .q rfl | exact .c rfl | exact .d rfl | exact .n rfl rfl (by omega) | exact .a rfl rfl (by omega) | exact .p rfl rfl (by omega) (by omega) | exact .y rfl rfl (by omega) (by omega) | exact .o (by exact at_) (by omega) rfl (by exact nth_Qc) | exact .m (by exact at_) (by omega) (by exact mid_Qc) rfl rfl (by exact sz_Qc) | exact .mlen (by exact at_) rfl | exact .t (by exact at_) rfl rfl (by first | exact True.intro | rfl) (by assumption) | exact .f (by exact at_) rfl rfl (by first | exact True.intro | rfl) (by assumption) rfl | exact .t1 (by exact at_) rfl rfl (by first | exact True.intro | rfl) (by assumption) | exact .f1 (by exact at_) rfl rfl (by first | exact True.intro | rfl) (by assumption) rfl | exact .r rfl rfl (by omega) (by omega) (by exact nth_Qc) rfl | exact .s rfl (by omega) (by assumption) | exact at_ | assumption | exact .r rfl rfl | exact .h rfl rfl rfl (by omega) | exact .l rfl rfl rfl (by omega) (by omega) | exact .g rfl rfl rfl rfl (by omega) (by omega) | exact .h rfl rfl (toN_ (by omega)) (by omega) | exact .l rfl rfl (toN_ (by omega)) (by omega) (by omega) | exact .g rfl rfl (toN_ (by omega)) (toN_ (by omega)) (by omega) (by omega) | exact .o (by decide) | exact .f (by decide) | exact .n (by omega) (by first | decide | (show _ ≤ ((64 : Nat) : Int); omega)) | (constructor; (repeat (first | exact .t (by omega) | exact .f (by omega) | exact .u | exact .i (by omega) | exact .v (by omega) | exact .b (by omega) | exact .w | rfl | omega)); first | done | fail) | omega | (show _ ≤ ((64 : Nat) : Int); omega)) : φ := h
theorem pv_Qc {φ : Prop} (h : φ := by constructor; (repeat exact cl_Qc); first | done | fail) : φ := h
theorem su_Qc {φ ψ : Prop} (k : ψ) (h : Hide ψ → φ := by (intro k; (first | refine sl_pu (PuI.sep (by exact pv_Qc)) rfl ?_ | refine sl_yes rfl rfl ?_ | refine sl_no rfl rfl rfl ?_ | refine sl_off rfl rfl rfl ?_ | (fail)); exact k.out)) : φ := h ⟨k⟩
theorem rq_Qc {φ ψ : Prop} (k : ψ) (h : Hide ψ → φ := by (intro k; (first | refine wq_pu (PuI.sep (by exact pv_Qc)) rfl ?_ | refine wq_yes rfl rfl ?_ | refine wq_no rfl rfl rfl ?_ | refine wq_off rfl rfl rfl ?_ | (fail)); exact k.out)) : φ := h ⟨k⟩
theorem sto_Qc {φ ψ : Prop} (k : ψ) (h : Hide ψ → φ := by (intro k; (first | refine sl_store rfl (by exact pick_) rfl rfl (by kernel_rfl) (by exact set_Qc) ?_ | refine sl_store_whole rfl (by exact pick_) rfl (by exact sz_Qc) (by exact sz_Qc) (by exact one_Qc) ?_); exact k.out)) : φ := h ⟨k⟩
theorem go_Qc {φ ψ : Prop} (k : ψ) (h : Hide ψ → φ := by (intro k; (repeat (first | refine su_Qc ?_ | refine so_ ?_ | refine sto_Qc ?_)); exact k.out)) : φ := h ⟨k⟩
theorem order2_le {d : Array Int} {a b s : Nat} : (order2 ltInt d a b s).2.2 ≤ s + 1 := by
  unfold order2
  split <;> simp
theorem order2_mem {d : Array Int} {a b s n : Nat} (ha : a < n) (hb : b < n) : (order2 ltInt d a b s).1 < n ∧ (order2 ltInt d a b s).2.1 < n := by
  unfold order2
  split <;> simp [ha, hb]
set_option maxRecDepth 100000 in
set_option maxHeartbeats 8000000 in
theorem order2_ok {K : List Fa} {g n c q s : Nat} {d : Array Int} {a b : Nat} (hd : d.size = n) (ha : a < n) (hb : b < n) (hs : s ≤ 100) :
    Fn Try.prog 77 #[.slice (some ⟨g, 0, none⟩) n c, .int .i64 (a : Nat), .int .i64 (b : Nat), .pointer (some ⟨q, 0, none⟩)] (uo g n c d :: blk q 3 [.int .i64 (s : Nat)] :: K) (Ret (fun _ : Unit => True) (fun _ => .tuple #[.int .i64 ((order2 ltInt d a b s).1 : Nat), .int .i64 ((order2 ltInt d a b s).2.1 : Nat)]) (fun _ => uo g n c d :: blk q 3 [.int .i64 (((order2 ltInt d a b s).2.2 : Nat) : Int)] :: K)) := by
  refine fn_enter Try.func77 rfl _ Try.ntmps77 (by simp) [(0, .slice (some ⟨g, 0, none⟩) n c), (1, .int .i64 (a : Nat)), (2, .int .i64 (b : Nat)), (3, .pointer (some ⟨q, 0, none⟩))] (args_of (by simp)) ?_
  cases hl : ltInt d[b]! d[a]! with
  | true =>
    rw [show order2 ltInt d a b s = (b, a, s + 1) by unfold order2; rw [if_pos hl]]
    dsimp only
    refine go_Qc ?_
    refine sq_region (by kernel_rfl) (by kernel_rfl) ?_
    repeat refine rq_Qc ?_
    refine WQ_call rfl rfl (by kernel_rfl) rfl (less_ok (lt_k (by omega) (by omega) hl)) ?_
    repeat refine rq_Qc ?_
    refine sq_end ?_
    refine go_Qc ?_
    rw [show ((s : Int) + 1) = ((s + 1 : Nat) : Int) by omega]
    exact se_ret2 () trivial rfl rfl rfl rfl (by exact sub_)
  | false =>
    rw [show order2 ltInt d a b s = (a, b, s) by unfold order2; rw [if_neg (by simp [hl])]]
    dsimp only
    refine go_Qc ?_
    refine sq_region (by kernel_rfl) (by kernel_rfl) ?_
    repeat refine rq_Qc ?_
    refine WQ_call rfl rfl (by kernel_rfl) rfl (less_ok (lt_k (by omega) (by omega) hl)) ?_
    repeat refine rq_Qc ?_
    refine sq_end ?_
    refine go_Qc ?_
    exact se_ret2 () trivial rfl rfl rfl rfl (by exact sub_)
theorem median_le {d : Array Int} {a b e s : Nat} : (median ltInt d a b e s).2 ≤ s + 3 := by
  have h1 := order2_le (d := d) (a := a) (b := b) (s := s)
  have h2 := order2_le (d := d) (a := (order2 ltInt d a b s).2.1) (b := e) (s := (order2 ltInt d a b s).2.2)
  have h3 := order2_le (d := d) (a := (order2 ltInt d a b s).1) (b := (order2 ltInt d (order2 ltInt d a b s).2.1 e (order2 ltInt d a b s).2.2).1) (s := (order2 ltInt d (order2 ltInt d a b s).2.1 e (order2 ltInt d a b s).2.2).2.2)
  show (order2 ltInt d (order2 ltInt d a b s).1 (order2 ltInt d (order2 ltInt d a b s).2.1 e (order2 ltInt d a b s).2.2).1 (order2 ltInt d (order2 ltInt d a b s).2.1 e (order2 ltInt d a b s).2.2).2.2).2.2 ≤ s + 3
  omega
theorem median_lt {d : Array Int} {a b e s n : Nat} (ha : a < n) (hb : b < n) (he : e < n) : (median ltInt d a b e s).1 < n := by
  have h1 := order2_mem (d := d) (s := s) ha hb
  have h2 := order2_mem (d := d) (s := (order2 ltInt d a b s).2.2) h1.2 he
  exact (order2_mem (d := d) (s := (order2 ltInt d (order2 ltInt d a b s).2.1 e (order2 ltInt d a b s).2.2).2.2) h1.1 h2.1).2
set_option maxRecDepth 100000 in
set_option maxHeartbeats 8000000 in
theorem median_ok {K : List Fa} {g n c q s : Nat} {d : Array Int} {a b e : Nat} (hd : d.size = n) (ha : a < n) (hb : b < n) (he : e < n) (hs : s ≤ 90) :
    Fn Try.prog 66 #[.slice (some ⟨g, 0, none⟩) n c, .int .i64 (a : Nat), .int .i64 (b : Nat), .int .i64 (e : Nat), .pointer (some ⟨q, 0, none⟩)] (uo g n c d :: blk q 3 [.int .i64 (s : Nat)] :: K) (Ret (fun _ : Unit => True) (fun _ => .int .i64 ((median ltInt d a b e s).1 : Nat)) (fun _ => uo g n c d :: blk q 3 [.int .i64 (((median ltInt d a b e s).2 : Nat) : Int)] :: K)) := by
  refine fn_enter Try.func66 rfl _ Try.ntmps66 (by simp) [(0, .slice (some ⟨g, 0, none⟩) n c), (1, .int .i64 (a : Nat)), (2, .int .i64 (b : Nat)), (3, .int .i64 (e : Nat)), (4, .pointer (some ⟨q, 0, none⟩))] (args_of (by simp)) ?_
  have h1 := order2_mem (d := d) (s := s) ha hb
  have l1 := order2_le (d := d) (a := a) (b := b) (s := s)
  have hm : median ltInt d a b e s = ((order2 ltInt d (order2 ltInt d a b s).1 (order2 ltInt d (order2 ltInt d a b s).2.1 e (order2 ltInt d a b s).2.2).1 (order2 ltInt d (order2 ltInt d a b s).2.1 e (order2 ltInt d a b s).2.2).2.2).2.1, (order2 ltInt d (order2 ltInt d a b s).1 (order2 ltInt d (order2 ltInt d a b s).2.1 e (order2 ltInt d a b s).2.2).1 (order2 ltInt d (order2 ltInt d a b s).2.1 e (order2 ltInt d a b s).2.2).2.2).2.2) := rfl
  rw [hm]
  dsimp only
  refine go_Qc ?_
  refine sl_call rfl rfl (by kernel_rfl) rfl (by exact sub_) (order2_ok (s := s) hd ha hb (by omega)) ?_; rintro _ -
  generalize order2 ltInt d a b s = r1 at h1 l1 ⊢
  obtain ⟨x1, y1, z1⟩ := r1
  dsimp only at h1 l1 ⊢
  have h2 := order2_mem (d := d) (s := z1) h1.2 he
  have l2 := order2_le (d := d) (a := y1) (b := e) (s := z1)
  refine go_Qc ?_
  refine sl_call rfl rfl (by kernel_rfl) rfl (by exact sub_) (order2_ok (s := z1) hd h1.2 he (by omega)) ?_; rintro _ -
  generalize order2 ltInt d y1 e z1 = r2 at h2 l2 ⊢
  obtain ⟨x2, y2, z2⟩ := r2
  dsimp only at h2 l2 ⊢
  refine go_Qc ?_
  refine sl_call rfl rfl (by kernel_rfl) rfl (by exact sub_) (order2_ok (s := z2) hd h1.1 h2.1 (by omega)) ?_; rintro _ -
  generalize order2 ltInt d x1 x2 z2 = r3
  obtain ⟨x3, y3, z3⟩ := r3
  dsimp only
  refine go_Qc ?_
  exact se_ret1 () trivial rfl rfl (by exact sub_)
def hintV (x : Hint) : Int := match x with
  | .unknown => 0
  | .increasing => 1
  | .decreasing => 2
theorem piv_eq {d : Array Int} {a h : Nat} (h8 : 8 ≤ h) (h50 : h < 50) : choosePivot ltInt d a (a + h) = ((median ltInt d (a + h / 4 * 1) (a + h / 4 * 2) (a + h / 4 * 3) 0).1, if (median ltInt d (a + h / 4 * 1) (a + h / 4 * 2) (a + h / 4 * 3) 0).2 = 0 then .increasing else .unknown) := by
  have hm := median_le (d := d) (a := a + h / 4 * 1) (b := a + h / 4 * 2) (e := a + h / 4 * 3) (s := 0)
  unfold choosePivot
  rw [show a + h - a = h by omega]
  simp only [if_pos h8, if_neg (show ¬ h ≥ 50 by omega)]
  congr 1
  by_cases h0 : (median ltInt d (a + h / 4 * 1) (a + h / 4 * 2) (a + h / 4 * 3) 0).2 = 0
  · rw [if_pos h0, if_pos h0]
  · rw [if_neg h0, if_neg h0, if_neg (by omega)]
set_option maxRecDepth 100000 in
set_option maxHeartbeats 8000000 in
theorem piv_ok {K : List Fa} {g n c : Nat} {d : Array Int} {a h : Nat} (hd : d.size = n) (hb : a + h ≤ n) (h8 : 8 ≤ h) (h50 : h < 50) (hn : n ≤ 1000000) :
    Fn Try.prog 48 #[.slice (some ⟨g, 0, none⟩) n c, .int .i64 (a : Nat), .int .i64 ((a + h : Nat) : Int)] (uo g n c d :: K) (Ret (fun _ : Unit => True) (fun _ => .tuple #[.int .i64 ((choosePivot ltInt d a (a + h)).1 : Nat), .int .i64 (hintV (choosePivot ltInt d a (a + h)).2)]) (fun _ => uo g n c d :: K)) := by
  refine fn_enter Try.func48 rfl _ Try.ntmps48 (by simp) [(0, .slice (some ⟨g, 0, none⟩) n c), (1, .int .i64 (a : Nat)), (2, .int .i64 ((a + h : Nat) : Int))] (args_of (by simp)) ?_
  rw [piv_eq h8 h50]
  have hm := median_le (d := d) (a := a + h / 4 * 1) (b := a + h / 4 * 2) (e := a + h / 4 * 3) (s := 0)
  refine go_Qc ?_
  refine sl_alloc rfl rfl rfl ?_; intro q
  rw [show (((a + h : Nat) : Int) - a) = h by omega]
  refine go_Qc ?_
  rw [show ((a : Int) + (h : Int) / 4 * 1) = ((a + h / 4 * 1 : Nat) : Int) by omega, show ((a : Int) + (h : Int) / 4 * 2) = ((a + h / 4 * 2 : Nat) : Int) by omega, show ((a : Int) + (h : Int) / 4 * 3) = ((a + h / 4 * 3 : Nat) : Int) by omega]
  refine sl_call rfl rfl (by kernel_rfl) rfl (by exact sub_) (median_ok (s := 0) hd (by omega) (by omega) (by omega) (by omega)) ?_; rintro _ -
  generalize median ltInt d (a + h / 4 * 1) (a + h / 4 * 2) (a + h / 4 * 3) 0 = r at hm ⊢
  obtain ⟨x, y⟩ := r
  dsimp only at hm ⊢
  by_cases h0 : y = 0
  · subst h0
    rw [if_pos rfl]
    refine go_Qc ?_
    exact se_ret2 () trivial rfl rfl rfl rfl (by exact sub_)
  · rw [if_neg h0]
    refine go_Qc ?_
    exact se_ret2 () trivial rfl rfl rfl rfl (by exact sub_)
end Go.Proofs.Ytdmeofobljjpfaa
