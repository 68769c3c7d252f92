/- Several texts, one behind the other (Qd, Qe, Qf). -/
import Derived.Test.YtdmeofobljjpfaaQa
/- slices.Sort at uint64: partitions; is it sorted. (Written by wip/tools/mkqs.py.) -/
namespace Go.Proofs.Ytdmeofobljjpfaa
open Go.RowKit Go.Sort
attribute [local irreducible] Go.Calls Go.Exit.then Go.Exit.inBlock Go.bodyPost Go.Code.wp Go.wpList
theorem scanUp_out {p : Int → Bool} {d : Array Int} {i j : Nat} (h : ¬ i ≤ j) : scanUp p d j i = i := by rw [scanUp, if_neg (by simp [h])]
theorem scanUp_stop {p : Int → Bool} {d : Array Int} {i j : Nat} (h : p d[i]! = false) : scanUp p d j i = i := by rw [scanUp, if_neg (by simp [h])]
theorem scanUp_go {p : Int → Bool} {d : Array Int} {i j : Nat} (h1 : i ≤ j) (h : p d[i]! = true) : scanUp p d j i = scanUp p d j (i + 1) := by rw [scanUp, if_pos (by simp [h1, h])]
theorem scanDown_out {p : Int → Bool} {d : Array Int} {i j : Nat} (h : ¬ i ≤ j) : scanDown p d i j = j := by
  cases j with
  | zero => rfl
  | succ j => rw [scanDown, if_neg (by simp [h])]
theorem scanDown_stop {p : Int → Bool} {d : Array Int} {i j : Nat} (h : p d[j]! = false) : scanDown p d i j = j := by
  cases j with
  | zero => rfl
  | succ j => rw [scanDown, if_neg (by simp [h])]
theorem scanDown_go {p : Int → Bool} {d : Array Int} {i j : Nat} (h1 : i ≤ j + 1) (h : p d[j + 1]! = true) : scanDown p d i (j + 1) = scanDown p d i j := by rw [scanDown, if_pos (by simp [h1, h])]
theorem nth_Qd {φ : Prop} (h : φ := by (first | rfl | first | exact un_nth1 (by omega) | exact un_nth0 (by omega))) : φ := h
theorem mid_Qd {φ : Prop} (h : φ := by (first | exact Mid.all | exact Mid.all | exact Mid.head)) : φ := h
theorem sz_Qd {φ : Prop} (h : φ := by (first | rfl | (rfl; first | done | fail))) : φ := h
theorem one_Qd {φ : Prop} (h : φ := by (first | assumption | exact one_bytes _ | (simp only [List.mem_cons, List.not_mem_nil, or_false, forall_eq_or_imp, forall_eq]; decide) | exact one_bytes _ | (intro v hv; (repeat (rcases List.mem_cons.1 hv with rfl | hv; rfl)); cases hv))) : φ := h
theorem set_Qd {φ : Prop} (h : φ := by (first | (fail) | ((repeat (first | exact SetAt.here | apply SetAt.there)); first | done | fail))) : φ := h
theorem cl_Qd {φ : Prop} (h : φ := by first | rfl | exact .t | exact .f | exact .t (by omega) | exact .f (by omega) | exact .u | exact .i (by (first | exact .t (by omega) | exact .f (by omega) | exact .u | exact .i (by omega) | exact .v (by omega) | exact .b (by omega) | exact .w | rfl | omega)) | exact .v (by omega) | exact .b (by omega) | exact .q (by omega) | exact .w | exact .b (by exact at_) rfl (by exact nth_Qd) | exact .w (by exact at_) rfl rfl (by exact sz_Qd) | exact .s (by exact at_) (by exact mid_Qd) rfl rfl (by exact sz_Qd) | exact .z rfl rfl ⟨by kernel_rfl⟩ | exact .b rfl rfl ⟨by kernel_rfl⟩ | exact .a rfl rfl ⟨by kernel_rfl⟩ | exact .o rfl | exact .s | exact .n | exact .p rfl | exact .q rfl | exact .c rfl | exact .d rfl | exact .n rfl rfl (by omega) | exact .a rfl rfl (by omega) | exact .p rfl rfl (by omega) (by omega) | exact .y rfl rfl (by omega) (by omega) | exact .o (by exact at_) (by omega) rfl (by exact nth_Qd) | exact .m (by exact at_) (by omega) (by exact mid_Qd) rfl rfl (by exact sz_Qd) | exact .mlen (by exact at_) rfl | exact .t (by exact at_) rfl rfl (by first | exact True.intro | rfl) (by assumption) | exact .f (by exact at_) rfl rfl (by first | exact True.intro | rfl) (by assumption) rfl | exact .t1 (by exact at_) rfl rfl (by first | exact True.intro | rfl) (by assumption) | exact .f1 (by exact at_) rfl rfl (by first | exact True.intro | rfl) (by assumption) rfl | exact .r rfl rfl (by omega) (by omega) (by exact nth_Qd) rfl | exact .s rfl (by omega) (by assumption) | exact at_ | assumption | exact .r rfl rfl | exact .h rfl rfl rfl (by omega) | exact .l rfl rfl rfl (by omega) (by omega) | exact .g rfl rfl rfl rfl (by omega) (by omega) | exact .h rfl rfl (toN_ (by omega)) (by omega) | exact .l rfl rfl (toN_ (by omega)) (by omega) (by omega) | exact .g rfl rfl (toN_ (by omega)) (toN_ (by omega)) (by omega) (by omega) | exact .o (by decide) | exact .f (by decide) | exact .n (by omega) (by first | decide | (show _ ≤ ((64 : Nat) : Int); omega)) | (constructor; (repeat (first | exact .t (by omega) | exact .f (by omega) | exact .u | exact .i (by omega) | exact .v (by omega) | exact .b (by omega) | exact .w | rfl | omega)); first | done | fail) | omega | (show _ ≤ ((64 : Nat) : Int); omega)) : φ := h
theorem pv_Qd {φ : Prop} (h : φ := by constructor; (repeat exact cl_Qd); first | done | fail) : φ := h
theorem su_Qd {φ ψ : Prop} (k : ψ) (h : Hide ψ → φ := by (intro k; (first | refine sl_pu (PuI.sep (by exact pv_Qd)) rfl ?_ | refine sl_yes rfl rfl ?_ | refine sl_no rfl rfl rfl ?_ | refine sl_off rfl rfl rfl ?_ | (fail)); exact k.out)) : φ := h ⟨k⟩
theorem rq_Qd {φ ψ : Prop} (k : ψ) (h : Hide ψ → φ := by (intro k; (first | refine wq_pu (PuI.sep (by exact pv_Qd)) rfl ?_ | refine wq_yes rfl rfl ?_ | refine wq_no rfl rfl rfl ?_ | refine wq_off rfl rfl rfl ?_ | (fail)); exact k.out)) : φ := h ⟨k⟩
theorem sto_Qd {φ ψ : Prop} (k : ψ) (h : Hide ψ → φ := by (intro k; (first | refine sl_store rfl (by exact pick_) rfl rfl (by kernel_rfl) (by exact set_Qd) ?_ | refine sl_store_whole rfl (by exact pick_) rfl (by exact sz_Qd) (by exact sz_Qd) (by exact one_Qd) ?_); exact k.out)) : φ := h ⟨k⟩
theorem go_Qd {φ ψ : Prop} (k : ψ) (h : Hide ψ → φ := by (intro k; (repeat (first | refine su_Qd ?_ | refine so_ ?_ | refine sto_Qd ?_)); exact k.out)) : φ := h ⟨k⟩
set_option maxRecDepth 100000 in
set_option maxHeartbeats 8000000 in
theorem part_ok {K : List Fa} {g n c : Nat} {d : Array Int} {a b p : Nat} (hd : d.size = n) (hab : a < b) (hb : b ≤ n) (hp : a ≤ p ∧ p < b) (hn : n ≤ 1000000) :
    Fn Try.prog 53 #[.slice (some ⟨g, 0, none⟩) n c, .int .i64 (a : Nat), .int .i64 (b : Nat), .int .i64 (p : Nat)] (uo g n c d :: K) (Ret (fun _ : Unit => True) (fun _ => .tuple #[.int .i64 ((partition ltInt d a b p).1 : Nat), .bool (partition ltInt d a b p).2.1]) (fun _ => uo g n c (partition ltInt d a b p).2.2 :: K)) := by
  refine fn_enter Try.func53 rfl _ Try.ntmps53 (by simp) [(0, .slice (some ⟨g, 0, none⟩) n c), (1, .int .i64 (a : Nat)), (2, .int .i64 (b : Nat)), (3, .int .i64 (p : Nat))] (args_of (by simp)) ?_
  generalize hT : partition ltInt d a b p = T
  unfold partition at hT
  dsimp only at hT
  refine go_Qd ?_
  refine sd_drawn (fun W => AllP W []) (fun _ => true) (by kernel_rfl) 16 rfl ?_
  refine sd_yes2 0 rfl (by exact gd_) (by kernel_rfl) (by kernel_rfl) (by exact nop_) (PuI.all (by exact pv_Qd)) rfl (fun w hw => all_ hw) ?_
  refine sd_yes2 1 rfl (by exact gd_) (by kernel_rfl) (by kernel_rfl) (by exact nop_) (PuI.all (by exact pv_Qd)) rfl (fun w hw => all_ hw) ?_
  refine sd_yes2 2 rfl (by exact gd_) (by kernel_rfl) (by kernel_rfl) (by exact nop_) (PuI.all (by exact pv_Qd)) rfl (fun w hw => all_ hw) ?_
  refine sd_yes2 3 rfl (by exact gd_) (by kernel_rfl) (by kernel_rfl) (by exact nop_) (PuI.all (by exact pv_Qd)) rfl (fun w hw => all_ hw) ?_
  refine sd_yes2 4 rfl (by exact gd_) (by kernel_rfl) (by kernel_rfl) (by exact nop_) (PuI.all (by exact pv_Qd)) rfl (fun w hw => all_ hw) ?_
  refine sd_yes2 5 rfl (by exact gd_) (by kernel_rfl) (by kernel_rfl) (by exact nop_) (PuI.all (by exact pv_Qd)) rfl (fun w hw => all_ hw) ?_
  refine sd_yes2 6 rfl (by exact gd_) (by kernel_rfl) (by kernel_rfl) (by exact nop_) (PuI.all (by exact pv_Qd)) rfl (fun w hw => all_ hw) ?_
  refine sd_yes2 8 rfl (by exact gd_) (by kernel_rfl) (by kernel_rfl) (by exact nop_) (PuI.all (by exact pv_Qd)) rfl (fun w hw => all_ hw) ?_
  refine sd_yes2 9 rfl (by exact gd_) (by kernel_rfl) (by kernel_rfl) (by exact nop_) (PuI.all (by exact pv_Qd)) rfl (fun w hw => all_ hw) ?_
  refine sd_yes2 10 rfl (by exact gd_) (by kernel_rfl) (by kernel_rfl) (by exact nop_) (PuI.all (by exact pv_Qd)) rfl (fun w hw => all_ hw) ?_
  refine sd_batch (fun i => [7, 11].contains i) ?_
  refine sx_yes 7 rfl (by exact gd_) (by kernel_rfl) (by kernel_rfl) (by exact nop_) (PuI.sep (by exact pv_Qd)) rfl (fun _ h => h) ?_
  refine sx_yes 11 rfl (by exact gd_) (by kernel_rfl) (by kernel_rfl) (by exact nop_) (PuI.sep (by exact pv_Qd)) rfl (fun _ h => h) ?_
  refine sx_rest (by kernel_rfl) ?_
  refine sd_one 12 (by kernel_rfl) (sa_sl 12 rfl ?_)
  repeat refine su_Qd ?_
  refine sl_nil ?_
  refine se_sd (fun _ _ _ => trivial) ?_
  refine sd_one 13 (by kernel_rfl) (sa_sl 13 rfl ?_)
  refine sl_sto2 (i := a) rfl (at1k (by omega)) (by exact pick_) rfl rfl rfl (by omega) ?_
  refine sl_nil ?_
  refine se_sd (fun _ _ _ => trivial) ?_
  refine sd_one 14 (by kernel_rfl) (sa_sl 14 rfl ?_)
  repeat refine su_Qd ?_
  refine sl_nil ?_
  refine se_sd (fun _ _ _ => trivial) ?_
  refine sd_one 15 (by kernel_rfl) (sa_sl 15 rfl ?_)
  refine sl_swp (i := a) (j := p) rfl (at1k (by omega)) (by exact pick_) rfl (get_k (by omega)) (get_k (by omega)) rfl (by omega) ?_
  refine sl_nil ?_
  refine se_sd (fun _ _ _ => trivial) ?_
  refine sd_done (by kernel_rfl) ?_
  have hds := swp_sz hd a p
  generalize swp d a p = d1 at hds hT ⊢
  refine go_Qd ?_
  rw [show ((a : Int) + 1) = ((a + 1 : Nat) : Int) by omega, show ((b : Int) - 1) = ((b - 1 : Nat) : Int) by omega]
  refine sc_bjoin (α := Nat) (fun i => [(0, .slice (some ⟨g, 0, none⟩) n c), (1, .int .i64 a), (10, .int .i64 (i : Nat)), (11, .int .i64 ((b - 1) : Nat))]) (fun _ => uo g n c d1 :: K) (fun i => i = scanUp (fun x => ltInt x d1[a]!) d1 (b - 1) (a + 1)) ?_ ?_
  · refine sc_for (α := Nat) (fun i => [(0, .slice (some ⟨g, 0, none⟩) n c), (1, .int .i64 a), (10, .int .i64 (i : Nat)), (11, .int .i64 ((b - 1) : Nat))]) (fun _ => uo g n c d1 :: K) (fun i => (a + 1) ≤ i ∧ scanUp (fun x => ltInt x d1[a]!) d1 (b - 1) i = scanUp (fun x => ltInt x d1[a]!) d1 (b - 1) (a + 1)) (fun i => (b - 1) + 1 - i) ((a + 1)) (by exact has_) (by exact sub_) ⟨Nat.le_refl _, rfl⟩ ?_
    rintro i ⟨hi, hS⟩
    by_cases h1 : i ≤ (b - 1)
    case neg =>
      refine go_Qd ?_
      refine sq_region (by kernel_rfl) (by kernel_rfl) ?_
      repeat refine rq_Qd ?_
      refine sq_end ?_
      refine go_Qd ?_
      exact se_mid i (by exact has_) (by exact sub_) (by rw [← hS, scanUp_out h1])
    cases hl : ltInt d1[i]! d1[a]! with
    | false =>
      refine go_Qd ?_
      refine sq_region (by kernel_rfl) (by kernel_rfl) ?_
      repeat refine rq_Qd ?_
      refine WQ_call rfl rfl (by kernel_rfl) rfl (less_ok (lt_k (by omega) (by omega) hl)) ?_
      repeat refine rq_Qd ?_
      refine sq_end ?_
      refine go_Qd ?_
      exact se_mid i (by exact has_) (by exact sub_) (by rw [← hS, scanUp_stop (by simp [hl])])
    | true =>
      refine go_Qd ?_
      refine sq_region (by kernel_rfl) (by kernel_rfl) ?_
      repeat refine rq_Qd ?_
      refine WQ_call rfl rfl (by kernel_rfl) rfl (less_ok (lt_k (by omega) (by omega) hl)) ?_
      repeat refine rq_Qd ?_
      refine sq_end ?_
      refine go_Qd ?_
      exact se_round (i + 1) (by exact has_) (by exact sub_) ⟨by omega, by rw [← hS]; exact (scanUp_go h1 (by simp [hl])).symm⟩ (by omega)
  rintro i1 hi1
  have hi1' := scanUp_ge (fun x => ltInt x d1[a]!) d1 (b - 1) (a + 1)
  rw [← hi1] at hT hi1'
  clear hi1
  refine go_Qd ?_
  refine sc_bjoin (α := Nat) (fun i => [(0, .slice (some ⟨g, 0, none⟩) n c), (1, .int .i64 a), (10, .int .i64 (i1 : Nat)), (11, .int .i64 (i : Nat))]) (fun _ => uo g n c d1 :: K) (fun i => i = scanDown (fun x => !ltInt x d1[a]!) d1 i1 (b - 1)) ?_ ?_
  · refine sc_for (α := Nat) (fun i => [(0, .slice (some ⟨g, 0, none⟩) n c), (1, .int .i64 a), (10, .int .i64 (i1 : Nat)), (11, .int .i64 (i : Nat))]) (fun _ => uo g n c d1 :: K) (fun i => i ≤ (b - 1) ∧ scanDown (fun x => !ltInt x d1[a]!) d1 i1 i = scanDown (fun x => !ltInt x d1[a]!) d1 i1 (b - 1)) (fun i => i) ((b - 1)) (by exact has_) (by exact sub_) ⟨Nat.le_refl _, rfl⟩ ?_
    rintro i ⟨hi, hS⟩
    by_cases h1 : i1 ≤ i
    case neg =>
      refine go_Qd ?_
      refine sq_region (by kernel_rfl) (by kernel_rfl) ?_
      repeat refine rq_Qd ?_
      refine sq_end ?_
      refine go_Qd ?_
      exact se_mid i (by exact has_) (by exact sub_) (by rw [← hS, scanDown_out h1])
    obtain ⟨i, rfl⟩ : ∃ k, i = k + 1 := ⟨i - 1, by omega⟩
    cases hl : ltInt d1[i + 1]! d1[a]! with
    | true =>
      refine go_Qd ?_
      refine sq_region (by kernel_rfl) (by kernel_rfl) ?_
      repeat refine rq_Qd ?_
      refine WQ_call rfl rfl (by kernel_rfl) rfl (less_ok (lt_k (by omega) (by omega) hl)) ?_
      repeat refine rq_Qd ?_
      refine sq_end ?_
      refine go_Qd ?_
      exact se_mid (i + 1) (by exact has_) (by exact sub_) (by rw [← hS, scanDown_stop (by simp [hl])])
    | false =>
      refine go_Qd ?_
      refine sq_region (by kernel_rfl) (by kernel_rfl) ?_
      repeat refine rq_Qd ?_
      refine WQ_call rfl rfl (by kernel_rfl) rfl (less_ok (lt_k (by omega) (by omega) hl)) ?_
      repeat refine rq_Qd ?_
      refine sq_end ?_
      refine go_Qd ?_
      rw [show (((i + 1 : Nat) : Int) - 1) = (i : Int) by omega]
      exact se_round i (by exact has_) (by exact sub_) ⟨by omega, by rw [← hS]; exact (scanDown_go h1 (by simp [hl])).symm⟩ (by omega)
  rintro j1 hj1
  have hj1' := scanDown_le (fun x => !ltInt x d1[a]!) d1 i1 (b - 1)
  rw [← hj1] at hT hj1'
  clear hj1
  by_cases hij : i1 > j1
  · rw [if_pos hij] at hT
    subst hT
    dsimp only
    refine go_Qd ?_
    refine sd_drawn (fun W => AllP W []) (fun _ => true) (by kernel_rfl) 16 rfl ?_
    refine sd_yes2 0 rfl (by exact gd_) (by kernel_rfl) (by kernel_rfl) (by exact nop_) (PuI.all (by exact pv_Qd)) rfl (fun w hw => all_ hw) ?_
    refine sd_yes2 1 rfl (by exact gd_) (by kernel_rfl) (by kernel_rfl) (by exact nop_) (PuI.all (by exact pv_Qd)) rfl (fun w hw => all_ hw) ?_
    refine sd_yes2 2 rfl (by exact gd_) (by kernel_rfl) (by kernel_rfl) (by exact nop_) (PuI.all (by exact pv_Qd)) rfl (fun w hw => all_ hw) ?_
    refine sd_yes2 3 rfl (by exact gd_) (by kernel_rfl) (by kernel_rfl) (by exact nop_) (PuI.all (by exact pv_Qd)) rfl (fun w hw => all_ hw) ?_
    refine sd_yes2 4 rfl (by exact gd_) (by kernel_rfl) (by kernel_rfl) (by exact nop_) (PuI.all (by exact pv_Qd)) rfl (fun w hw => all_ hw) ?_
    refine sd_yes2 5 rfl (by exact gd_) (by kernel_rfl) (by kernel_rfl) (by exact nop_) (PuI.all (by exact pv_Qd)) rfl (fun w hw => all_ hw) ?_
    refine sd_yes2 6 rfl (by exact gd_) (by kernel_rfl) (by kernel_rfl) (by exact nop_) (PuI.all (by exact pv_Qd)) rfl (fun w hw => all_ hw) ?_
    refine sd_yes2 8 rfl (by exact gd_) (by kernel_rfl) (by kernel_rfl) (by exact nop_) (PuI.all (by exact pv_Qd)) rfl (fun w hw => all_ hw) ?_
    refine sd_yes2 9 rfl (by exact gd_) (by kernel_rfl) (by kernel_rfl) (by exact nop_) (PuI.all (by exact pv_Qd)) rfl (fun w hw => all_ hw) ?_
    refine sd_yes2 10 rfl (by exact gd_) (by kernel_rfl) (by kernel_rfl) (by exact nop_) (PuI.all (by exact pv_Qd)) rfl (fun w hw => all_ hw) ?_
    refine sd_batch (fun i => [7, 11].contains i) ?_
    refine sx_yes 7 rfl (by exact gd_) (by kernel_rfl) (by kernel_rfl) (by exact nop_) (PuI.sep (by exact pv_Qd)) rfl (fun _ h => h) ?_
    refine sx_yes 11 rfl (by exact gd_) (by kernel_rfl) (by kernel_rfl) (by exact nop_) (PuI.sep (by exact pv_Qd)) rfl (fun _ h => h) ?_
    refine sx_rest (by kernel_rfl) ?_
    refine sd_one 12 (by kernel_rfl) (sa_sl 12 rfl ?_)
    repeat refine su_Qd ?_
    refine sl_nil ?_
    refine se_sd (fun _ _ _ => trivial) ?_
    refine sd_one 13 (by kernel_rfl) (sa_sl 13 rfl ?_)
    refine sl_sto2 (i := j1) rfl (at1k (by omega)) (by exact pick_) rfl rfl rfl (by omega) ?_
    refine sl_nil ?_
    refine se_sd (fun _ _ _ => trivial) ?_
    refine sd_one 14 (by kernel_rfl) (sa_sl 14 rfl ?_)
    repeat refine su_Qd ?_
    refine sl_nil ?_
    refine se_sd (fun _ _ _ => trivial) ?_
    refine sd_one 15 (by kernel_rfl) (sa_sl 15 rfl ?_)
    refine sl_swp (i := j1) (j := a) rfl (at1k (by omega)) (by exact pick_) rfl (get_k (by omega)) (get_k (by omega)) rfl (by omega) ?_
    refine sl_nil ?_
    refine se_sd (fun _ _ _ => trivial) ?_
    refine sd_done (by kernel_rfl) ?_
    refine go_Qd ?_
    exact se_ret2 () trivial rfl rfl rfl rfl (by exact sub_)
  rw [if_neg hij] at hT
  refine go_Qd ?_
  refine sd_drawn (fun W => AllP W []) (fun _ => true) (by kernel_rfl) 16 rfl ?_
  refine sd_yes2 0 rfl (by exact gd_) (by kernel_rfl) (by kernel_rfl) (by exact nop_) (PuI.all (by exact pv_Qd)) rfl (fun w hw => all_ hw) ?_
  refine sd_yes2 1 rfl (by exact gd_) (by kernel_rfl) (by kernel_rfl) (by exact nop_) (PuI.all (by exact pv_Qd)) rfl (fun w hw => all_ hw) ?_
  refine sd_yes2 2 rfl (by exact gd_) (by kernel_rfl) (by kernel_rfl) (by exact nop_) (PuI.all (by exact pv_Qd)) rfl (fun w hw => all_ hw) ?_
  refine sd_yes2 3 rfl (by exact gd_) (by kernel_rfl) (by kernel_rfl) (by exact nop_) (PuI.all (by exact pv_Qd)) rfl (fun w hw => all_ hw) ?_
  refine sd_yes2 4 rfl (by exact gd_) (by kernel_rfl) (by kernel_rfl) (by exact nop_) (PuI.all (by exact pv_Qd)) rfl (fun w hw => all_ hw) ?_
  refine sd_yes2 5 rfl (by exact gd_) (by kernel_rfl) (by kernel_rfl) (by exact nop_) (PuI.all (by exact pv_Qd)) rfl (fun w hw => all_ hw) ?_
  refine sd_yes2 6 rfl (by exact gd_) (by kernel_rfl) (by kernel_rfl) (by exact nop_) (PuI.all (by exact pv_Qd)) rfl (fun w hw => all_ hw) ?_
  refine sd_yes2 8 rfl (by exact gd_) (by kernel_rfl) (by kernel_rfl) (by exact nop_) (PuI.all (by exact pv_Qd)) rfl (fun w hw => all_ hw) ?_
  refine sd_yes2 9 rfl (by exact gd_) (by kernel_rfl) (by kernel_rfl) (by exact nop_) (PuI.all (by exact pv_Qd)) rfl (fun w hw => all_ hw) ?_
  refine sd_yes2 10 rfl (by exact gd_) (by kernel_rfl) (by kernel_rfl) (by exact nop_) (PuI.all (by exact pv_Qd)) rfl (fun w hw => all_ hw) ?_
  refine sd_batch (fun i => [7, 11].contains i) ?_
  refine sx_yes 7 rfl (by exact gd_) (by kernel_rfl) (by kernel_rfl) (by exact nop_) (PuI.sep (by exact pv_Qd)) rfl (fun _ h => h) ?_
  refine sx_yes 11 rfl (by exact gd_) (by kernel_rfl) (by kernel_rfl) (by exact nop_) (PuI.sep (by exact pv_Qd)) rfl (fun _ h => h) ?_
  refine sx_rest (by kernel_rfl) ?_
  refine sd_one 12 (by kernel_rfl) (sa_sl 12 rfl ?_)
  repeat refine su_Qd ?_
  refine sl_nil ?_
  refine se_sd (fun _ _ _ => trivial) ?_
  refine sd_one 13 (by kernel_rfl) (sa_sl 13 rfl ?_)
  refine sl_sto2 (i := i1) rfl (at1k (by omega)) (by exact pick_) rfl rfl rfl (by omega) ?_
  refine sl_nil ?_
  refine se_sd (fun _ _ _ => trivial) ?_
  refine sd_one 14 (by kernel_rfl) (sa_sl 14 rfl ?_)
  repeat refine su_Qd ?_
  refine sl_nil ?_
  refine se_sd (fun _ _ _ => trivial) ?_
  refine sd_one 15 (by kernel_rfl) (sa_sl 15 rfl ?_)
  refine sl_swp (i := i1) (j := j1) rfl (at1k (by omega)) (by exact pick_) rfl (get_k (by omega)) (get_k (by omega)) rfl (by omega) ?_
  refine sl_nil ?_
  refine se_sd (fun _ _ _ => trivial) ?_
  refine sd_done (by kernel_rfl) ?_
  have hds2 := swp_sz hds i1 j1
  generalize swp d1 i1 j1 = d2 at hds2 hT ⊢
  refine go_Qd ?_
  rw [show ((i1 : Int) + 1) = ((i1 + 1 : Nat) : Int) by omega, show ((j1 : Int) - 1) = ((j1 - 1 : Nat) : Int) by omega]
  refine sc_bjoin (α := Nat × Array Int) (fun q => [(0, .slice (some ⟨g, 0, none⟩) n c), (1, .int .i64 a), (11, .int .i64 q.1)]) (fun q => uo g n c q.2 :: K) (fun q => q.2.size = n ∧ q.1 < n ∧ (q.1, false, swp q.2 q.1 a) = T) ?_ ?_
  · refine sc_for (α := Nat × Nat × Array Int) (fun q => [(0, .slice (some ⟨g, 0, none⟩) n c), (1, .int .i64 a), (10, .int .i64 (q.1 : Nat)), (11, .int .i64 (q.2.1 : Nat))]) (fun q => uo g n c q.2.2 :: K) (fun q => q.2.2.size = n ∧ a + 1 ≤ q.1 ∧ q.2.1 < n ∧ ((partLoop ltInt a q.1 q.2.1 q.2.2).1, false, swp (partLoop ltInt a q.1 q.2.1 q.2.2).2 (partLoop ltInt a q.1 q.2.1 q.2.2).1 a) = T) (fun q => q.2.1 + 1 - q.1) (i1 + 1, j1 - 1, d2) (by exact has_) (by exact sub_) ⟨hds2, by dsimp only; omega, by dsimp only; omega, hT⟩ ?_
    rintro ⟨i2, j2, e⟩ ⟨hes, hi2, hj2, heT⟩
    dsimp only at hes hi2 hj2 heT ⊢
    rw [partLoop_eq] at heT
    refine go_Qd ?_
    refine sc_bjoin (α := Nat) (fun i => [(0, .slice (some ⟨g, 0, none⟩) n c), (1, .int .i64 a), (10, .int .i64 (i : Nat)), (11, .int .i64 (j2 : Nat))]) (fun _ => uo g n c e :: K) (fun i => i = scanUp (fun x => ltInt x e[a]!) e j2 i2) ?_ ?_
    · refine sc_for (α := Nat) (fun i => [(0, .slice (some ⟨g, 0, none⟩) n c), (1, .int .i64 a), (10, .int .i64 (i : Nat)), (11, .int .i64 (j2 : Nat))]) (fun _ => uo g n c e :: K) (fun i => i2 ≤ i ∧ scanUp (fun x => ltInt x e[a]!) e j2 i = scanUp (fun x => ltInt x e[a]!) e j2 i2) (fun i => j2 + 1 - i) (i2) (by exact has_) (by exact sub_) ⟨Nat.le_refl _, rfl⟩ ?_
      rintro i ⟨hi, hS⟩
      by_cases h1 : i ≤ j2
      case neg =>
        refine go_Qd ?_
        refine sq_region (by kernel_rfl) (by kernel_rfl) ?_
        repeat refine rq_Qd ?_
        refine sq_end ?_
        refine go_Qd ?_
        exact se_mid i (by exact has_) (by exact sub_) (by rw [← hS, scanUp_out h1])
      cases hl : ltInt e[i]! e[a]! with
      | false =>
        refine go_Qd ?_
        refine sq_region (by kernel_rfl) (by kernel_rfl) ?_
        repeat refine rq_Qd ?_
        refine WQ_call rfl rfl (by kernel_rfl) rfl (less_ok (lt_k (by omega) (by omega) hl)) ?_
        repeat refine rq_Qd ?_
        refine sq_end ?_
        refine go_Qd ?_
        exact se_mid i (by exact has_) (by exact sub_) (by rw [← hS, scanUp_stop (by simp [hl])])
      | true =>
        refine go_Qd ?_
        refine sq_region (by kernel_rfl) (by kernel_rfl) ?_
        repeat refine rq_Qd ?_
        refine WQ_call rfl rfl (by kernel_rfl) rfl (less_ok (lt_k (by omega) (by omega) hl)) ?_
        repeat refine rq_Qd ?_
        refine sq_end ?_
        refine go_Qd ?_
        exact se_round (i + 1) (by exact has_) (by exact sub_) ⟨by omega, by rw [← hS]; exact (scanUp_go h1 (by simp [hl])).symm⟩ (by omega)
    rintro i3 hi3
    have hi3' := scanUp_ge (fun x => ltInt x e[a]!) e j2 i2
    rw [← hi3] at heT hi3'
    clear hi3
    refine go_Qd ?_
    refine sc_bjoin (α := Nat) (fun i => [(0, .slice (some ⟨g, 0, none⟩) n c), (1, .int .i64 a), (10, .int .i64 (i3 : Nat)), (11, .int .i64 (i : Nat))]) (fun _ => uo g n c e :: K) (fun i => i = scanDown (fun x => !ltInt x e[a]!) e i3 j2) ?_ ?_
    · refine sc_for (α := Nat) (fun i => [(0, .slice (some ⟨g, 0, none⟩) n c), (1, .int .i64 a), (10, .int .i64 (i3 : Nat)), (11, .int .i64 (i : Nat))]) (fun _ => uo g n c e :: K) (fun i => i ≤ j2 ∧ scanDown (fun x => !ltInt x e[a]!) e i3 i = scanDown (fun x => !ltInt x e[a]!) e i3 j2) (fun i => i) (j2) (by exact has_) (by exact sub_) ⟨Nat.le_refl _, rfl⟩ ?_
      rintro i ⟨hi, hS⟩
      by_cases h1 : i3 ≤ i
      case neg =>
        refine go_Qd ?_
        refine sq_region (by kernel_rfl) (by kernel_rfl) ?_
        repeat refine rq_Qd ?_
        refine sq_end ?_
        refine go_Qd ?_
        exact se_mid i (by exact has_) (by exact sub_) (by rw [← hS, scanDown_out h1])
      obtain ⟨i, rfl⟩ : ∃ k, i = k + 1 := ⟨i - 1, by omega⟩
      cases hl : ltInt e[i + 1]! e[a]! with
      | true =>
        refine go_Qd ?_
        refine sq_region (by kernel_rfl) (by kernel_rfl) ?_
        repeat refine rq_Qd ?_
        refine WQ_call rfl rfl (by kernel_rfl) rfl (less_ok (lt_k (by omega) (by omega) hl)) ?_
        repeat refine rq_Qd ?_
        refine sq_end ?_
        refine go_Qd ?_
        exact se_mid (i + 1) (by exact has_) (by exact sub_) (by rw [← hS, scanDown_stop (by simp [hl])])
      | false =>
        refine go_Qd ?_
        refine sq_region (by kernel_rfl) (by kernel_rfl) ?_
        repeat refine rq_Qd ?_
        refine WQ_call rfl rfl (by kernel_rfl) rfl (less_ok (lt_k (by omega) (by omega) hl)) ?_
        repeat refine rq_Qd ?_
        refine sq_end ?_
        refine go_Qd ?_
        rw [show (((i + 1 : Nat) : Int) - 1) = (i : Int) by omega]
        exact se_round i (by exact has_) (by exact sub_) ⟨by omega, by rw [← hS]; exact (scanDown_go h1 (by simp [hl])).symm⟩ (by omega)
    rintro j3 hj3
    have hj3' := scanDown_le (fun x => !ltInt x e[a]!) e i3 j2
    rw [← hj3] at heT hj3'
    clear hj3
    by_cases hij2 : i3 > j3
    · rw [if_pos hij2] at heT
      refine go_Qd ?_
      exact se_mid (j3, e) (by exact has_) (by exact sub_) ⟨hes, by dsimp only; omega, heT⟩
    rw [if_neg hij2] at heT
    refine go_Qd ?_
    refine sd_drawn (fun W => AllP W []) (fun _ => true) (by kernel_rfl) 16 rfl ?_
    refine sd_yes2 0 rfl (by exact gd_) (by kernel_rfl) (by kernel_rfl) (by exact nop_) (PuI.all (by exact pv_Qd)) rfl (fun w hw => all_ hw) ?_
    refine sd_yes2 1 rfl (by exact gd_) (by kernel_rfl) (by kernel_rfl) (by exact nop_) (PuI.all (by exact pv_Qd)) rfl (fun w hw => all_ hw) ?_
    refine sd_yes2 2 rfl (by exact gd_) (by kernel_rfl) (by kernel_rfl) (by exact nop_) (PuI.all (by exact pv_Qd)) rfl (fun w hw => all_ hw) ?_
    refine sd_yes2 3 rfl (by exact gd_) (by kernel_rfl) (by kernel_rfl) (by exact nop_) (PuI.all (by exact pv_Qd)) rfl (fun w hw => all_ hw) ?_
    refine sd_yes2 4 rfl (by exact gd_) (by kernel_rfl) (by kernel_rfl) (by exact nop_) (PuI.all (by exact pv_Qd)) rfl (fun w hw => all_ hw) ?_
    refine sd_yes2 5 rfl (by exact gd_) (by kernel_rfl) (by kernel_rfl) (by exact nop_) (PuI.all (by exact pv_Qd)) rfl (fun w hw => all_ hw) ?_
    refine sd_yes2 6 rfl (by exact gd_) (by kernel_rfl) (by kernel_rfl) (by exact nop_) (PuI.all (by exact pv_Qd)) rfl (fun w hw => all_ hw) ?_
    refine sd_yes2 8 rfl (by exact gd_) (by kernel_rfl) (by kernel_rfl) (by exact nop_) (PuI.all (by exact pv_Qd)) rfl (fun w hw => all_ hw) ?_
    refine sd_yes2 9 rfl (by exact gd_) (by kernel_rfl) (by kernel_rfl) (by exact nop_) (PuI.all (by exact pv_Qd)) rfl (fun w hw => all_ hw) ?_
    refine sd_yes2 10 rfl (by exact gd_) (by kernel_rfl) (by kernel_rfl) (by exact nop_) (PuI.all (by exact pv_Qd)) rfl (fun w hw => all_ hw) ?_
    refine sd_batch (fun i => [7, 11].contains i) ?_
    refine sx_yes 7 rfl (by exact gd_) (by kernel_rfl) (by kernel_rfl) (by exact nop_) (PuI.sep (by exact pv_Qd)) rfl (fun _ h => h) ?_
    refine sx_yes 11 rfl (by exact gd_) (by kernel_rfl) (by kernel_rfl) (by exact nop_) (PuI.sep (by exact pv_Qd)) rfl (fun _ h => h) ?_
    refine sx_rest (by kernel_rfl) ?_
    refine sd_one 12 (by kernel_rfl) (sa_sl 12 rfl ?_)
    repeat refine su_Qd ?_
    refine sl_nil ?_
    refine se_sd (fun _ _ _ => trivial) ?_
    refine sd_one 13 (by kernel_rfl) (sa_sl 13 rfl ?_)
    refine sl_sto2 (i := i3) rfl (at1k (by omega)) (by exact pick_) rfl rfl rfl (by omega) ?_
    refine sl_nil ?_
    refine se_sd (fun _ _ _ => trivial) ?_
    refine sd_one 14 (by kernel_rfl) (sa_sl 14 rfl ?_)
    repeat refine su_Qd ?_
    refine sl_nil ?_
    refine se_sd (fun _ _ _ => trivial) ?_
    refine sd_one 15 (by kernel_rfl) (sa_sl 15 rfl ?_)
    refine sl_swp (i := i3) (j := j3) rfl (at1k (by omega)) (by exact pick_) rfl (get_k (by omega)) (get_k (by omega)) rfl (by omega) ?_
    refine sl_nil ?_
    refine se_sd (fun _ _ _ => trivial) ?_
    refine sd_done (by kernel_rfl) ?_
    refine go_Qd ?_
    rw [show ((i3 : Int) + 1) = ((i3 + 1 : Nat) : Int) by omega, show ((j3 : Int) - 1) = ((j3 - 1 : Nat) : Int) by omega]
    exact se_round (i3 + 1, j3 - 1, swp e i3 j3) (by exact has_) (by exact sub_) ⟨swp_sz hes _ _, by dsimp only; omega, by dsimp only; omega, heT⟩ (by dsimp only; omega)
  rintro ⟨j4, e4⟩ ⟨hes4, hj4, heT4⟩
  subst heT4
  dsimp only at hes4 hj4 ⊢
  refine go_Qd ?_
  refine sd_drawn (fun W => AllP W []) (fun _ => true) (by kernel_rfl) 16 rfl ?_
  refine sd_yes2 0 rfl (by exact gd_) (by kernel_rfl) (by kernel_rfl) (by exact nop_) (PuI.all (by exact pv_Qd)) rfl (fun w hw => all_ hw) ?_
  refine sd_yes2 1 rfl (by exact gd_) (by kernel_rfl) (by kernel_rfl) (by exact nop_) (PuI.all (by exact pv_Qd)) rfl (fun w hw => all_ hw) ?_
  refine sd_yes2 2 rfl (by exact gd_) (by kernel_rfl) (by kernel_rfl) (by exact nop_) (PuI.all (by exact pv_Qd)) rfl (fun w hw => all_ hw) ?_
  refine sd_yes2 3 rfl (by exact gd_) (by kernel_rfl) (by kernel_rfl) (by exact nop_) (PuI.all (by exact pv_Qd)) rfl (fun w hw => all_ hw) ?_
  refine sd_yes2 4 rfl (by exact gd_) (by kernel_rfl) (by kernel_rfl) (by exact nop_) (PuI.all (by exact pv_Qd)) rfl (fun w hw => all_ hw) ?_
  refine sd_yes2 5 rfl (by exact gd_) (by kernel_rfl) (by kernel_rfl) (by exact nop_) (PuI.all (by exact pv_Qd)) rfl (fun w hw => all_ hw) ?_
  refine sd_yes2 6 rfl (by exact gd_) (by kernel_rfl) (by kernel_rfl) (by exact nop_) (PuI.all (by exact pv_Qd)) rfl (fun w hw => all_ hw) ?_
  refine sd_yes2 8 rfl (by exact gd_) (by kernel_rfl) (by kernel_rfl) (by exact nop_) (PuI.all (by exact pv_Qd)) rfl (fun w hw => all_ hw) ?_
  refine sd_yes2 9 rfl (by exact gd_) (by kernel_rfl) (by kernel_rfl) (by exact nop_) (PuI.all (by exact pv_Qd)) rfl (fun w hw => all_ hw) ?_
  refine sd_yes2 10 rfl (by exact gd_) (by kernel_rfl) (by kernel_rfl) (by exact nop_) (PuI.all (by exact pv_Qd)) rfl (fun w hw => all_ hw) ?_
  refine sd_batch (fun i => [7, 11].contains i) ?_
  refine sx_yes 7 rfl (by exact gd_) (by kernel_rfl) (by kernel_rfl) (by exact nop_) (PuI.sep (by exact pv_Qd)) rfl (fun _ h => h) ?_
  refine sx_yes 11 rfl (by exact gd_) (by kernel_rfl) (by kernel_rfl) (by exact nop_) (PuI.sep (by exact pv_Qd)) rfl (fun _ h => h) ?_
  refine sx_rest (by kernel_rfl) ?_
  refine sd_one 12 (by kernel_rfl) (sa_sl 12 rfl ?_)
  repeat refine su_Qd ?_
  refine sl_nil ?_
  refine se_sd (fun _ _ _ => trivial) ?_
  refine sd_one 13 (by kernel_rfl) (sa_sl 13 rfl ?_)
  refine sl_sto2 (i := j4) rfl (at1k (by omega)) (by exact pick_) rfl rfl rfl (by omega) ?_
  refine sl_nil ?_
  refine se_sd (fun _ _ _ => trivial) ?_
  refine sd_one 14 (by kernel_rfl) (sa_sl 14 rfl ?_)
  repeat refine su_Qd ?_
  refine sl_nil ?_
  refine se_sd (fun _ _ _ => trivial) ?_
  refine sd_one 15 (by kernel_rfl) (sa_sl 15 rfl ?_)
  refine sl_swp (i := j4) (j := a) rfl (at1k (by omega)) (by exact pick_) rfl (get_k (by omega)) (get_k (by omega)) rfl (by omega) ?_
  refine sl_nil ?_
  refine se_sd (fun _ _ _ => trivial) ?_
  refine sd_done (by kernel_rfl) ?_
  refine go_Qd ?_
  exact se_ret2 () trivial rfl rfl rfl rfl (by exact sub_)
end Go.Proofs.Ytdmeofobljjpfaa
/- slices.Sort at uint64: partitionEqual; is it sorted. (Written by wip/tools/mkqs.py.) -/
namespace Go.Proofs.Ytdmeofobljjpfaa
open Go.RowKit Go.Sort
attribute [local irreducible] Go.Calls Go.Exit.then Go.Exit.inBlock Go.bodyPost Go.Code.wp Go.wpList
theorem nth_Qe {φ : Prop} (h : φ := by (first | rfl | first | exact un_nth1 (by omega) | exact un_nth0 (by omega))) : φ := h
theorem mid_Qe {φ : Prop} (h : φ := by (first | exact Mid.all | exact Mid.all | exact Mid.head)) : φ := h
theorem sz_Qe {φ : Prop} (h : φ := by (first | rfl | (rfl; first | done | fail))) : φ := h
theorem one_Qe {φ : Prop} (h : φ := by (first | assumption | exact one_bytes _ | (simp only [List.mem_cons, List.not_mem_nil, or_false, forall_eq_or_imp, forall_eq]; decide) | exact one_bytes _ | (intro v hv; (repeat (rcases List.mem_cons.1 hv with rfl | hv; rfl)); cases hv))) : φ := h
theorem set_Qe {φ : Prop} (h : φ := by (first | (fail) | ((repeat (first | exact SetAt.here | apply SetAt.there)); first | done | fail))) : φ := h
theorem cl_Qe {φ : Prop} (h : φ := by first | rfl | exact .t | exact .f | exact .t (by omega) | exact .f (by omega) | exact .u | exact .i (by (first | exact .t (by omega) | exact .f (by omega) | exact .u | exact .i (by omega) | exact .v (by omega) | exact .b (by omega) | exact .w | rfl | omega)) | exact .v (by omega) | exact .b (by omega) | exact .q (by omega) | exact .w | exact .b (by exact at_) rfl (by exact nth_Qe) | exact .w (by exact at_) rfl rfl (by exact sz_Qe) | exact .s (by exact at_) (by exact mid_Qe) rfl rfl (by exact sz_Qe) | exact .z rfl rfl ⟨by kernel_rfl⟩ | exact .b rfl rfl ⟨by kernel_rfl⟩ | exact .a rfl rfl ⟨by kernel_rfl⟩ | exact .o rfl | exact .s | exact .n | exact .p rfl | exact .q rfl | exact .c rfl | exact .d rfl | exact .n rfl rfl (by omega) | exact .a rfl rfl (by omega) | exact .p rfl rfl (by omega) (by omega) | exact .y rfl rfl (by omega) (by omega) | exact .o (by exact at_) (by omega) rfl (by exact nth_Qe) | exact .m (by exact at_) (by omega) (by exact mid_Qe) rfl rfl (by exact sz_Qe) | exact .mlen (by exact at_) rfl | exact .t (by exact at_) rfl rfl (by first | exact True.intro | rfl) (by assumption) | exact .f (by exact at_) rfl rfl (by first | exact True.intro | rfl) (by assumption) rfl | exact .t1 (by exact at_) rfl rfl (by first | exact True.intro | rfl) (by assumption) | exact .f1 (by exact at_) rfl rfl (by first | exact True.intro | rfl) (by assumption) rfl | exact .r rfl rfl (by omega) (by omega) (by exact nth_Qe) rfl | exact .s rfl (by omega) (by assumption) | exact at_ | assumption | exact .r rfl rfl | exact .h rfl rfl rfl (by omega) | exact .l rfl rfl rfl (by omega) (by omega) | exact .g rfl rfl rfl rfl (by omega) (by omega) | exact .h rfl rfl (toN_ (by omega)) (by omega) | exact .l rfl rfl (toN_ (by omega)) (by omega) (by omega) | exact .g rfl rfl (toN_ (by omega)) (toN_ (by omega)) (by omega) (by omega) | exact .o (by decide) | exact .f (by decide) | exact .n (by omega) (by first | decide | (show _ ≤ ((64 : Nat) : Int); omega)) | (constructor; (repeat (first | exact .t (by omega) | exact .f (by omega) | exact .u | exact .i (by omega) | exact .v (by omega) | exact .b (by omega) | exact .w | rfl | omega)); first | done | fail) | omega | (show _ ≤ ((64 : Nat) : Int); omega)) : φ := h
theorem pv_Qe {φ : Prop} (h : φ := by constructor; (repeat exact cl_Qe); first | done | fail) : φ := h
theorem su_Qe {φ ψ : Prop} (k : ψ) (h : Hide ψ → φ := by (intro k; (first | refine sl_pu (PuI.sep (by exact pv_Qe)) rfl ?_ | refine sl_yes rfl rfl ?_ | refine sl_no rfl rfl rfl ?_ | refine sl_off rfl rfl rfl ?_ | (fail)); exact k.out)) : φ := h ⟨k⟩
theorem rq_Qe {φ ψ : Prop} (k : ψ) (h : Hide ψ → φ := by (intro k; (first | refine wq_pu (PuI.sep (by exact pv_Qe)) rfl ?_ | refine wq_yes rfl rfl ?_ | refine wq_no rfl rfl rfl ?_ | refine wq_off rfl rfl rfl ?_ | (fail)); exact k.out)) : φ := h ⟨k⟩
theorem sto_Qe {φ ψ : Prop} (k : ψ) (h : Hide ψ → φ := by (intro k; (first | refine sl_store rfl (by exact pick_) rfl rfl (by kernel_rfl) (by exact set_Qe) ?_ | refine sl_store_whole rfl (by exact pick_) rfl (by exact sz_Qe) (by exact sz_Qe) (by exact one_Qe) ?_); exact k.out)) : φ := h ⟨k⟩
theorem go_Qe {φ ψ : Prop} (k : ψ) (h : Hide ψ → φ := by (intro k; (repeat (first | refine su_Qe ?_ | refine so_ ?_ | refine sto_Qe ?_)); exact k.out)) : φ := h ⟨k⟩
set_option maxRecDepth 100000 in
set_option maxHeartbeats 8000000 in
theorem parteq_ok {K : List Fa} {g n c : Nat} {d : Array Int} {a b p : Nat} (hd : d.size = n) (hab : a < b) (hb : b ≤ n) (hp : a ≤ p ∧ p < b) (hn : n ≤ 1000000) :
    Fn Try.prog 52 #[.slice (some ⟨g, 0, none⟩) n c, .int .i64 (a : Nat), .int .i64 (b : Nat), .int .i64 (p : Nat)] (uo g n c d :: K) (Ret (fun _ : Unit => True) (fun _ => .int .i64 ((partitionEqual ltInt d a b p).1 : Nat)) (fun _ => uo g n c (partitionEqual ltInt d a b p).2 :: K)) := by
  refine fn_enter Try.func52 rfl _ Try.ntmps52 (by simp) [(0, .slice (some ⟨g, 0, none⟩) n c), (1, .int .i64 (a : Nat)), (2, .int .i64 (b : Nat)), (3, .int .i64 (p : Nat))] (args_of (by simp)) ?_
  generalize hT : partitionEqual ltInt d a b p = T
  unfold partitionEqual at hT
  refine go_Qe ?_
  refine sd_drawn (fun W => AllP W []) (fun _ => true) (by kernel_rfl) 16 rfl ?_
  refine sd_yes2 0 rfl (by exact gd_) (by kernel_rfl) (by kernel_rfl) (by exact nop_) (PuI.all (by exact pv_Qe)) rfl (fun w hw => all_ hw) ?_
  refine sd_yes2 1 rfl (by exact gd_) (by kernel_rfl) (by kernel_rfl) (by exact nop_) (PuI.all (by exact pv_Qe)) rfl (fun w hw => all_ hw) ?_
  refine sd_yes2 2 rfl (by exact gd_) (by kernel_rfl) (by kernel_rfl) (by exact nop_) (PuI.all (by exact pv_Qe)) rfl (fun w hw => all_ hw) ?_
  refine sd_yes2 3 rfl (by exact gd_) (by kernel_rfl) (by kernel_rfl) (by exact nop_) (PuI.all (by exact pv_Qe)) rfl (fun w hw => all_ hw) ?_
  refine sd_yes2 4 rfl (by exact gd_) (by kernel_rfl) (by kernel_rfl) (by exact nop_) (PuI.all (by exact pv_Qe)) rfl (fun w hw => all_ hw) ?_
  refine sd_yes2 5 rfl (by exact gd_) (by kernel_rfl) (by kernel_rfl) (by exact nop_) (PuI.all (by exact pv_Qe)) rfl (fun w hw => all_ hw) ?_
  refine sd_yes2 6 rfl (by exact gd_) (by kernel_rfl) (by kernel_rfl) (by exact nop_) (PuI.all (by exact pv_Qe)) rfl (fun w hw => all_ hw) ?_
  refine sd_yes2 8 rfl (by exact gd_) (by kernel_rfl) (by kernel_rfl) (by exact nop_) (PuI.all (by exact pv_Qe)) rfl (fun w hw => all_ hw) ?_
  refine sd_yes2 9 rfl (by exact gd_) (by kernel_rfl) (by kernel_rfl) (by exact nop_) (PuI.all (by exact pv_Qe)) rfl (fun w hw => all_ hw) ?_
  refine sd_yes2 10 rfl (by exact gd_) (by kernel_rfl) (by kernel_rfl) (by exact nop_) (PuI.all (by exact pv_Qe)) rfl (fun w hw => all_ hw) ?_
  refine sd_batch (fun i => [7, 11].contains i) ?_
  refine sx_yes 7 rfl (by exact gd_) (by kernel_rfl) (by kernel_rfl) (by exact nop_) (PuI.sep (by exact pv_Qe)) rfl (fun _ h => h) ?_
  refine sx_yes 11 rfl (by exact gd_) (by kernel_rfl) (by kernel_rfl) (by exact nop_) (PuI.sep (by exact pv_Qe)) rfl (fun _ h => h) ?_
  refine sx_rest (by kernel_rfl) ?_
  refine sd_one 12 (by kernel_rfl) (sa_sl 12 rfl ?_)
  repeat refine su_Qe ?_
  refine sl_nil ?_
  refine se_sd (fun _ _ _ => trivial) ?_
  refine sd_one 13 (by kernel_rfl) (sa_sl 13 rfl ?_)
  refine sl_sto2 (i := a) rfl (at1k (by omega)) (by exact pick_) rfl rfl rfl (by omega) ?_
  refine sl_nil ?_
  refine se_sd (fun _ _ _ => trivial) ?_
  refine sd_one 14 (by kernel_rfl) (sa_sl 14 rfl ?_)
  repeat refine su_Qe ?_
  refine sl_nil ?_
  refine se_sd (fun _ _ _ => trivial) ?_
  refine sd_one 15 (by kernel_rfl) (sa_sl 15 rfl ?_)
  refine sl_swp (i := a) (j := p) rfl (at1k (by omega)) (by exact pick_) rfl (get_k (by omega)) (get_k (by omega)) rfl (by omega) ?_
  refine sl_nil ?_
  refine se_sd (fun _ _ _ => trivial) ?_
  refine sd_done (by kernel_rfl) ?_
  have hds := swp_sz hd a p
  generalize swp d a p = d1 at hds hT ⊢
  refine go_Qe ?_
  rw [show ((a : Int) + 1) = ((a + 1 : Nat) : Int) by omega, show ((b : Int) - 1) = ((b - 1 : Nat) : Int) by omega]
  refine sc_bjoin (α := Nat × Array Int) (fun q => [(9, .int .i64 q.1)]) (fun q => uo g n c q.2 :: K) (fun q => (q.1, q.2) = T) ?_ ?_
  · refine sc_for (α := Nat × Nat × Array Int) (fun q => [(0, .slice (some ⟨g, 0, none⟩) n c), (1, .int .i64 a), (9, .int .i64 (q.1 : Nat)), (10, .int .i64 (q.2.1 : Nat))]) (fun q => uo g n c q.2.2 :: K) (fun q => q.2.2.size = n ∧ a + 1 ≤ q.1 ∧ q.2.1 < n ∧ partEqLoop ltInt a q.1 q.2.1 q.2.2 = T) (fun q => q.2.1 + 1 - q.1) (a + 1, b - 1, d1) (by exact has_) (by exact sub_) ⟨hds, by dsimp only; omega, by dsimp only; omega, hT⟩ ?_
    rintro ⟨i2, j2, e⟩ ⟨hes, hi2, hj2, heT⟩
    dsimp only at hes hi2 hj2 heT ⊢
    rw [partEqLoop_eq] at heT
    refine go_Qe ?_
    refine sc_bjoin (α := Nat) (fun i => [(0, .slice (some ⟨g, 0, none⟩) n c), (1, .int .i64 a), (9, .int .i64 (i : Nat)), (10, .int .i64 (j2 : Nat))]) (fun _ => uo g n c e :: K) (fun i => i = scanUp (fun x => !ltInt e[a]! x) e j2 i2) ?_ ?_
    · refine sc_for (α := Nat) (fun i => [(0, .slice (some ⟨g, 0, none⟩) n c), (1, .int .i64 a), (9, .int .i64 (i : Nat)), (10, .int .i64 (j2 : Nat))]) (fun _ => uo g n c e :: K) (fun i => i2 ≤ i ∧ scanUp (fun x => !ltInt e[a]! x) e j2 i = scanUp (fun x => !ltInt e[a]! x) e j2 i2) (fun i => j2 + 1 - i) (i2) (by exact has_) (by exact sub_) ⟨Nat.le_refl _, rfl⟩ ?_
      rintro i ⟨hi, hS⟩
      by_cases h1 : i ≤ j2
      case neg =>
        refine go_Qe ?_
        refine sq_region (by kernel_rfl) (by kernel_rfl) ?_
        repeat refine rq_Qe ?_
        refine sq_end ?_
        refine go_Qe ?_
        exact se_mid i (by exact has_) (by exact sub_) (by rw [← hS, scanUp_out h1])
      cases hl : ltInt e[a]! e[i]! with
      | true =>
        refine go_Qe ?_
        refine sq_region (by kernel_rfl) (by kernel_rfl) ?_
        repeat refine rq_Qe ?_
        refine WQ_call rfl rfl (by kernel_rfl) rfl (less_ok (lt_k (by omega) (by omega) hl)) ?_
        repeat refine rq_Qe ?_
        refine sq_end ?_
        refine go_Qe ?_
        exact se_mid i (by exact has_) (by exact sub_) (by rw [← hS, scanUp_stop (by simp [hl])])
      | false =>
        refine go_Qe ?_
        refine sq_region (by kernel_rfl) (by kernel_rfl) ?_
        repeat refine rq_Qe ?_
        refine WQ_call rfl rfl (by kernel_rfl) rfl (less_ok (lt_k (by omega) (by omega) hl)) ?_
        repeat refine rq_Qe ?_
        refine sq_end ?_
        refine go_Qe ?_
        exact se_round (i + 1) (by exact has_) (by exact sub_) ⟨by omega, by rw [← hS]; exact (scanUp_go h1 (by simp [hl])).symm⟩ (by omega)
    rintro i3 hi3
    have hi3' := scanUp_ge (fun x => !ltInt e[a]! x) e j2 i2
    rw [← hi3] at heT hi3'
    clear hi3
    refine go_Qe ?_
    refine sc_bjoin (α := Nat) (fun i => [(0, .slice (some ⟨g, 0, none⟩) n c), (1, .int .i64 a), (9, .int .i64 (i3 : Nat)), (10, .int .i64 (i : Nat))]) (fun _ => uo g n c e :: K) (fun i => i = scanDown (fun x => ltInt e[a]! x) e i3 j2) ?_ ?_
    · refine sc_for (α := Nat) (fun i => [(0, .slice (some ⟨g, 0, none⟩) n c), (1, .int .i64 a), (9, .int .i64 (i3 : Nat)), (10, .int .i64 (i : Nat))]) (fun _ => uo g n c e :: K) (fun i => i ≤ j2 ∧ scanDown (fun x => ltInt e[a]! x) e i3 i = scanDown (fun x => ltInt e[a]! x) e i3 j2) (fun i => i) (j2) (by exact has_) (by exact sub_) ⟨Nat.le_refl _, rfl⟩ ?_
      rintro i ⟨hi, hS⟩
      by_cases h1 : i3 ≤ i
      case neg =>
        refine go_Qe ?_
        refine sq_region (by kernel_rfl) (by kernel_rfl) ?_
        repeat refine rq_Qe ?_
        refine sq_end ?_
        refine go_Qe ?_
        exact se_mid i (by exact has_) (by exact sub_) (by rw [← hS, scanDown_out h1])
      obtain ⟨i, rfl⟩ : ∃ k, i = k + 1 := ⟨i - 1, by omega⟩
      cases hl : ltInt e[a]! e[i + 1]! with
      | false =>
        refine go_Qe ?_
        refine sq_region (by kernel_rfl) (by kernel_rfl) ?_
        repeat refine rq_Qe ?_
        refine WQ_call rfl rfl (by kernel_rfl) rfl (less_ok (lt_k (by omega) (by omega) hl)) ?_
        repeat refine rq_Qe ?_
        refine sq_end ?_
        refine go_Qe ?_
        exact se_mid (i + 1) (by exact has_) (by exact sub_) (by rw [← hS, scanDown_stop (by simp [hl])])
      | true =>
        refine go_Qe ?_
        refine sq_region (by kernel_rfl) (by kernel_rfl) ?_
        repeat refine rq_Qe ?_
        refine WQ_call rfl rfl (by kernel_rfl) rfl (less_ok (lt_k (by omega) (by omega) hl)) ?_
        repeat refine rq_Qe ?_
        refine sq_end ?_
        refine go_Qe ?_
        rw [show (((i + 1 : Nat) : Int) - 1) = (i : Int) by omega]
        exact se_round i (by exact has_) (by exact sub_) ⟨by omega, by rw [← hS]; exact (scanDown_go h1 (by simp [hl])).symm⟩ (by omega)
    rintro j3 hj3
    have hj3' := scanDown_le (fun x => ltInt e[a]! x) e i3 j2
    rw [← hj3] at heT hj3'
    clear hj3
    by_cases hij2 : i3 > j3
    · rw [if_pos hij2] at heT
      refine go_Qe ?_
      exact se_mid (i3, e) (by exact has_) (by exact sub_) heT
    rw [if_neg hij2] at heT
    refine go_Qe ?_
    refine sd_drawn (fun W => AllP W []) (fun _ => true) (by kernel_rfl) 16 rfl ?_
    refine sd_yes2 0 rfl (by exact gd_) (by kernel_rfl) (by kernel_rfl) (by exact nop_) (PuI.all (by exact pv_Qe)) rfl (fun w hw => all_ hw) ?_
    refine sd_yes2 1 rfl (by exact gd_) (by kernel_rfl) (by kernel_rfl) (by exact nop_) (PuI.all (by exact pv_Qe)) rfl (fun w hw => all_ hw) ?_
    refine sd_yes2 2 rfl (by exact gd_) (by kernel_rfl) (by kernel_rfl) (by exact nop_) (PuI.all (by exact pv_Qe)) rfl (fun w hw => all_ hw) ?_
    refine sd_yes2 3 rfl (by exact gd_) (by kernel_rfl) (by kernel_rfl) (by exact nop_) (PuI.all (by exact pv_Qe)) rfl (fun w hw => all_ hw) ?_
    refine sd_yes2 4 rfl (by exact gd_) (by kernel_rfl) (by kernel_rfl) (by exact nop_) (PuI.all (by exact pv_Qe)) rfl (fun w hw => all_ hw) ?_
    refine sd_yes2 5 rfl (by exact gd_) (by kernel_rfl) (by kernel_rfl) (by exact nop_) (PuI.all (by exact pv_Qe)) rfl (fun w hw => all_ hw) ?_
    refine sd_yes2 6 rfl (by exact gd_) (by kernel_rfl) (by kernel_rfl) (by exact nop_) (PuI.all (by exact pv_Qe)) rfl (fun w hw => all_ hw) ?_
    refine sd_yes2 8 rfl (by exact gd_) (by kernel_rfl) (by kernel_rfl) (by exact nop_) (PuI.all (by exact pv_Qe)) rfl (fun w hw => all_ hw) ?_
    refine sd_yes2 9 rfl (by exact gd_) (by kernel_rfl) (by kernel_rfl) (by exact nop_) (PuI.all (by exact pv_Qe)) rfl (fun w hw => all_ hw) ?_
    refine sd_yes2 10 rfl (by exact gd_) (by kernel_rfl) (by kernel_rfl) (by exact nop_) (PuI.all (by exact pv_Qe)) rfl (fun w hw => all_ hw) ?_
    refine sd_batch (fun i => [7, 11].contains i) ?_
    refine sx_yes 7 rfl (by exact gd_) (by kernel_rfl) (by kernel_rfl) (by exact nop_) (PuI.sep (by exact pv_Qe)) rfl (fun _ h => h) ?_
    refine sx_yes 11 rfl (by exact gd_) (by kernel_rfl) (by kernel_rfl) (by exact nop_) (PuI.sep (by exact pv_Qe)) rfl (fun _ h => h) ?_
    refine sx_rest (by kernel_rfl) ?_
    refine sd_one 12 (by kernel_rfl) (sa_sl 12 rfl ?_)
    repeat refine su_Qe ?_
    refine sl_nil ?_
    refine se_sd (fun _ _ _ => trivial) ?_
    refine sd_one 13 (by kernel_rfl) (sa_sl 13 rfl ?_)
    refine sl_sto2 (i := i3) rfl (at1k (by omega)) (by exact pick_) rfl rfl rfl (by omega) ?_
    refine sl_nil ?_
    refine se_sd (fun _ _ _ => trivial) ?_
    refine sd_one 14 (by kernel_rfl) (sa_sl 14 rfl ?_)
    repeat refine su_Qe ?_
    refine sl_nil ?_
    refine se_sd (fun _ _ _ => trivial) ?_
    refine sd_one 15 (by kernel_rfl) (sa_sl 15 rfl ?_)
    refine sl_swp (i := i3) (j := j3) rfl (at1k (by omega)) (by exact pick_) rfl (get_k (by omega)) (get_k (by omega)) rfl (by omega) ?_
    refine sl_nil ?_
    refine se_sd (fun _ _ _ => trivial) ?_
    refine sd_done (by kernel_rfl) ?_
    refine go_Qe ?_
    rw [show ((i3 : Int) + 1) = ((i3 + 1 : Nat) : Int) by omega, show ((j3 : Int) - 1) = ((j3 - 1 : Nat) : Int) by omega]
    exact se_round (i3 + 1, j3 - 1, swp e i3 j3) (by exact has_) (by exact sub_) ⟨swp_sz hes _ _, by dsimp only; omega, by dsimp only; omega, heT⟩ (by dsimp only; omega)
  rintro ⟨j4, e4⟩ heT4
  subst heT4
  dsimp only
  refine go_Qe ?_
  exact se_ret1 () trivial rfl rfl (by exact sub_)
theorem sorted_out {d : Array Int} {b i : Nat} (h : ¬ i < b) : scanSorted ltInt d b i = i := by rw [scanSorted, if_neg (by simp [h])]
theorem sorted_stop {d : Array Int} {b i : Nat} (h : ltInt d[i]! d[i - 1]! = true) : scanSorted ltInt d b i = i := by rw [scanSorted, if_neg (by simp [h])]
theorem sorted_go {d : Array Int} {b i : Nat} (h1 : i < b) (h : ltInt d[i]! d[i - 1]! = false) : scanSorted ltInt d b i = scanSorted ltInt d b (i + 1) := by rw [scanSorted, if_pos (by simp [h1, h])]
theorem partial_eq {d : Array Int} {a b : Nat} (h : b - a < 50) : partialInsertionSort ltInt d a b = (d, decide (scanSorted ltInt d b (a + 1) = b)) := by
  unfold partialInsertionSort
  rw [partialIns_succ]
  by_cases hs : scanSorted ltInt d b (a + 1) = b
  · simp [hs]
  · simp [hs, h]
set_option maxRecDepth 100000 in
set_option maxHeartbeats 8000000 in
theorem partial_ok {K : List Fa} {g n c : Nat} {d : Array Int} {a b : Nat} (hd : d.size = n) (hab : a < b) (hb : b ≤ n) (h50 : b - a < 50) (hn : n ≤ 1000000) :
    Fn Try.prog 50 #[.slice (some ⟨g, 0, none⟩) n c, .int .i64 (a : Nat), .int .i64 (b : Nat)] (uo g n c d :: K) (Ret (fun _ : Unit => True) (fun _ => .bool (decide (scanSorted ltInt d b (a + 1) = b))) (fun _ => uo g n c d :: K)) := by
  refine fn_enter Try.func50 rfl _ Try.ntmps50 (by simp) [(0, .slice (some ⟨g, 0, none⟩) n c), (1, .int .i64 (a : Nat)), (2, .int .i64 (b : Nat))] (args_of (by simp)) ?_
  refine go_Qe ?_
  rw [show ((a : Int) + 1) = ((a + 1 : Nat) : Int) by omega]
  refine sc_for (α := Unit) (fun _ => [(0, .slice (some ⟨g, 0, none⟩) n c), (1, .int .i64 a), (2, .int .i64 b), (7, .int .i64 ((a + 1 : Nat) : Int)), (8, .int .i64 0)]) (fun _ => uo g n c d :: K) (fun _ => True) (fun _ => 0) () (by exact has_) (by exact sub_) trivial ?_
  rintro _ -
  refine go_Qe ?_
  refine sc_bjoin (α := Nat) (fun i => [(0, .slice (some ⟨g, 0, none⟩) n c), (1, .int .i64 a), (2, .int .i64 b), (7, .int .i64 (i : Nat)), (8, .int .i64 0)]) (fun _ => uo g n c d :: K) (fun i => i = scanSorted ltInt d b (a + 1)) ?_ ?_
  · refine sc_for (α := Nat) (fun i => [(0, .slice (some ⟨g, 0, none⟩) n c), (1, .int .i64 a), (2, .int .i64 b), (7, .int .i64 (i : Nat)), (8, .int .i64 0)]) (fun _ => uo g n c d :: K) (fun i => a + 1 ≤ i ∧ i ≤ b ∧ scanSorted ltInt d b i = scanSorted ltInt d b (a + 1)) (fun i => b - i) (a + 1) (by exact has_) (by exact sub_) ⟨Nat.le_refl _, by omega, rfl⟩ ?_
    rintro i ⟨hi, hib, hS⟩
    by_cases h1 : i < b
    case neg =>
      refine go_Qe ?_
      refine sq_region (by kernel_rfl) (by kernel_rfl) ?_
      repeat refine rq_Qe ?_
      refine sq_end ?_
      refine go_Qe ?_
      exact se_mid i (by exact has_) (by exact sub_) (by rw [← hS, sorted_out h1])
    cases hl : ltInt d[i]! d[i - 1]! with
    | true =>
      refine go_Qe ?_
      refine sq_region (by kernel_rfl) (by kernel_rfl) ?_
      repeat refine rq_Qe ?_
      refine WQ_call rfl rfl (by kernel_rfl) rfl (less_ok (lt_k (by omega) (by omega) hl)) ?_
      repeat refine rq_Qe ?_
      refine sq_end ?_
      refine go_Qe ?_
      exact se_mid i (by exact has_) (by exact sub_) (by rw [← hS, sorted_stop hl])
    | false =>
      refine go_Qe ?_
      refine sq_region (by kernel_rfl) (by kernel_rfl) ?_
      repeat refine rq_Qe ?_
      refine WQ_call rfl rfl (by kernel_rfl) rfl (less_ok (lt_k (by omega) (by omega) hl)) ?_
      repeat refine rq_Qe ?_
      refine sq_end ?_
      refine go_Qe ?_
      exact se_round (i + 1) (by exact has_) (by exact sub_) ⟨by omega, by omega, by rw [← hS]; exact (sorted_go h1 hl).symm⟩ (by omega)
  rintro i hi
  rw [← hi]
  clear hi
  by_cases hib : i = b
  · subst hib
    rw [decide_eq_true rfl]
    refine go_Qe ?_
    exact se_ret1 () trivial rfl rfl (by exact sub_)
  · rw [decide_eq_false hib]
    refine go_Qe ?_
    exact se_ret1 () trivial rfl rfl (by exact sub_)
end Go.Proofs.Ytdmeofobljjpfaa
/- slices.Sort at uint64: patterns broken. (Written by wip/tools/mkqs.py.) -/
namespace Go.Proofs.Ytdmeofobljjpfaa
open Go.RowKit Go.Sort
attribute [local irreducible] Go.Calls Go.Exit.then Go.Exit.inBlock Go.bodyPost Go.Code.wp Go.wpList
theorem sh13 (r : UInt64) : bits .xor .u64 (r.toNat : Int) (IntKind.u64.wrap ((r.toNat : Int) * 2 ^ (13 : Int).toNat)) = (((r ^^^ (r <<< 13)).toNat : Nat) : Int) := by
  have h : IntKind.u64.wrap ((r.toNat : Int) * 2 ^ (13 : Int).toNat) = (((r <<< 13).toNat : Nat) : Int) := by
    rw [UInt64.toNat_shiftLeft, show (UInt64.toNat 13 % 64) = 13 from rfl, Nat.shiftLeft_eq, show (13 : Int).toNat = 13 from rfl]
    simp [IntKind.wrap, IntKind.bits, IntKind.signed]
  rw [h, bits_xor_u64_nat _ _ r.toNat_lt (r <<< 13).toNat_lt, UInt64.toNat_xor]
theorem sh17 (r : UInt64) : bits .xor .u64 (r.toNat : Int) (IntKind.u64.wrap ((r.toNat : Int) * 2 ^ (17 : Int).toNat)) = (((r ^^^ (r <<< 17)).toNat : Nat) : Int) := by
  have h : IntKind.u64.wrap ((r.toNat : Int) * 2 ^ (17 : Int).toNat) = (((r <<< 17).toNat : Nat) : Int) := by
    rw [UInt64.toNat_shiftLeft, show (UInt64.toNat 17 % 64) = 17 from rfl, Nat.shiftLeft_eq, show (17 : Int).toNat = 17 from rfl]
    simp [IntKind.wrap, IntKind.bits, IntKind.signed]
  rw [h, bits_xor_u64_nat _ _ r.toNat_lt (r <<< 17).toNat_lt, UInt64.toNat_xor]
theorem sh7 (r : UInt64) : bits .xor .u64 (r.toNat : Int) ((r.toNat : Int) / 2 ^ (7 : Int).toNat) = (((r ^^^ (r >>> 7)).toNat : Nat) : Int) := by
  have h : (r.toNat : Int) / (2 : Int) ^ (7 : Int).toNat = (((r >>> 7).toNat : Nat) : Int) := by
    rw [UInt64.toNat_shiftRight, show (UInt64.toNat 7 % 64) = 7 from rfl, Nat.shiftRight_eq_div_pow, show (7 : Int).toNat = 7 from rfl]
    simp
  rw [h, bits_xor_u64_nat _ _ r.toNat_lt (r >>> 7).toNat_lt, UInt64.toNat_xor]
theorem u64_and (a b : Nat) (ha : a < 18446744073709551616) (hb : b < 18446744073709551616) : bits .and .u64 (a : Int) (b : Int) = ((a &&& b : Nat) : Int) := bits_and_u64_nat a b ha hb
theorem bl_50 : ∀ h, h < 50 → Lib.bitLen h = bitsLen h ∧ bitsLen h ≤ 6 ∧ 1 <<< bitsLen h ≤ 64 ∧ 1 ≤ 1 <<< bitsLen h ∧ (1 ≤ h → 1 <<< bitsLen h ≤ 2 * h) := by decide
def brkN (d : Array Int) (a h : Nat) : Nat → UInt64 × Array Int
  | 0 => (UInt64.ofNat h, d)
  | k + 1 => breakStep a h (1 <<< bitsLen h) (brkN d a h k) (a + (h / 4) * 2 - 1 + k)
theorem brkN_size {d : Array Int} {a h n : Nat} (hd : d.size = n) : ∀ k, (brkN d a h k).2.size = n
  | 0 => hd
  | k + 1 => by
    show (swp (brkN d a h k).2 _ _).size = n
    rw [size_swp]
    exact brkN_size hd k
theorem brk_eq {d : Array Int} {a h : Nat} (h8 : 8 ≤ h) : breakPatterns d a (a + h) = (brkN d a h 3).2 := by
  unfold breakPatterns
  rw [show a + h - a = h by omega]
  dsimp only
  rw [if_pos h8]
  rfl
def oth (r : UInt64) (h : Nat) : Nat := if (xorNext r).toNat &&& (1 <<< bitsLen h - 1) ≥ h then ((xorNext r).toNat &&& (1 <<< bitsLen h - 1)) - h else (xorNext r).toNat &&& (1 <<< bitsLen h - 1)
theorem brkN_succ {d : Array Int} {a h k : Nat} : brkN d a h (k + 1) = (xorNext (brkN d a h k).1, swp (brkN d a h k).2 (a + (h / 4) * 2 - 1 + k) (a + oth (brkN d a h k).1 h)) := rfl
theorem brkN_zero {d : Array Int} {a h : Nat} : brkN d a h 0 = (UInt64.ofNat h, d) := rfl
theorem xorNext_eq (r : UInt64) : xorNext r = (((r ^^^ (r <<< 13)) ^^^ ((r ^^^ (r <<< 13)) >>> 7)) ^^^ (((r ^^^ (r <<< 13)) ^^^ ((r ^^^ (r <<< 13)) >>> 7)) <<< 17)) := rfl
attribute [local irreducible] brkN xorNext breakPatterns
theorem nth_Qf {φ : Prop} (h : φ := by (first | rfl | first | exact un_nth1 (by omega) | exact un_nth0 (by omega))) : φ := h
theorem mid_Qf {φ : Prop} (h : φ := by (first | exact Mid.all | exact Mid.all | exact Mid.head)) : φ := h
theorem sz_Qf {φ : Prop} (h : φ := by (first | rfl | (rfl; first | done | fail))) : φ := h
theorem one_Qf {φ : Prop} (h : φ := by (first | assumption | exact one_bytes _ | (simp only [List.mem_cons, List.not_mem_nil, or_false, forall_eq_or_imp, forall_eq]; decide) | exact one_bytes _ | (intro v hv; (repeat (rcases List.mem_cons.1 hv with rfl | hv; rfl)); cases hv))) : φ := h
theorem set_Qf {φ : Prop} (h : φ := by (first | (fail) | ((repeat (first | exact SetAt.here | apply SetAt.there)); first | done | fail))) : φ := h
theorem cl_Qf {φ : Prop} (h : φ := by first | rfl | exact .t | exact .f | exact .t (by omega) | exact .f (by omega) | exact .u | exact .i (by (first | exact .t (by omega) | exact .f (by omega) | exact .u | exact .i (by omega) | exact .v (by omega) | exact .b (by omega) | exact .w | rfl | omega)) | exact .v (by omega) | exact .b (by omega) | exact .q (by omega) | exact .w | exact .b (by exact at_) rfl (by exact nth_Qf) | exact .w (by exact at_) rfl rfl (by exact sz_Qf) | exact .s (by exact at_) (by exact mid_Qf) rfl rfl (by exact sz_Qf) | exact .z rfl rfl ⟨by kernel_rfl⟩ | exact .b rfl rfl ⟨by kernel_rfl⟩ | exact .a rfl rfl ⟨by kernel_rfl⟩ | exact .o rfl | exact .s | exact .n | exact .p rfl | exact .q rfl | exact .c rfl | exact .d rfl | exact .n rfl rfl (by omega) | exact .a rfl rfl (by omega) | exact .p rfl rfl (by omega) (by omega) | exact .y rfl rfl (by omega) (by omega) | exact .o (by exact at_) (by omega) rfl (by exact nth_Qf) | exact .m (by exact at_) (by omega) (by exact mid_Qf) rfl rfl (by exact sz_Qf) | exact .mlen (by exact at_) rfl | exact .t (by exact at_) rfl rfl (by first | exact True.intro | rfl) (by assumption) | exact .f (by exact at_) rfl rfl (by first | exact True.intro | rfl) (by assumption) rfl | exact .t1 (by exact at_) rfl rfl (by first | exact True.intro | rfl) (by assumption) | exact .f1 (by exact at_) rfl rfl (by first | exact True.intro | rfl) (by assumption) rfl | exact .r rfl rfl (by omega) (by omega) (by exact nth_Qf) rfl | exact .s rfl (by omega) (by assumption) | exact at_ | assumption | exact .r rfl rfl | exact .h rfl rfl rfl (by omega) | exact .l rfl rfl rfl (by omega) (by omega) | exact .g rfl rfl rfl rfl (by omega) (by omega) | exact .h rfl rfl (toN_ (by omega)) (by omega) | exact .l rfl rfl (toN_ (by omega)) (by omega) (by omega) | exact .g rfl rfl (toN_ (by omega)) (toN_ (by omega)) (by omega) (by omega) | exact .o (by decide) | exact .f (by decide) | exact .n (by omega) (by first | decide | (show _ ≤ ((64 : Nat) : Int); omega)) | (constructor; (repeat (first | exact .t (by omega) | exact .f (by omega) | exact .u | exact .i (by omega) | exact .v (by omega) | exact .b (by omega) | exact .w | rfl | omega)); first | done | fail) | omega | (show _ ≤ ((64 : Nat) : Int); omega)) : φ := h
theorem pv_Qf {φ : Prop} (h : φ := by constructor; (repeat exact cl_Qf); first | done | fail) : φ := h
theorem su_Qf {φ ψ : Prop} (k : ψ) (h : Hide ψ → φ := by (intro k; (first | refine sl_pu (PuI.sep (by exact pv_Qf)) rfl ?_ | refine sl_yes rfl rfl ?_ | refine sl_no rfl rfl rfl ?_ | refine sl_off rfl rfl rfl ?_ | (fail)); exact k.out)) : φ := h ⟨k⟩
theorem rq_Qf {φ ψ : Prop} (k : ψ) (h : Hide ψ → φ := by (intro k; (first | refine wq_pu (PuI.sep (by exact pv_Qf)) rfl ?_ | refine wq_yes rfl rfl ?_ | refine wq_no rfl rfl rfl ?_ | refine wq_off rfl rfl rfl ?_ | (fail)); exact k.out)) : φ := h ⟨k⟩
theorem sto_Qf {φ ψ : Prop} (k : ψ) (h : Hide ψ → φ := by (intro k; (first | refine sl_store rfl (by exact pick_) rfl rfl (by kernel_rfl) (by exact set_Qf) ?_ | refine sl_store_whole rfl (by exact pick_) rfl (by exact sz_Qf) (by exact sz_Qf) (by exact one_Qf) ?_); exact k.out)) : φ := h ⟨k⟩
theorem go_Qf {φ ψ : Prop} (k : ψ) (h : Hide ψ → φ := by (intro k; (repeat (first | refine su_Qf ?_ | refine so_ ?_ | refine sto_Qf ?_)); exact k.out)) : φ := h ⟨k⟩
set_option maxRecDepth 100000 in
set_option maxHeartbeats 800000 in
theorem next_ok {K : List Fa} {q : Nat} {r : UInt64} :
    Fn Try.prog 64 #[.pointer (some ⟨q, 0, none⟩)] (blk q 124 [.int .u64 (r.toNat : Nat)] :: K) (Ret (fun _ : Unit => True) (fun _ => .int .u64 ((xorNext r).toNat : Nat)) (fun _ => blk q 124 [.int .u64 ((xorNext r).toNat : Nat)] :: K)) := by
  refine fn_enter Try.func64 rfl _ Try.ntmps64 (by simp) [(0, .pointer (some ⟨q, 0, none⟩))] (args_of (by simp)) ?_
  rw [xorNext_eq]
  refine go_Qf ?_
  refine sd_drawn (fun W => AllP W [blk q 124 [.int .u64 ((r).toNat : Nat)]]) (fun i => !(List.contains [9] i)) (by kernel_rfl) 10 rfl ?_
  refine sd_yes2 0 rfl (by exact gd_) (by kernel_rfl) (by kernel_rfl) (by exact nop_) (PuI.all (by exact pv_Qf)) rfl (fun w hw => all_ hw) ?_
  refine sd_yes2 1 rfl (by exact gd_) (by kernel_rfl) (by kernel_rfl) (by exact nop_) (PuI.all (by exact pv_Qf)) rfl (fun w hw => all_ hw) ?_
  refine sd_yes2 2 rfl (by exact gd_) (by kernel_rfl) (by kernel_rfl) (by exact nop_) (PuI.all (by exact pv_Qf)) rfl (fun w hw => all_ hw) ?_
  refine sd_yes2 3 rfl (by exact gd_) (by kernel_rfl) (by kernel_rfl) (by exact nop_) (PuI.all (by exact pv_Qf)) rfl (fun w hw => all_ hw) ?_
  refine sd_yes2 4 rfl (by exact gd_) (by kernel_rfl) (by kernel_rfl) (by exact nop_) (PuI.all (by exact pv_Qf)) rfl (fun w hw => all_ hw) ?_
  refine sd_yes2 5 rfl (by exact gd_) (by kernel_rfl) (by kernel_rfl) (by exact nop_) (PuI.all (by exact pv_Qf)) rfl (fun w hw => all_ hw) ?_
  refine sd_yes2 6 rfl (by exact gd_) (by kernel_rfl) (by kernel_rfl) (by exact nop_) (PuI.all (by exact pv_Qf)) rfl (fun w hw => all_ hw) ?_
  refine sd_yes2 7 rfl (by exact gd_) (by kernel_rfl) (by kernel_rfl) (by exact nop_) (PuI.all (by exact pv_Qf)) rfl (fun w hw => all_ hw) ?_
  refine sd_yes2 8 rfl (by exact gd_) (by kernel_rfl) (by kernel_rfl) (by exact nop_) (PuI.all (by exact pv_Qf)) rfl (fun w hw => all_ hw) ?_
  refine sd_one 9 (by kernel_rfl) (sa_sl 9 rfl ?_)
  refine sto_Qf ?_
  refine sl_nil ?_
  refine se_sd (fun h => absurd h (by decide)) ?_
  refine sd_done (by kernel_rfl) ?_
  rw [sh13]
  generalize r ^^^ (r <<< 13) = r1
  refine go_Qf ?_
  refine sd_drawn (fun W => AllP W [blk q 124 [.int .u64 ((r1).toNat : Nat)]]) (fun i => !(List.contains [9] i)) (by kernel_rfl) 10 rfl ?_
  refine sd_yes2 0 rfl (by exact gd_) (by kernel_rfl) (by kernel_rfl) (by exact nop_) (PuI.all (by exact pv_Qf)) rfl (fun w hw => all_ hw) ?_
  refine sd_yes2 1 rfl (by exact gd_) (by kernel_rfl) (by kernel_rfl) (by exact nop_) (PuI.all (by exact pv_Qf)) rfl (fun w hw => all_ hw) ?_
  refine sd_yes2 2 rfl (by exact gd_) (by kernel_rfl) (by kernel_rfl) (by exact nop_) (PuI.all (by exact pv_Qf)) rfl (fun w hw => all_ hw) ?_
  refine sd_yes2 3 rfl (by exact gd_) (by kernel_rfl) (by kernel_rfl) (by exact nop_) (PuI.all (by exact pv_Qf)) rfl (fun w hw => all_ hw) ?_
  refine sd_yes2 4 rfl (by exact gd_) (by kernel_rfl) (by kernel_rfl) (by exact nop_) (PuI.all (by exact pv_Qf)) rfl (fun w hw => all_ hw) ?_
  refine sd_yes2 5 rfl (by exact gd_) (by kernel_rfl) (by kernel_rfl) (by exact nop_) (PuI.all (by exact pv_Qf)) rfl (fun w hw => all_ hw) ?_
  refine sd_yes2 6 rfl (by exact gd_) (by kernel_rfl) (by kernel_rfl) (by exact nop_) (PuI.all (by exact pv_Qf)) rfl (fun w hw => all_ hw) ?_
  refine sd_yes2 7 rfl (by exact gd_) (by kernel_rfl) (by kernel_rfl) (by exact nop_) (PuI.all (by exact pv_Qf)) rfl (fun w hw => all_ hw) ?_
  refine sd_yes2 8 rfl (by exact gd_) (by kernel_rfl) (by kernel_rfl) (by exact nop_) (PuI.all (by exact pv_Qf)) rfl (fun w hw => all_ hw) ?_
  refine sd_one 9 (by kernel_rfl) (sa_sl 9 rfl ?_)
  refine sto_Qf ?_
  refine sl_nil ?_
  refine se_sd (fun h => absurd h (by decide)) ?_
  refine sd_done (by kernel_rfl) ?_
  rw [sh7]
  generalize r1 ^^^ (r1 >>> 7) = r2
  refine go_Qf ?_
  refine sd_drawn (fun W => AllP W [blk q 124 [.int .u64 ((r2).toNat : Nat)]]) (fun i => !(List.contains [9] i)) (by kernel_rfl) 10 rfl ?_
  refine sd_yes2 0 rfl (by exact gd_) (by kernel_rfl) (by kernel_rfl) (by exact nop_) (PuI.all (by exact pv_Qf)) rfl (fun w hw => all_ hw) ?_
  refine sd_yes2 1 rfl (by exact gd_) (by kernel_rfl) (by kernel_rfl) (by exact nop_) (PuI.all (by exact pv_Qf)) rfl (fun w hw => all_ hw) ?_
  refine sd_yes2 2 rfl (by exact gd_) (by kernel_rfl) (by kernel_rfl) (by exact nop_) (PuI.all (by exact pv_Qf)) rfl (fun w hw => all_ hw) ?_
  refine sd_yes2 3 rfl (by exact gd_) (by kernel_rfl) (by kernel_rfl) (by exact nop_) (PuI.all (by exact pv_Qf)) rfl (fun w hw => all_ hw) ?_
  refine sd_yes2 4 rfl (by exact gd_) (by kernel_rfl) (by kernel_rfl) (by exact nop_) (PuI.all (by exact pv_Qf)) rfl (fun w hw => all_ hw) ?_
  refine sd_yes2 5 rfl (by exact gd_) (by kernel_rfl) (by kernel_rfl) (by exact nop_) (PuI.all (by exact pv_Qf)) rfl (fun w hw => all_ hw) ?_
  refine sd_yes2 6 rfl (by exact gd_) (by kernel_rfl) (by kernel_rfl) (by exact nop_) (PuI.all (by exact pv_Qf)) rfl (fun w hw => all_ hw) ?_
  refine sd_yes2 7 rfl (by exact gd_) (by kernel_rfl) (by kernel_rfl) (by exact nop_) (PuI.all (by exact pv_Qf)) rfl (fun w hw => all_ hw) ?_
  refine sd_yes2 8 rfl (by exact gd_) (by kernel_rfl) (by kernel_rfl) (by exact nop_) (PuI.all (by exact pv_Qf)) rfl (fun w hw => all_ hw) ?_
  refine sd_one 9 (by kernel_rfl) (sa_sl 9 rfl ?_)
  refine sto_Qf ?_
  refine sl_nil ?_
  refine se_sd (fun h => absurd h (by decide)) ?_
  refine sd_done (by kernel_rfl) ?_
  rw [sh17]
  generalize r2 ^^^ (r2 <<< 17) = r3
  refine go_Qf ?_
  exact se_ret1 () trivial rfl rfl (by exact sub_)
set_option maxRecDepth 100000 in
set_option maxHeartbeats 800000 in
theorem npow_ok {K : List Fa} {h : Nat} (h50 : h < 50) :
    Fn Try.prog 63 #[.int .i64 (h : Nat)] K (Ret (fun _ : Unit => True) (fun _ => .int .u64 ((1 <<< bitsLen h : Nat) : Int)) (fun _ => K)) := by
  refine fn_enter Try.func63 rfl _ Try.ntmps63 (by simp) [(0, .int .i64 (h : Nat))] (args_of (by simp)) ?_
  obtain ⟨e1, e2, e3, e4, e5⟩ := bl_50 h h50
  refine go_Qf ?_
  refine sl_call rfl rfl (by kernel_rfl) rfl Sub.refl (fn_eq (len_c _ (by omega) (by omega))) ?_
  rintro _ -
  rw [Int.toNat_natCast, e1]
  refine go_Qf ?_
  rw [show IntKind.u64.wrap (1 * 2 ^ ((bitsLen h : Nat) : Int).toNat) = ((1 <<< bitsLen h : Nat) : Int) by
    rw [Int.toNat_natCast, Int.one_mul, Nat.shiftLeft_eq, Nat.one_mul] at *
    simp [IntKind.wrap, IntKind.bits, IntKind.signed]
    have : (2 : Int) ^ bitsLen h = ((2 ^ bitsLen h : Nat) : Int) := by simp
    omega]
  exact se_ret1 () trivial rfl rfl (by exact sub_)
set_option maxRecDepth 100000 in
set_option maxHeartbeats 800000 in
theorem brk_ok {K : List Fa} {g n c : Nat} {d : Array Int} {a h : Nat} (hd : d.size = n) (hb : a + h ≤ n) (h8 : 8 ≤ h) (h50 : h < 50) (hn : n ≤ 1000000) :
    Fn Try.prog 47 #[.slice (some ⟨g, 0, none⟩) n c, .int .i64 (a : Nat), .int .i64 ((a + h : Nat) : Int)] (uo g n c d :: K) (Ret (fun _ : Unit => True) (fun _ => .tuple #[]) (fun _ => uo g n c (breakPatterns d a (a + h)) :: K)) := by
  refine fn_enter Try.func47 rfl _ Try.ntmps47 (by simp) [(0, .slice (some ⟨g, 0, none⟩) n c), (1, .int .i64 (a : Nat)), (2, .int .i64 ((a + h : Nat) : Int))] (args_of (by simp)) ?_
  obtain ⟨e1, e2, e3, e4, e5⟩ := bl_50 h h50
  rw [brk_eq h8]
  refine go_Qf ?_
  rw [show (((a + h : Nat) : Int) - a) = h by omega]
  refine go_Qf ?_
  refine sl_alloc rfl rfl rfl ?_; intro q
  refine go_Qf ?_
  refine sl_call rfl rfl (by kernel_rfl) rfl (by exact sub_) (npow_ok h50) ?_; rintro _ -
  refine go_Qf ?_
  have h0 : (((brkN d a h 0).1.toNat : Nat) : Int) = h := by
    rw [brkN_zero]
    show (((UInt64.ofNat h).toNat : Nat) : Int) = h
    rw [UInt64.toNat_ofNat', Nat.mod_eq_of_lt (by omega)]
  rw [show ((a : Int) + (h : Int) / 4 * 2 - 1) = ((a + (h / 4) * 2 - 1 + 0 : Nat) : Int) by omega]
  generalize hm : 1 <<< bitsLen h = m at e3 e4 e5 ⊢
  have e5' := e5 (by omega)
  refine sc_for (α := Nat) (fun k => [(0, .slice (some ⟨g, 0, none⟩) n c), (1, .int .i64 a), (6, .int .i64 h), (7, .pointer (some ⟨q, 0, none⟩)), (8, .int .u64 (m : Nat)), (9, .int .i64 ((a + (h / 4) * 2 - 1 + k : Nat) : Int))]) (fun k => blk q 124 [.int .u64 ((brkN d a h k).1.toNat : Nat)] :: uo g n c (brkN d a h k).2 :: K) (fun k => k ≤ 3) (fun k => 3 - k) 0 (by exact has_) (by rw [h0, brkN_zero]; exact sub_) (by decide) ?_
  intro k hk
  have hsz := brkN_size (a := a) (h := h) hd k
  by_cases hk3 : k < 3
  case neg =>
    obtain rfl : k = 3 := by omega
    refine go_Qf ?_
    exact se_end0 () trivial rfl rfl (by exact sub_)
  have hs := brkN_succ (d := d) (a := a) (h := h) (k := k)
  have ho : oth (brkN d a h k).1 h = if (xorNext (brkN d a h k).1).toNat &&& (m - 1) ≥ h then ((xorNext (brkN d a h k).1).toNat &&& (m - 1)) - h else (xorNext (brkN d a h k).1).toNat &&& (m - 1) := by unfold oth; rw [hm]
  generalize hr : (brkN d a h k).1 = r at hs ho ⊢
  generalize he : (brkN d a h k).2 = e at hs hsz ⊢
  refine go_Qf ?_
  refine sl_call rfl rfl (by kernel_rfl) rfl (by exact sub_) next_ok ?_; rintro _ -
  refine su_Qf ?_
  refine su_Qf ?_
  refine su_Qf ?_
  rw [show ((m : Int) - 1) = ((m - 1 : Nat) : Int) by omega, u64_and _ _ (xorNext r).toNat_lt (by omega)]
  have hle : (xorNext r).toNat &&& (m - 1) ≤ m - 1 := Nat.and_le_right
  generalize (xorNext r).toNat &&& (m - 1) = o at ho hle ⊢
  by_cases hoh : o ≥ h
  · rw [if_pos hoh] at ho
    rw [ho] at hs
    refine go_Qf ?_
    refine sd_drawn (fun W => AllP W []) (fun _ => true) (by kernel_rfl) 20 rfl ?_
    refine sd_yes2 0 rfl (by exact gd_) (by kernel_rfl) (by kernel_rfl) (by exact nop_) (PuI.all (by exact pv_Qf)) rfl (fun w hw => all_ hw) ?_
    refine sd_yes2 1 rfl (by exact gd_) (by kernel_rfl) (by kernel_rfl) (by exact nop_) (PuI.all (by exact pv_Qf)) rfl (fun w hw => all_ hw) ?_
    refine sd_yes2 2 rfl (by exact gd_) (by kernel_rfl) (by kernel_rfl) (by exact nop_) (PuI.all (by exact pv_Qf)) rfl (fun w hw => all_ hw) ?_
    refine sd_yes2 3 rfl (by exact gd_) (by kernel_rfl) (by kernel_rfl) (by exact nop_) (PuI.all (by exact pv_Qf)) rfl (fun w hw => all_ hw) ?_
    refine sd_yes2 4 rfl (by exact gd_) (by kernel_rfl) (by kernel_rfl) (by exact nop_) (PuI.all (by exact pv_Qf)) rfl (fun w hw => all_ hw) ?_
    refine sd_yes2 5 rfl (by exact gd_) (by kernel_rfl) (by kernel_rfl) (by exact nop_) (PuI.all (by exact pv_Qf)) rfl (fun w hw => all_ hw) ?_
    refine sd_yes2 6 rfl (by exact gd_) (by kernel_rfl) (by kernel_rfl) (by exact nop_) (PuI.all (by exact pv_Qf)) rfl (fun w hw => all_ hw) ?_
    refine sd_yes2 7 rfl (by exact gd_) (by kernel_rfl) (by kernel_rfl) (by exact nop_) (PuI.all (by exact pv_Qf)) rfl (fun w hw => all_ hw) ?_
    refine sd_yes2 8 rfl (by exact gd_) (by kernel_rfl) (by kernel_rfl) (by exact nop_) (PuI.all (by exact pv_Qf)) rfl (fun w hw => all_ hw) ?_
    refine sd_yes2 9 rfl (by exact gd_) (by kernel_rfl) (by kernel_rfl) (by exact nop_) (PuI.all (by exact pv_Qf)) rfl (fun w hw => all_ hw) ?_
    refine sd_yes2 10 rfl (by exact gd_) (by kernel_rfl) (by kernel_rfl) (by exact nop_) (PuI.all (by exact pv_Qf)) rfl (fun w hw => all_ hw) ?_
    refine sd_yes2 12 rfl (by exact gd_) (by kernel_rfl) (by kernel_rfl) (by exact nop_) (PuI.all (by exact pv_Qf)) rfl (fun w hw => all_ hw) ?_
    refine sd_yes2 13 rfl (by exact gd_) (by kernel_rfl) (by kernel_rfl) (by exact nop_) (PuI.all (by exact pv_Qf)) rfl (fun w hw => all_ hw) ?_
    refine sd_yes2 14 rfl (by exact gd_) (by kernel_rfl) (by kernel_rfl) (by exact nop_) (PuI.all (by exact pv_Qf)) rfl (fun w hw => all_ hw) ?_
    refine sd_batch (fun i => [11, 15].contains i) ?_
    refine sx_yes 11 rfl (by exact gd_) (by kernel_rfl) (by kernel_rfl) (by exact nop_) (PuI.sep (by exact pv_Qf)) rfl (fun _ h => h) ?_
    refine sx_yes 15 rfl (by exact gd_) (by kernel_rfl) (by kernel_rfl) (by exact nop_) (PuI.sep (by exact pv_Qf)) rfl (fun _ h => h) ?_
    refine sx_rest (by kernel_rfl) ?_
    refine sd_one 16 (by kernel_rfl) (sa_sl 16 rfl ?_)
    repeat refine su_Qf ?_
    refine sl_nil ?_
    refine se_sd (fun _ _ _ => trivial) ?_
    refine sd_one 17 (by kernel_rfl) (sa_sl 17 rfl ?_)
    refine sl_sto2 (i := a + (h / 4) * 2 - 1 + k) rfl (at1k (by omega)) (by exact pick_) rfl rfl rfl (by omega) ?_
    refine sl_nil ?_
    refine se_sd (fun _ _ _ => trivial) ?_
    refine sd_one 18 (by kernel_rfl) (sa_sl 18 rfl ?_)
    repeat refine su_Qf ?_
    refine sl_nil ?_
    refine se_sd (fun _ _ _ => trivial) ?_
    refine sd_one 19 (by kernel_rfl) (sa_sl 19 rfl ?_)
    refine sl_swp (i := a + (h / 4) * 2 - 1 + k) (j := a + (o - h)) rfl (at1k (by omega)) (by exact pick_) rfl (get_k (by omega)) (get_k (by omega)) rfl (by omega) ?_
    refine sl_nil ?_
    refine se_sd (fun _ _ _ => trivial) ?_
    refine sd_done (by kernel_rfl) ?_
    refine go_Qf ?_
    rw [show (((a + (h / 4) * 2 - 1 + k : Nat) : Int) + 1) = ((a + (h / 4) * 2 - 1 + (k + 1) : Nat) : Int) by omega]
    exact se_round (k + 1) (by exact has_) (by rw [hs]; exact sub_) hk3 (by omega)
  · rw [if_neg hoh] at ho
    rw [ho] at hs
    refine go_Qf ?_
    refine sd_drawn (fun W => AllP W []) (fun _ => true) (by kernel_rfl) 20 rfl ?_
    refine sd_yes2 0 rfl (by exact gd_) (by kernel_rfl) (by kernel_rfl) (by exact nop_) (PuI.all (by exact pv_Qf)) rfl (fun w hw => all_ hw) ?_
    refine sd_yes2 1 rfl (by exact gd_) (by kernel_rfl) (by kernel_rfl) (by exact nop_) (PuI.all (by exact pv_Qf)) rfl (fun w hw => all_ hw) ?_
    refine sd_yes2 2 rfl (by exact gd_) (by kernel_rfl) (by kernel_rfl) (by exact nop_) (PuI.all (by exact pv_Qf)) rfl (fun w hw => all_ hw) ?_
    refine sd_yes2 3 rfl (by exact gd_) (by kernel_rfl) (by kernel_rfl) (by exact nop_) (PuI.all (by exact pv_Qf)) rfl (fun w hw => all_ hw) ?_
    refine sd_yes2 4 rfl (by exact gd_) (by kernel_rfl) (by kernel_rfl) (by exact nop_) (PuI.all (by exact pv_Qf)) rfl (fun w hw => all_ hw) ?_
    refine sd_yes2 5 rfl (by exact gd_) (by kernel_rfl) (by kernel_rfl) (by exact nop_) (PuI.all (by exact pv_Qf)) rfl (fun w hw => all_ hw) ?_
    refine sd_yes2 6 rfl (by exact gd_) (by kernel_rfl) (by kernel_rfl) (by exact nop_) (PuI.all (by exact pv_Qf)) rfl (fun w hw => all_ hw) ?_
    refine sd_yes2 7 rfl (by exact gd_) (by kernel_rfl) (by kernel_rfl) (by exact nop_) (PuI.all (by exact pv_Qf)) rfl (fun w hw => all_ hw) ?_
    refine sd_yes2 8 rfl (by exact gd_) (by kernel_rfl) (by kernel_rfl) (by exact nop_) (PuI.all (by exact pv_Qf)) rfl (fun w hw => all_ hw) ?_
    refine sd_yes2 9 rfl (by exact gd_) (by kernel_rfl) (by kernel_rfl) (by exact nop_) (PuI.all (by exact pv_Qf)) rfl (fun w hw => all_ hw) ?_
    refine sd_yes2 10 rfl (by exact gd_) (by kernel_rfl) (by kernel_rfl) (by exact nop_) (PuI.all (by exact pv_Qf)) rfl (fun w hw => all_ hw) ?_
    refine sd_yes2 12 rfl (by exact gd_) (by kernel_rfl) (by kernel_rfl) (by exact nop_) (PuI.all (by exact pv_Qf)) rfl (fun w hw => all_ hw) ?_
    refine sd_yes2 13 rfl (by exact gd_) (by kernel_rfl) (by kernel_rfl) (by exact nop_) (PuI.all (by exact pv_Qf)) rfl (fun w hw => all_ hw) ?_
    refine sd_yes2 14 rfl (by exact gd_) (by kernel_rfl) (by kernel_rfl) (by exact nop_) (PuI.all (by exact pv_Qf)) rfl (fun w hw => all_ hw) ?_
    refine sd_batch (fun i => [11, 15].contains i) ?_
    refine sx_yes 11 rfl (by exact gd_) (by kernel_rfl) (by kernel_rfl) (by exact nop_) (PuI.sep (by exact pv_Qf)) rfl (fun _ h => h) ?_
    refine sx_yes 15 rfl (by exact gd_) (by kernel_rfl) (by kernel_rfl) (by exact nop_) (PuI.sep (by exact pv_Qf)) rfl (fun _ h => h) ?_
    refine sx_rest (by kernel_rfl) ?_
    refine sd_one 16 (by kernel_rfl) (sa_sl 16 rfl ?_)
    repeat refine su_Qf ?_
    refine sl_nil ?_
    refine se_sd (fun _ _ _ => trivial) ?_
    refine sd_one 17 (by kernel_rfl) (sa_sl 17 rfl ?_)
    refine sl_sto2 (i := a + (h / 4) * 2 - 1 + k) rfl (at1k (by omega)) (by exact pick_) rfl rfl rfl (by omega) ?_
    refine sl_nil ?_
    refine se_sd (fun _ _ _ => trivial) ?_
    refine sd_one 18 (by kernel_rfl) (sa_sl 18 rfl ?_)
    repeat refine su_Qf ?_
    refine sl_nil ?_
    refine se_sd (fun _ _ _ => trivial) ?_
    refine sd_one 19 (by kernel_rfl) (sa_sl 19 rfl ?_)
    refine sl_swp (i := a + (h / 4) * 2 - 1 + k) (j := a + o) rfl (at1k (by omega)) (by exact pick_) rfl (get_k (by omega)) (get_k (by omega)) rfl (by omega) ?_
    refine sl_nil ?_
    refine se_sd (fun _ _ _ => trivial) ?_
    refine sd_done (by kernel_rfl) ?_
    refine go_Qf ?_
    rw [show (((a + (h / 4) * 2 - 1 + k : Nat) : Int) + 1) = ((a + (h / 4) * 2 - 1 + (k + 1) : Nat) : Int) by omega]
    exact se_round (k + 1) (by exact has_) (by rw [hs]; exact sub_) hk3 (by omega)
end Go.Proofs.Ytdmeofobljjpfaa
