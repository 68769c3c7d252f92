/- slices.Sort at uint64: it does what the kit's plain functions of the sort do; insertion sort. -/
import Derived.Test.YtdmeofobljjpfaaReg4
import Derived.Test.YtdmeofobljjpfaaAp
import Derived.Test.YtdmeofobljjpfaaEa
import Derived.Test.YtdmeofobljjpfaaLn
import Derived.Laws.Bits64
import Derived.Sort.AssemblyPlain
namespace Go.Proofs.Ytdmeofobljjpfaa
open Go.RowKit Go.Sort
attribute [local irreducible] Go.Calls Go.Exit.then Go.Exit.inBlock Go.bodyPost Go.Code.wp Go.wpList
/-- An owned row of uint64. -/
abbrev uo (g n c : Nat) (d : Array Int) : Fa := own 22 1 (some ⟨g, 0, none⟩) n c (nums .u64 d.toList)
theorem un_get {d : Array Int} {k : Nat} (h : k < d.size) : nth (nums .u64 d.toList) k = some (.int .u64 d[k]!) := by
  rw [nth_eq]
  unfold nums
  rw [List.getElem?_map, Array.getElem?_toList, Array.getElem?_eq_getElem h, getElem!_pos d k h]
  rfl
theorem un_nth1 {d : Array Int} {k : Nat} (h : k < d.size) : nth (nums .u64 d.toList) (k * 1) = some (.int .u64 d[k]!) := by rw [Nat.mul_one]; exact un_get h
theorem un_nth0 {d : Array Int} {k : Nat} (h : k < d.size) : nth (nums .u64 d.toList) (0 + k * 1) = some (.int .u64 d[k]!) := by rw [Nat.zero_add, Nat.mul_one]; exact un_get h
theorem get_k {d : Array Int} {k j : Nat} (h : k = j) : d[k]! = d[j]! := by rw [h]
theorem lt_k {d : Array Int} {p q i j : Nat} {b : Bool} (hp : p = i) (hq : q = j) (h : ltInt d[i]! d[j]! = b) : ltInt d[p]! d[q]! = b := by rw [hp, hq, h]
theorem at1k {g k i : Nat} (h : k * 1 = i) : (⟨g, 0, none⟩ : Addr).add (k * 1) = ⟨g, i, none⟩ := by rw [at1, h]
theorem swp_nums {d : Array Int} {i j : Nat} : ((nums .u64 d.toList).set i (.int .u64 d[j]!)).set j (.int .u64 d[i]!) = nums .u64 (swp d i j).toList := by
  unfold nums swp
  simp
section
variable {P : Program} {ops : Array Oper} {Q : Exit → Act → World → Prop} {m : Nat} {l : Env} {L L' : List Fa} {rest : List Oper} {t ty : TypeId} {pos : String} {after : Array Edge} {x y : Operand} {g n c i j : Nat} {p : Addr} {d : Array Int} {a b : Int}
theorem sl_swp (hx : ev l x = some (.pointer (some p))) (hpe : p = ⟨g, j, none⟩) (hp : Pick (own 22 1 (some ⟨g, 0, none⟩) n c ((nums .u64 d.toList).set i (.int .u64 a))) L L') (hy : ev l y = some (.int .u64 b)) (ha : a = d[j]!) (hb : b = d[i]!) (ht : szOf P t = some 1) (hj : j < n * 1)
    (h : SL P ops Q rest m l (uo g n c (swp d i j) :: L')) : SL P ops Q (⟨none, .store t x y, ty, pos, after, none⟩ :: rest) m l L := by
  subst ha hb
  refine sl_sto2 hx hpe hp hy rfl ht hj ?_
  rw [swp_nums]
  exact h
end
theorem swp_sz {d : Array Int} {n : Nat} (h : d.size = n) (i j : Nat) : (swp d i j).size = n := by rw [size_swp, h]
theorem nth_Qa {φ : Prop} (h : φ := by (first | rfl | first | exact un_nth1 (by omega) | exact un_nth0 (by omega))) : φ := h
theorem mid_Qa {φ : Prop} (h : φ := by (first | exact Mid.all | exact Mid.all | exact Mid.head)) : φ := h
theorem sz_Qa {φ : Prop} (h : φ := by (first | rfl | (rfl; first | done | fail))) : φ := h
theorem one_Qa {φ : Prop} (h : φ := by (first | assumption | exact one_bytes _ | (simp only [List.mem_cons, List.not_mem_nil, or_false, forall_eq_or_imp, forall_eq]; decide) | exact one_bytes _ | (intro v hv; (repeat (rcases List.mem_cons.1 hv with rfl | hv; rfl)); cases hv))) : φ := h
theorem set_Qa {φ : Prop} (h : φ := by (first | (fail) | ((repeat (first | exact SetAt.here | apply SetAt.there)); first | done | fail))) : φ := h
theorem cl_Qa {φ : Prop} (h : φ := by first | rfl | exact .t | exact .f | exact .t (by omega) | exact .f (by omega) | exact .u | exact .i (by (first | exact .t (by omega) | exact .f (by omega) | exact .u | exact .i (by omega) | exact .v (by omega) | exact .b (by omega) | exact .w | rfl | omega)) | exact .v (by omega) | exact .b (by omega) | exact .q (by omega) | exact .w | exact .b (by exact at_) rfl (by exact nth_Qa) | exact .w (by exact at_) rfl rfl (by exact sz_Qa) | exact .s (by exact at_) (by exact mid_Qa) rfl rfl (by exact sz_Qa) | exact .z rfl rfl ⟨by kernel_rfl⟩ | exact .b rfl rfl ⟨by kernel_rfl⟩ | exact .a rfl rfl ⟨by kernel_rfl⟩ | exact .o rfl | exact .s | exact .n | exact .p rfl | exact .q rfl | exact .c rfl | exact .d rfl | exact .n rfl rfl (by omega) | exact .a rfl rfl (by omega) | exact .p rfl rfl (by omega) (by omega) | exact .y rfl rfl (by omega) (by omega) | exact .o (by exact at_) (by omega) rfl (by exact nth_Qa) | exact .m (by exact at_) (by omega) (by exact mid_Qa) rfl rfl (by exact sz_Qa) | exact .mlen (by exact at_) rfl | exact .t (by exact at_) rfl rfl (by first | exact True.intro | rfl) (by assumption) | exact .f (by exact at_) rfl rfl (by first | exact True.intro | rfl) (by assumption) rfl | exact .t1 (by exact at_) rfl rfl (by first | exact True.intro | rfl) (by assumption) | exact .f1 (by exact at_) rfl rfl (by first | exact True.intro | rfl) (by assumption) rfl | exact .r rfl rfl (by omega) (by omega) (by exact nth_Qa) rfl | exact .s rfl (by omega) (by assumption) | exact at_ | assumption | exact .r rfl rfl | exact .h rfl rfl rfl (by omega) | exact .l rfl rfl rfl (by omega) (by omega) | exact .g rfl rfl rfl rfl (by omega) (by omega) | exact .h rfl rfl (toN_ (by omega)) (by omega) | exact .l rfl rfl (toN_ (by omega)) (by omega) (by omega) | exact .g rfl rfl (toN_ (by omega)) (toN_ (by omega)) (by omega) (by omega) | exact .o (by decide) | exact .f (by decide) | exact .n (by omega) (by first | decide | (show _ ≤ ((64 : Nat) : Int); omega)) | (constructor; (repeat (first | exact .t (by omega) | exact .f (by omega) | exact .u | exact .i (by omega) | exact .v (by omega) | exact .b (by omega) | exact .w | rfl | omega)); first | done | fail) | omega | (show _ ≤ ((64 : Nat) : Int); omega)) : φ := h
theorem pv_Qa {φ : Prop} (h : φ := by constructor; (repeat exact cl_Qa); first | done | fail) : φ := h
theorem su_Qa {φ ψ : Prop} (k : ψ) (h : Hide ψ → φ := by (intro k; (first | refine sl_pu (PuI.sep (by exact pv_Qa)) rfl ?_ | refine sl_yes rfl rfl ?_ | refine sl_no rfl rfl rfl ?_ | refine sl_off rfl rfl rfl ?_ | (fail)); exact k.out)) : φ := h ⟨k⟩
theorem rq_Qa {φ ψ : Prop} (k : ψ) (h : Hide ψ → φ := by (intro k; (first | refine wq_pu (PuI.sep (by exact pv_Qa)) rfl ?_ | refine wq_yes rfl rfl ?_ | refine wq_no rfl rfl rfl ?_ | refine wq_off rfl rfl rfl ?_ | (fail)); exact k.out)) : φ := h ⟨k⟩
theorem sto_Qa {φ ψ : Prop} (k : ψ) (h : Hide ψ → φ := by (intro k; (first | refine sl_store rfl (by exact pick_) rfl rfl (by kernel_rfl) (by exact set_Qa) ?_ | refine sl_store_whole rfl (by exact pick_) rfl (by exact sz_Qa) (by exact sz_Qa) (by exact one_Qa) ?_); exact k.out)) : φ := h ⟨k⟩
theorem go_Qa {φ ψ : Prop} (k : ψ) (h : Hide ψ → φ := by (intro k; (repeat (first | refine su_Qa ?_ | refine so_ ?_ | refine sto_Qa ?_)); exact k.out)) : φ := h ⟨k⟩
set_option maxRecDepth 100000 in
theorem isNaN_ok {K : List Fa} {x : Int} : Fn Try.prog 67 #[.int .u64 x] K (Ret (fun _ : Unit => True) (fun _ => .bool false) (fun _ => K)) := by
  refine fn_enter Try.func67 rfl _ Try.ntmps67 (by simp) [(0, .int .u64 x)] (args_of (by simp)) ?_
  refine go_Qa ?_
  exact se_ret1 () trivial rfl rfl (by exact sub_)
set_option maxRecDepth 100000 in
theorem less_ok {K : List Fa} {x y : Int} {b : Bool} (h : ltInt x y = b) : Fn Try.prog 51 #[.int .u64 x, .int .u64 y] K (Ret (fun _ : Unit => True) (fun _ => .bool b) (fun _ => K)) := by
  refine fn_enter Try.func51 rfl _ Try.ntmps51 (by simp) [(0, .int .u64 x), (1, .int .u64 y)] (args_of (by simp)) ?_
  unfold ltInt at h
  cases b with
  | true =>
    rw [decide_eq_true_eq] at h
    refine go_Qa ?_
    refine sl_call rfl rfl (by kernel_rfl) rfl (by exact sub_) isNaN_ok ?_; rintro _ -
    refine go_Qa ?_
    exact se_ret1 () trivial rfl rfl (by exact sub_)
  | false =>
    rw [decide_eq_false_iff_not] at h
    refine go_Qa ?_
    refine sl_call rfl rfl (by kernel_rfl) rfl (by exact sub_) isNaN_ok ?_; rintro _ -
    refine go_Qa ?_
    exact se_ret1 () trivial rfl rfl (by exact sub_)
theorem ins_step {a j : Nat} {e : Array Int} (h1 : a < j + 1) (hb : ltInt e[j + 1]! e[j]! = true) : insInner ltInt a (j + 1) e = insInner ltInt a j (swp e (j + 1) j) := by
  rw [insInner, if_pos (by simp [h1, hb])]
theorem ins_stop {a j : Nat} {e : Array Int} (hb : ltInt e[j + 1]! e[j]! = false) : insInner ltInt a (j + 1) e = e := by
  rw [insInner, if_neg (by simp [hb])]
theorem ins_end {a j : Nat} {e : Array Int} (h1 : ¬ a < j) : insInner ltInt a j e = e := by
  cases j with
  | zero => rfl
  | succ j => rw [insInner, if_neg (by simp; omega)]
set_option maxRecDepth 100000 in
set_option maxHeartbeats 4000000 in
theorem insSort_ok {K : List Fa} {g n c a b : Nat} {d : Array Int} (hd : d.size = n) (hab : a ≤ b) (hb : b ≤ n) (hn : n ≤ 1000000) :
    Fn Try.prog 45 #[.slice (some ⟨g, 0, none⟩) n c, .int .i64 a, .int .i64 b] (uo g n c d :: K) (Ret (fun _ : Unit => True) (fun _ => .tuple #[]) (fun _ => uo g n c (insertionSort ltInt d a b) :: K)) := by
  refine fn_enter Try.func45 rfl _ Try.ntmps45 (by simp) [(0, .slice (some ⟨g, 0, none⟩) n c), (1, .int .i64 a), (2, .int .i64 b)] (args_of (by simp)) ?_
  generalize hF : insertionSort ltInt d a b = F
  unfold insertionSort at hF
  refine go_Qa ?_
  refine sc_for (α := Nat × Array Int) (fun p => [(0, .slice (some ⟨g, 0, none⟩) n c), (1, .int .i64 a), (2, .int .i64 b), (6, .int .i64 p.1)]) (fun p => uo g n c p.2 :: K) (fun p => p.2.size = n ∧ insOuter ltInt a b p.1 p.2 = F) (fun p => b - p.1) (a + 1, d) (by exact has_) (by exact sub_) ⟨hd, hF⟩ ?_
  rintro ⟨i, e⟩ ⟨hes, heF⟩
  dsimp only at hes heF ⊢
  rw [insOuter] at heF
  by_cases hi : i < b
  case neg =>
    rw [if_neg hi] at heF
    subst heF
    refine go_Qa ?_
    exact se_end0 () trivial rfl rfl (by exact sub_)
  rw [if_pos hi] at heF
  refine go_Qa ?_
  refine sc_for (α := Nat × Array Int) (fun p => [(0, .slice (some ⟨g, 0, none⟩) n c), (1, .int .i64 a), (2, .int .i64 b), (6, .int .i64 i), (7, .int .i64 p.1)]) (fun p => uo g n c p.2 :: K) (fun p => p.2.size = n ∧ p.1 < n ∧ insOuter ltInt a b (i + 1) (insInner ltInt a p.1 p.2) = F) (fun p => p.1) (i, e) (by exact has_) (by exact sub_) ⟨hes, by omega, heF⟩ ?_
  rintro ⟨j, e'⟩ ⟨hes', hj, heF'⟩
  dsimp only at hes' hj heF' ⊢
  by_cases h1 : a < j
  case neg =>
    rw [ins_end h1] at heF'
    refine go_Qa ?_
    refine sq_region (by kernel_rfl) (by kernel_rfl) ?_
    repeat refine rq_Qa ?_
    refine sq_end ?_
    refine go_Qa ?_
    exact se_round (i + 1, e') (by exact has_) (by exact sub_) ⟨hes', heF'⟩ (by dsimp only; omega)
  obtain ⟨j, rfl⟩ : ∃ k, j = k + 1 := ⟨j - 1, by omega⟩
  cases hl : ltInt e'[j + 1]! e'[j]! with
  | false =>
    rw [ins_stop hl] at heF'
    refine go_Qa ?_
    refine sq_region (by kernel_rfl) (by kernel_rfl) ?_
    repeat refine rq_Qa ?_
    refine WQ_call rfl rfl (by kernel_rfl) rfl (less_ok (lt_k (by omega) (by omega) hl)) ?_
    repeat refine rq_Qa ?_
    refine sq_end ?_
    refine go_Qa ?_
    exact se_round (i + 1, e') (by exact has_) (by exact sub_) ⟨hes', heF'⟩ (by dsimp only; omega)
  | true =>
    rw [ins_step (by omega) hl] at heF'
    refine go_Qa ?_
    refine sq_region (by kernel_rfl) (by kernel_rfl) ?_
    repeat refine rq_Qa ?_
    refine WQ_call rfl rfl (by kernel_rfl) rfl (less_ok (lt_k (by omega) (by omega) hl)) ?_
    repeat refine rq_Qa ?_
    refine sq_end ?_
    refine go_Qa ?_
    refine sd_drawn (fun W => AllP W []) (fun _ => true) (by kernel_rfl) 18 rfl ?_
    refine sd_yes2 0 rfl (by exact gd_) (by kernel_rfl) (by kernel_rfl) (by exact nop_) (PuI.all (by exact pv_Qa)) rfl (fun w hw => all_ hw) ?_
    refine sd_yes2 1 rfl (by exact gd_) (by kernel_rfl) (by kernel_rfl) (by exact nop_) (PuI.all (by exact pv_Qa)) rfl (fun w hw => all_ hw) ?_
    refine sd_yes2 2 rfl (by exact gd_) (by kernel_rfl) (by kernel_rfl) (by exact nop_) (PuI.all (by exact pv_Qa)) rfl (fun w hw => all_ hw) ?_
    refine sd_yes2 3 rfl (by exact gd_) (by kernel_rfl) (by kernel_rfl) (by exact nop_) (PuI.all (by exact pv_Qa)) rfl (fun w hw => all_ hw) ?_
    refine sd_yes2 4 rfl (by exact gd_) (by kernel_rfl) (by kernel_rfl) (by exact nop_) (PuI.all (by exact pv_Qa)) rfl (fun w hw => all_ hw) ?_
    refine sd_yes2 5 rfl (by exact gd_) (by kernel_rfl) (by kernel_rfl) (by exact nop_) (PuI.all (by exact pv_Qa)) rfl (fun w hw => all_ hw) ?_
    refine sd_yes2 6 rfl (by exact gd_) (by kernel_rfl) (by kernel_rfl) (by exact nop_) (PuI.all (by exact pv_Qa)) rfl (fun w hw => all_ hw) ?_
    refine sd_yes2 7 rfl (by exact gd_) (by kernel_rfl) (by kernel_rfl) (by exact nop_) (PuI.all (by exact pv_Qa)) rfl (fun w hw => all_ hw) ?_
    refine sd_yes2 8 rfl (by exact gd_) (by kernel_rfl) (by kernel_rfl) (by exact nop_) (PuI.all (by exact pv_Qa)) rfl (fun w hw => all_ hw) ?_
    refine sd_yes2 10 rfl (by exact gd_) (by kernel_rfl) (by kernel_rfl) (by exact nop_) (PuI.all (by exact pv_Qa)) rfl (fun w hw => all_ hw) ?_
    refine sd_yes2 11 rfl (by exact gd_) (by kernel_rfl) (by kernel_rfl) (by exact nop_) (PuI.all (by exact pv_Qa)) rfl (fun w hw => all_ hw) ?_
    refine sd_yes2 12 rfl (by exact gd_) (by kernel_rfl) (by kernel_rfl) (by exact nop_) (PuI.all (by exact pv_Qa)) rfl (fun w hw => all_ hw) ?_
    refine sd_batch (fun i => [9, 13].contains i) ?_
    refine sx_yes 9 rfl (by exact gd_) (by kernel_rfl) (by kernel_rfl) (by exact nop_) (PuI.sep (by exact pv_Qa)) rfl (fun _ h => h) ?_
    refine sx_yes 13 rfl (by exact gd_) (by kernel_rfl) (by kernel_rfl) (by exact nop_) (PuI.sep (by exact pv_Qa)) rfl (fun _ h => h) ?_
    refine sx_rest (by kernel_rfl) ?_
    refine sd_one 14 (by kernel_rfl) (sa_sl 14 rfl ?_)
    repeat refine su_Qa ?_
    refine sl_nil ?_
    refine se_sd (fun _ _ _ => trivial) ?_
    refine sd_one 15 (by kernel_rfl) (sa_sl 15 rfl ?_)
    refine sl_sto2 (i := j + 1) rfl (at1k (by omega)) (by exact pick_) rfl rfl rfl (by omega) ?_
    refine sl_nil ?_
    refine se_sd (fun _ _ _ => trivial) ?_
    refine sd_one 16 (by kernel_rfl) (sa_sl 16 rfl ?_)
    repeat refine su_Qa ?_
    refine sl_nil ?_
    refine se_sd (fun _ _ _ => trivial) ?_
    refine sd_one 17 (by kernel_rfl) (sa_sl 17 rfl ?_)
    refine sl_swp (i := j + 1) (j := j) rfl (at1k (by omega)) (by exact pick_) rfl (get_k (by omega)) (get_k (by omega)) rfl (by omega) ?_
    refine sl_nil ?_
    refine se_sd (fun _ _ _ => trivial) ?_
    refine sd_done (by kernel_rfl) ?_
    refine go_Qa ?_
    rw [show (((j + 1 : Nat) : Int) - 1) = (j : Int) by omega]
    exact se_round (j, swp e' (j + 1) j) (by exact has_) (by exact sub_) ⟨swp_sz hes' _ _, by dsimp only; omega, heF'⟩ (by dsimp only; omega)
end Go.Proofs.Ytdmeofobljjpfaa
