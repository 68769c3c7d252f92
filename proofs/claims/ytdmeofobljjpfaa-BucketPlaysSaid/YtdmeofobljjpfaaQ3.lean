/- Several texts, one behind the other (Qg, Gn, Pt, Go, Ha). -/
import Derived.Test.YtdmeofobljjpfaaQ1
import Derived.Test.YtdmeofobljjpfaaQ2
import Derived.Test.YtdmeofobljjpfaaGl
import Derived.Test.YtdmeofobljjpfaaSp6
import Derived.Test.YtdmeofobljjpfaaOb
set_option linter.unusedVariables false
set_option linter.unusedSimpArgs false
/- slices.Sort at uint64: pdqsort, Sort. (Written by wip/tools/mkqs.py.) -/
namespace Go.Proofs.Ytdmeofobljjpfaa
open Go.RowKit Go.Sort
attribute [local irreducible] Go.Calls Go.Exit.then Go.Exit.inBlock Go.bodyPost Go.Code.wp Go.wpList
theorem sor_q {φ ψ : Prop} (k : ψ) (h : Hide ψ → φ := by (intro k; (first | refine sc_seq ?_ | refine sl_nil ?_ | refine se_seq ?_ | refine sc_cond rfl (by constructor) ?_ | refine sc_skip ?_ | refine sc_block ?_ | refine se_blk (by first | exact .n | exact .h | exact .m rfl | exact .r | exact .p) ?_ | refine sc_exit ?_ | refine se_pass (by constructor) ?_ | refine sc_ret ?_); exact k.out)) : φ := h ⟨k⟩
theorem uo_size {g n c : Nat} {d : Array Int} {K : List Fa} : ∀ w, Sep w (uo g n c d :: K) → d.size = n := fun w hw => by
  have h := (Vw.of_own (e := 22) (size := 1) (A := some ⟨g, 0, none⟩) (n := n) (c := c) (xs := nums .u64 d.toList) (L := uo g n c d :: K) .here w hw).1
  simpa [nums] using h
theorem piv_hint {d : Array Int} {a h : Nat} (h8 : 8 ≤ h) (h50 : h < 50) : (choosePivot ltInt d a (a + h)).2 = .increasing ∨ (choosePivot ltInt d a (a + h)).2 = .unknown := by
  rw [piv_eq h8 h50]
  dsimp only
  split <;> simp
theorem parteq_range {d : Array Int} {a b p : Nat} (hab : a < b) (hb : b ≤ d.size) : a < (partitionEqual ltInt d a b p).1 ∧ (partitionEqual ltInt d a b p).1 ≤ b := by
  have h := partEqLoop_spec ltInt a b _ (a + 1) (b - 1) (swp d a p) (Nat.le_refl _) (by omega) (by omega) (by omega) (by rw [size_swp]; exact hb) (fun t h1 h2 => by omega) (fun t h1 h2 => by omega)
  exact ⟨h.1, h.2.1⟩
theorem part_range {d : Array Int} {a b p : Nat} (hp : a ≤ p ∧ p < b) (hb : b ≤ d.size) : a ≤ (partition ltInt d a b p).1 ∧ (partition ltInt d a b p).1 < b := by
  have h := partition_holds ltInt swo_ltInt d a b p hp.1 hp.2 hb
  exact ⟨h.1, h.2.1⟩
/-- A round of pdqsort's loop. -/
theorem pdq_round {d d1 : Array Int} {a h l l1 x : Nat} {wb wp : Bool} {hi : Hint} (h12 : 12 < h) (h50 : h < 50) (hl : l ≠ 0) (hb : a + h ≤ d1.size) (hd1 : (if (!wb) = true then breakPatterns d a (a + h) else d) = d1) (hl1 : (if (!wb) = true then l - 1 else l) = l1) (hc : choosePivot ltInt d1 a (a + h) = (x, hi)) (hx : a ≤ x ∧ x < a + h) :
    pdq ltInt d a (a + h) l wb wp = if (wb && wp && decide (hi = .increasing)) = true ∧ scanSorted ltInt d1 (a + h) (a + 1) = a + h then d1 else
      if (decide (0 < a) && !ltInt d1[a - 1]! d1[x]!) = true then pdq ltInt (partitionEqual ltInt d1 a (a + h) x).2 (partitionEqual ltInt d1 a (a + h) x).1 (a + h) l1 wb wp else
      if (partition ltInt d1 a (a + h) x).1 - a < a + h - (partition ltInt d1 a (a + h) x).1 then
        pdq ltInt (pdq ltInt (partition ltInt d1 a (a + h) x).2.2 a (partition ltInt d1 a (a + h) x).1 l1 true true) ((partition ltInt d1 a (a + h) x).1 + 1) (a + h) l1 (decide ((partition ltInt d1 a (a + h) x).1 - a ≥ h / 8)) (partition ltInt d1 a (a + h) x).2.1
      else
        pdq ltInt (pdq ltInt (partition ltInt d1 a (a + h) x).2.2 ((partition ltInt d1 a (a + h) x).1 + 1) (a + h) l1 true true) a (partition ltInt d1 a (a + h) x).1 l1 (decide (a + h - (partition ltInt d1 a (a + h) x).1 ≥ h / 8)) (partition ltInt d1 a (a + h) x).2.1 := by
  have hh : hi ≠ .decreasing := by
    have := piv_hint (d := d1) (a := a) (h := h) (by omega) h50
    rw [hc] at this
    rcases this with e | e <;> (dsimp only at e; rw [e]; decide)
  rw [pdq, if_neg (show ¬ a + h - a ≤ 12 by omega), if_neg hl]
  dsimp only
  rw [hd1, hl1, hc]
  dsimp only
  rw [if_neg hh, if_neg hh, if_neg hh, show a + h - a = h by omega, partial_eq (by omega)]
  have he := parteq_range (p := x) (show a < a + h by omega) hb
  have hp := part_range hx hb
  have hp2 := partition_holds ltInt swo_ltInt d1 a (a + h) x hx.1 hx.2 hb
  by_cases hq : (wb && wp && decide (hi = .increasing)) = true
  · have hq' : ((wb && wp) = true ∧ hi = .increasing) := by simpa [Bool.and_eq_true, and_assoc] using hq
    by_cases hs : scanSorted ltInt d1 (a + h) (a + 1) = a + h
    · simp [hq'.1, hq'.2, hs]
    · simp only [hq'.1, hq'.2, hs]
      simp [he, hp]
  · rw [if_neg hq]
    dsimp only
    rw [if_neg Bool.false_ne_true, if_neg (fun hx2 : (wb && wp && decide (hi = .increasing)) = true ∧ scanSorted ltInt d1 (a + h) (a + 1) = a + h => hq hx2.1)]
    by_cases hr : (decide (0 < a) && !ltInt d1[a - 1]! d1[x]!) = true
    · rw [if_pos hr, if_pos hr]
      simp only [dif_pos he]
    · rw [if_neg hr, if_neg hr]
      simp only [dif_pos hp]
theorem nth_Qg {φ : Prop} (h : φ := by (first | rfl | first | exact un_nth1 (by omega) | exact un_nth0 (by omega))) : φ := h
theorem mid_Qg {φ : Prop} (h : φ := by (first | exact Mid.all | exact Mid.all | exact Mid.head)) : φ := h
theorem sz_Qg {φ : Prop} (h : φ := by (first | rfl | (rfl; first | done | fail))) : φ := h
theorem one_Qg {φ : Prop} (h : φ := by (first | assumption | exact one_bytes _ | (simp only [List.mem_cons, List.not_mem_nil, or_false, forall_eq_or_imp, forall_eq]; decide) | exact one_bytes _ | (intro v hv; (repeat (rcases List.mem_cons.1 hv with rfl | hv; rfl)); cases hv))) : φ := h
theorem set_Qg {φ : Prop} (h : φ := by (first | (fail) | ((repeat (first | exact SetAt.here | apply SetAt.there)); first | done | fail))) : φ := h
theorem cl_Qg {φ : Prop} (h : φ := by first | rfl | exact .t | exact .f | exact .t (by omega) | exact .f (by omega) | exact .u | exact .i (by (first | exact .t (by omega) | exact .f (by omega) | exact .u | exact .i (by omega) | exact .v (by omega) | exact .b (by omega) | exact .w | rfl | omega)) | exact .v (by omega) | exact .b (by omega) | exact .q (by omega) | exact .w | exact .b (by exact at_) rfl (by exact nth_Qg) | exact .w (by exact at_) rfl rfl (by exact sz_Qg) | exact .s (by exact at_) (by exact mid_Qg) rfl rfl (by exact sz_Qg) | exact .z rfl rfl ⟨by kernel_rfl⟩ | exact .b rfl rfl ⟨by kernel_rfl⟩ | exact .a rfl rfl ⟨by kernel_rfl⟩ | exact .o rfl | exact .s | exact .n | exact .p rfl | exact .q rfl | exact .c rfl | exact .d rfl | exact .n rfl rfl (by omega) | exact .a rfl rfl (by omega) | exact .p rfl rfl (by omega) (by omega) | exact .y rfl rfl (by omega) (by omega) | exact .o (by exact at_) (by omega) rfl (by exact nth_Qg) | exact .m (by exact at_) (by omega) (by exact mid_Qg) rfl rfl (by exact sz_Qg) | exact .mlen (by exact at_) rfl | exact .t (by exact at_) rfl rfl (by first | exact True.intro | rfl) (by assumption) | exact .f (by exact at_) rfl rfl (by first | exact True.intro | rfl) (by assumption) rfl | exact .t1 (by exact at_) rfl rfl (by first | exact True.intro | rfl) (by assumption) | exact .f1 (by exact at_) rfl rfl (by first | exact True.intro | rfl) (by assumption) rfl | exact .r rfl rfl (by omega) (by omega) (by exact nth_Qg) rfl | exact .s rfl (by omega) (by assumption) | exact at_ | assumption | exact .r rfl rfl | exact .h rfl rfl rfl (by omega) | exact .l rfl rfl rfl (by omega) (by omega) | exact .g rfl rfl rfl rfl (by omega) (by omega) | exact .h rfl rfl (toN_ (by omega)) (by omega) | exact .l rfl rfl (toN_ (by omega)) (by omega) (by omega) | exact .g rfl rfl (toN_ (by omega)) (toN_ (by omega)) (by omega) (by omega) | exact .o (by decide) | exact .f (by decide) | exact .n (by omega) (by first | decide | (show _ ≤ ((64 : Nat) : Int); omega)) | (constructor; (repeat (first | exact .t (by omega) | exact .f (by omega) | exact .u | exact .i (by omega) | exact .v (by omega) | exact .b (by omega) | exact .w | rfl | omega)); first | done | fail) | omega | (show _ ≤ ((64 : Nat) : Int); omega)) : φ := h
theorem pv_Qg {φ : Prop} (h : φ := by constructor; (repeat exact cl_Qg); first | done | fail) : φ := h
theorem su_Qg {φ ψ : Prop} (k : ψ) (h : Hide ψ → φ := by (intro k; (first | refine sl_pu (PuI.sep (by exact pv_Qg)) rfl ?_ | refine sl_yes rfl rfl ?_ | refine sl_no rfl rfl rfl ?_ | refine sl_off rfl rfl rfl ?_ | (fail)); exact k.out)) : φ := h ⟨k⟩
theorem rq_Qg {φ ψ : Prop} (k : ψ) (h : Hide ψ → φ := by (intro k; (first | refine wq_pu (PuI.sep (by exact pv_Qg)) rfl ?_ | refine wq_yes rfl rfl ?_ | refine wq_no rfl rfl rfl ?_ | refine wq_off rfl rfl rfl ?_ | (fail)); exact k.out)) : φ := h ⟨k⟩
theorem sto_Qg {φ ψ : Prop} (k : ψ) (h : Hide ψ → φ := by (intro k; (first | refine sl_store rfl (by exact pick_) rfl rfl (by kernel_rfl) (by exact set_Qg) ?_ | refine sl_store_whole rfl (by exact pick_) rfl (by exact sz_Qg) (by exact sz_Qg) (by exact one_Qg) ?_); exact k.out)) : φ := h ⟨k⟩
theorem go_Qg {φ ψ : Prop} (k : ψ) (h : Hide ψ → φ := by (intro k; (repeat (first | refine su_Qg ?_ | refine so_ ?_ | refine sto_Qg ?_)); exact k.out)) : φ := h ⟨k⟩
set_option maxRecDepth 100000 in
set_option maxHeartbeats 2000000 in
theorem pdq_ok : ∀ (k : Nat) {K : List Fa} {g n c a b l : Nat} {d : Array Int}, d.size = n → a ≤ b → b ≤ n → n < 50 → l ≤ 64 → b - a ≤ k →
    Fn Try.prog 39 #[.slice (some ⟨g, 0, none⟩) n c, .int .i64 (a : Nat), .int .i64 (b : Nat), .int .i64 (l : Nat)] (uo g n c d :: K) (Ret (fun _ : Unit => True) (fun _ => .tuple #[]) (fun _ => uo g n c (pdq ltInt d a b l true true) :: K)) := by
  intro k
  induction k using Nat.strongRecOn with
  | _ k ih =>
  intro K g n c a b l d hd hab hb hn hl hk
  refine fn_enter Try.func39 rfl _ Try.ntmps39 (by simp) [(0, .slice (some ⟨g, 0, none⟩) n c), (1, .int .i64 (a : Nat)), (2, .int .i64 (b : Nat)), (3, .int .i64 (l : Nat))] (args_of (by simp)) ?_
  generalize hT : pdq ltInt d a b l true true = T
  refine go_Qg ?_
  refine sc_for (α := Nat × Nat × Nat × Bool × Bool × Array Int) (fun p => [(0, .slice (some ⟨g, 0, none⟩) n c), (1, .int .i64 (p.1 : Nat)), (2, .int .i64 ((p.1 + p.2.1) : Nat)), (3, .int .i64 (p.2.2.1 : Nat)), (8, .bool p.2.2.2.1), (9, .bool p.2.2.2.2.1)]) (fun p => uo g n c p.2.2.2.2.2 :: K) (fun p => p.2.2.2.2.2.size = n ∧ p.2.1 ≤ n ∧ p.2.1 ≤ p.1 + p.2.1 ∧ p.1 + p.2.1 ≤ n ∧ p.2.1 ≤ k ∧ p.2.2.1 ≤ 64 ∧ pdq ltInt p.2.2.2.2.2 p.1 (p.1 + p.2.1) p.2.2.1 p.2.2.2.1 p.2.2.2.2.1 = T) (fun p => p.2.1) (a, b - a, l, true, true, d) (by dsimp only; rw [show a + (b - a) = b by omega]; exact has_) (by exact sub_) ⟨hd, by dsimp only; omega, by dsimp only; omega, by dsimp only; omega, hk, hl, by dsimp only; rw [show a + (b - a) = b by omega]; exact hT⟩ ?_
  clear hT hd hab hb hl hk
  rintro ⟨a, h, l, wb, wp, e⟩ ⟨hes, -, -, hb, hk, hl, hT⟩
  dsimp only at hes hb hk hl hT ⊢
  by_cases h12 : h ≤ 12
  · rw [pdq, if_pos (by omega)] at hT
    subst hT
    refine go_Qg ?_
    refine sl_call rfl rfl (by kernel_rfl) rfl (by exact sub_) (insSort_ok hes (by omega) hb (by omega)) ?_; rintro _ -
    refine go_Qg ?_
    exact se_ret0 () trivial rfl rfl (by exact sub_)
  by_cases hl0 : l = 0
  · subst hl0
    rw [pdq, if_neg (by omega), if_pos rfl] at hT
    subst hT
    refine go_Qg ?_
    refine sl_call rfl rfl (by kernel_rfl) rfl (by exact sub_) (heap_ok hes hb (by omega) (by omega)) ?_; rintro _ -
    refine go_Qg ?_
    exact se_ret0 () trivial rfl rfl (by exact sub_)
  refine go_Qg ?_
  refine sc_join (α := Nat × Array Int) (fun q => (10, .int .i64 (h : Nat)) :: [(0, .slice (some ⟨g, 0, none⟩) n c), (1, .int .i64 (a : Nat)), (2, .int .i64 ((a + h) : Nat)), (3, .int .i64 (q.1 : Nat)), (8, .bool wb), (9, .bool wp)]) (fun q => uo g n c q.2 :: K) (fun q => (if (!wb) = true then breakPatterns e a (a + h) else e) = q.2 ∧ (if (!wb) = true then l - 1 else l) = q.1 ∧ q.2.size = n) ?_ ?_
  · rw [show (((a + h : Nat) : Int) - a) = (h : Int) by omega]
    cases wb with
    | true =>
      refine go_Qg ?_
      exact se_mid (l, e) (by exact has_) (by exact sub_) ⟨rfl, rfl, hes⟩
    | false =>
      refine go_Qg ?_
      refine sl_call rfl rfl (by kernel_rfl) rfl (by exact sub_) (brk_ok hes hb (by omega) (by omega) (by omega)) ?_; rintro _ -
      refine sl_know uo_size ?_
      intro hbs
      refine go_Qg ?_
      rw [show ((l : Int) - 1) = ((l - 1 : Nat) : Int) by omega]
      exact se_mid (l - 1, breakPatterns e a (a + h)) (by exact has_) (by exact sub_) ⟨rfl, rfl, hbs⟩
  rintro ⟨l1, e1⟩ ⟨he1, hl1, hes1⟩
  dsimp only at he1 hl1 hes1 ⊢
  have hl1' : l1 ≤ 64 := by rw [← hl1]; split <;> omega
  obtain ⟨⟨x, hi⟩, hc⟩ : ∃ c, choosePivot ltInt e1 a (a + h) = c := ⟨_, rfl⟩
  have hx := choosePivot_holds ltInt e1 a (a + h) (by omega)
  rw [hc] at hx
  dsimp only at hx
  have hh := piv_hint (d := e1) (a := a) (h := h) (by omega) (by omega)
  rw [hc] at hh
  dsimp only at hh
  rw [pdq_round (by omega) (by omega) hl0 (by omega) he1 hl1 hc hx] at hT
  clear he1 hl1 hl0 hes hl
  refine go_Qg ?_
  refine sl_call rfl rfl (by kernel_rfl) rfl (by exact sub_) (piv_ok hes1 hb (by omega) (by omega) (by omega)) ?_; rintro _ -
  rw [hc]
  dsimp only
  repeat (first | refine su_Qg ?_ | refine sor_q ?_)
  refine sc_join (α := Unit) (fun _ => (10, .int .i64 (h : Nat)) :: (11, .int .i64 (x : Nat)) :: (12, .int .i64 (hintV hi)) :: (50, .bool false) :: [(0, .slice (some ⟨g, 0, none⟩) n c), (1, .int .i64 (a : Nat)), (2, .int .i64 ((a + h) : Nat)), (3, .int .i64 (l1 : Nat)), (8, .bool wb), (9, .bool wp)]) (fun _ => uo g n c e1 :: K) (fun _ => True) ?_ ?_
  · rcases hh with rfl | rfl
    · rw [show hintV .increasing = 1 from rfl]
      refine go_Qg ?_
      exact se_mid () (by exact has_) (by exact sub_) trivial
    · rw [show hintV .unknown = 0 from rfl]
      refine go_Qg ?_
      exact se_mid () (by exact has_) (by exact sub_) trivial
  rintro _ -
  repeat (first | refine su_Qg ?_ | refine sor_q ?_)
  refine sc_join (α := Unit) (fun _ => (10, .int .i64 (h : Nat)) :: (11, .int .i64 (x : Nat)) :: (68, .bool (wb && wp && decide (hi = .increasing))) :: [(0, .slice (some ⟨g, 0, none⟩) n c), (1, .int .i64 (a : Nat)), (2, .int .i64 ((a + h) : Nat)), (3, .int .i64 (l1 : Nat)), (8, .bool wb), (9, .bool wp)]) (fun _ => uo g n c e1 :: K) (fun _ => True) ?_ ?_
  · rcases hh with rfl | rfl <;> cases wb <;> cases wp
    all_goals
      simp only [hintV]
      refine go_Qg ?_
      exact se_mid () (by exact has_) (by exact sub_) trivial
  rintro _ -
  clear hh
  generalize hq : (wb && wp && decide (hi = .increasing)) = q at hT ⊢
  refine sc_join (α := Unit) (fun _ => (10, .int .i64 (h : Nat)) :: (11, .int .i64 (x : Nat)) :: [(0, .slice (some ⟨g, 0, none⟩) n c), (1, .int .i64 (a : Nat)), (2, .int .i64 ((a + h) : Nat)), (3, .int .i64 (l1 : Nat)), (8, .bool wb), (9, .bool wp)]) (fun _ => uo g n c e1 :: K) (fun _ => ¬ (q = true ∧ scanSorted ltInt e1 (a + h) (a + 1) = a + h)) ?_ ?_
  · cases q with
    | false =>
      refine go_Qg ?_
      exact se_mid () (by exact has_) (by exact sub_) (by simp)
    | true =>
      refine go_Qg ?_
      refine sl_call rfl rfl (by kernel_rfl) rfl (by exact sub_) (partial_ok hes1 (by omega) hb (by omega) (by omega)) ?_; rintro _ -
      by_cases hs : scanSorted ltInt e1 (a + h) (a + 1) = a + h
      · rw [decide_eq_true hs]
        rw [if_pos ⟨rfl, hs⟩] at hT
        subst hT
        refine go_Qg ?_
        exact se_ret0 () trivial rfl rfl (by exact sub_)
      · rw [decide_eq_false hs]
        refine go_Qg ?_
        exact se_mid () (by exact has_) (by exact sub_) (fun hx2 => hs hx2.2)
  rintro _ hns
  rw [if_neg hns] at hT
  clear hns hq
  refine go_Qg ?_
  refine sc_join (α := Unit) (fun _ => (10, .int .i64 (h : Nat)) :: (11, .int .i64 (x : Nat)) :: (87, .bool (decide (0 < a) && !ltInt e1[a - 1]! e1[x]!)) :: [(0, .slice (some ⟨g, 0, none⟩) n c), (1, .int .i64 (a : Nat)), (2, .int .i64 ((a + h) : Nat)), (3, .int .i64 (l1 : Nat)), (8, .bool wb), (9, .bool wp)]) (fun _ => uo g n c e1 :: K) (fun _ => True) ?_ ?_
  · by_cases ha : 0 < a
    · rw [decide_eq_true ha]
      cases hl2 : ltInt e1[a - 1]! e1[x]! with
      | true =>
        refine sq_region (by kernel_rfl) (by kernel_rfl) ?_
        repeat refine rq_Qg ?_
        refine WQ_call rfl rfl (by kernel_rfl) rfl (less_ok (lt_k (by omega) (by omega) hl2)) ?_
        repeat refine rq_Qg ?_
        refine sq_end ?_
        refine go_Qg ?_
        exact se_mid () (by exact has_) (by exact sub_) trivial
      | false =>
        refine sq_region (by kernel_rfl) (by kernel_rfl) ?_
        repeat refine rq_Qg ?_
        refine WQ_call rfl rfl (by kernel_rfl) rfl (less_ok (lt_k (by omega) (by omega) hl2)) ?_
        repeat refine rq_Qg ?_
        refine sq_end ?_
        refine go_Qg ?_
        exact se_mid () (by exact has_) (by exact sub_) trivial
    · rw [decide_eq_false ha, Bool.false_and]
      refine sq_region (by kernel_rfl) (by kernel_rfl) ?_
      repeat refine rq_Qg ?_
      refine sq_end ?_
      refine go_Qg ?_
      exact se_mid () (by exact has_) (by exact sub_) trivial
  rintro _ -
  generalize hr : (decide (0 < a) && !ltInt e1[a - 1]! e1[x]!) = r at hT ⊢
  clear hr
  cases r with
  | true =>
    rw [if_pos rfl] at hT
    have hrg := parteq_range (d := e1) (a := a) (b := a + h) (p := x) (by omega) (by omega)
    refine go_Qg ?_
    refine sl_call rfl rfl (by kernel_rfl) rfl (by exact sub_) (parteq_ok hes1 (by omega) hb hx (by omega)) ?_; rintro _ -
    refine sl_know uo_size ?_
    generalize partitionEqual ltInt e1 a (a + h) x = r at hT hrg ⊢
    obtain ⟨m, e2⟩ := r
    dsimp only at hT hrg ⊢
    intro hes2
    refine go_Qg ?_
    exact se_round (m, a + h - m, l1, wb, wp, e2) (by dsimp only; rw [show m + (a + h - m) = a + h by omega]; exact has_) (by exact sub_) ⟨hes2, by dsimp only; omega, by dsimp only; omega, by dsimp only; omega, by dsimp only; omega, hl1', by dsimp only; rw [show m + (a + h - m) = a + h by omega]; exact hT⟩ (by dsimp only; omega)
  | false =>
    rw [if_neg (by decide)] at hT
    have hrg := part_range (d := e1) (a := a) (b := a + h) (p := x) hx (by omega)
    refine go_Qg ?_
    refine sl_call rfl rfl (by kernel_rfl) rfl (by exact sub_) (part_ok hes1 (by omega) hb hx (by omega)) ?_; rintro _ -
    refine sl_know uo_size ?_
    generalize partition ltInt e1 a (a + h) x = r at hT hrg ⊢
    obtain ⟨m, ap, e2⟩ := r
    dsimp only at hT hrg ⊢
    intro hes2
    by_cases hm : m - a < a + h - m
    · rw [if_pos hm] at hT
      by_cases h8 : m - a ≥ h / 8
      · rw [decide_eq_true h8] at hT
        refine go_Qg ?_
        refine sl_call rfl rfl (by kernel_rfl) rfl (by exact sub_) (ih (m - a) (by omega) (l := l1) hes2 hrg.1 (by omega) hn hl1' (Nat.le_refl _)) ?_; rintro _ -
        refine sl_know uo_size ?_
        intro hes3
        refine go_Qg ?_
        rw [show ((m : Int) + 1) = ((m + 1 : Nat) : Int) by omega]
        exact se_round (m + 1, a + h - (m + 1), l1, true, ap, pdq ltInt e2 a m l1 true true) (by dsimp only; rw [show m + 1 + (a + h - (m + 1)) = a + h by omega]; exact has_) (by exact sub_) ⟨hes3, by dsimp only; omega, by dsimp only; omega, by dsimp only; omega, by dsimp only; omega, hl1', by dsimp only; rw [show m + 1 + (a + h - (m + 1)) = a + h by omega]; exact hT⟩ (by dsimp only; omega)
      · rw [decide_eq_false h8] at hT
        refine go_Qg ?_
        refine sl_call rfl rfl (by kernel_rfl) rfl (by exact sub_) (ih (m - a) (by omega) (l := l1) hes2 hrg.1 (by omega) hn hl1' (Nat.le_refl _)) ?_; rintro _ -
        refine sl_know uo_size ?_
        intro hes3
        refine go_Qg ?_
        rw [show ((m : Int) + 1) = ((m + 1 : Nat) : Int) by omega]
        exact se_round (m + 1, a + h - (m + 1), l1, false, ap, pdq ltInt e2 a m l1 true true) (by dsimp only; rw [show m + 1 + (a + h - (m + 1)) = a + h by omega]; exact has_) (by exact sub_) ⟨hes3, by dsimp only; omega, by dsimp only; omega, by dsimp only; omega, by dsimp only; omega, hl1', by dsimp only; rw [show m + 1 + (a + h - (m + 1)) = a + h by omega]; exact hT⟩ (by dsimp only; omega)
    · rw [if_neg hm] at hT
      by_cases h8 : a + h - m ≥ h / 8
      · rw [decide_eq_true h8] at hT
        refine go_Qg ?_
        rw [show ((m : Int) + 1) = ((m + 1 : Nat) : Int) by omega]
        refine sl_call rfl rfl (by kernel_rfl) rfl (by exact sub_) (ih (a + h - (m + 1)) (by omega) (l := l1) hes2 (by omega) hb hn hl1' (Nat.le_refl _)) ?_; rintro _ -
        refine sl_know uo_size ?_
        intro hes3
        refine go_Qg ?_
        exact se_round (a, m - a, l1, true, ap, pdq ltInt e2 (m + 1) (a + h) l1 true true) (by dsimp only; rw [show a + (m - a) = m by omega]; exact has_) (by exact sub_) ⟨hes3, by dsimp only; omega, by dsimp only; omega, by dsimp only; omega, by dsimp only; omega, hl1', by dsimp only; rw [show a + (m - a) = m by omega]; exact hT⟩ (by dsimp only; omega)
      · rw [decide_eq_false h8] at hT
        refine go_Qg ?_
        rw [show ((m : Int) + 1) = ((m + 1 : Nat) : Int) by omega]
        refine sl_call rfl rfl (by kernel_rfl) rfl (by exact sub_) (ih (a + h - (m + 1)) (by omega) (l := l1) hes2 (by omega) hb hn hl1' (Nat.le_refl _)) ?_; rintro _ -
        refine sl_know uo_size ?_
        intro hes3
        refine go_Qg ?_
        exact se_round (a, m - a, l1, false, ap, pdq ltInt e2 (m + 1) (a + h) l1 true true) (by dsimp only; rw [show a + (m - a) = m by omega]; exact has_) (by exact sub_) ⟨hes3, by dsimp only; omega, by dsimp only; omega, by dsimp only; omega, by dsimp only; omega, hl1', by dsimp only; rw [show a + (m - a) = m by omega]; exact hT⟩ (by dsimp only; omega)
set_option maxRecDepth 100000 in
set_option maxHeartbeats 2000000 in
theorem bl_64 : ∀ h, h < 50 → Lib.bitLen h = bitsLen h ∧ bitsLen h ≤ 6 := fun h h5 => ⟨(bl_50 h h5).1, (bl_50 h h5).2.1⟩
set_option maxRecDepth 100000 in
set_option maxHeartbeats 2000000 in
theorem sort64_ok {K : List Fa} {g n c : Nat} {d : Array Int} (hd : d.size = n) (hn : n < 50) :
    Fn Try.prog 28 #[.slice (some ⟨g, 0, none⟩) n c] (uo g n c d :: K) (Ret (fun _ : Unit => True) (fun _ => .tuple #[]) (fun _ => uo g n c (Go.Sort.sort ltInt d) :: K)) := by
  refine fn_enter Try.func28 rfl _ Try.ntmps28 (by simp) [(0, .slice (some ⟨g, 0, none⟩) n c)] (args_of (by simp)) ?_
  obtain ⟨e1, e2⟩ := bl_64 n hn
  have e0 : Go.Sort.sort ltInt d = pdq ltInt d 0 n (bitsLen n) true true := by unfold Go.Sort.sort; rw [hd]
  rw [e0]
  refine go_Qg ?_
  refine sl_call rfl rfl (by kernel_rfl) rfl (by exact sub_) (fn_eq (len_c _ (by omega) (by omega))) ?_; rintro _ -
  rw [Int.toNat_natCast, e1]
  refine go_Qg ?_
  refine sl_call rfl rfl (by kernel_rfl) rfl (by exact sub_) (pdq_ok n (a := 0) (l := bitsLen n) hd (Nat.zero_le _) (Nat.le_refl _) hn (by omega) (by omega)) ?_; rintro _ -
  refine go_Qg ?_
  exact se_end0 () trivial rfl rfl (by exact sub_)
end Go.Proofs.Ytdmeofobljjpfaa
/- Package bucket: List. -/
namespace Go.Proofs.Ytdmeofobljjpfaa
open Go.RowKit Go.MapKept
attribute [local irreducible] Go.Calls Go.Exit.then Go.Exit.inBlock Go.bodyPost Go.Code.wp Go.wpList
attribute [local irreducible] hashL ofId
/-- What a bucket is, wherever its sum lies. -/
def BK.core (b : BK) : Int × List Int × Int × Id × Bool := (b.st, b.l, b.m, b.k, b.cl)
theorem bfind_eq {fs : List BK} (hk : fs.Pairwise (fun a b => a.st ≠ b.st)) {b : BK} (hb : b ∈ fs) : bfind fs b.st = some b := by
  cases h : bfind fs b.st with
  | none => exact absurd rfl (bfind_none h b hb)
  | some c =>
    obtain ⟨h1, h2⟩ := bfind_some h
    rw [pw_one (f := BK.st) hk h1 hb h2]
theorem strip_some {q fs : List BK} (h : (q.map (fun b => some b.core)).Perm (fs.map (fun b => some b.core))) : (q.map BK.core).Perm (fs.map BK.core) := by
  have h1 := h.filterMap id
  rw [List.filterMap_map, List.filterMap_map] at h1
  have e : ∀ l : List BK, l.filterMap (id ∘ fun b => some b.core) = l.map BK.core := fun l => by
    rw [← List.filterMap_eq_map]
    rfl
  rwa [e, e] at h1
theorem list20 {cs : List Value} (h : cs.length = 20) : ∃ a0 a1 a2 a3 a4 a5 a6 a7 a8 a9 a10 a11 a12 a13 a14 a15 a16 a17 a18 a19, cs = [a0, a1, a2, a3, a4, a5, a6, a7, a8, a9, a10, a11, a12, a13, a14, a15, a16, a17, a18, a19] := by
  match cs, h with
  | [a0, a1, a2, a3, a4, a5, a6, a7, a8, a9, a10, a11, a12, a13, a14, a15, a16, a17, a18, a19], _ => exact ⟨a0, a1, a2, a3, a4, a5, a6, a7, a8, a9, a10, a11, a12, a13, a14, a15, a16, a17, a18, a19, rfl⟩
theorem build_b20 (a0 a1 a2 a3 a4 a5 a6 a7 a8 a9 a10 a11 a12 a13 a14 a15 a16 a17 a18 a19 : Value) (W : World) : (Instr.buildSlice 67 1 #[(0, .agg #[a0, a1, a2, a3, a4, a5, a6, a7, a8, a9, a10, a11, a12, a13, a14, a15, a16, a17, a18, a19])]).run Try.prog W = .ok (.slice (some ⟨W.heap.size, 0, none⟩) 1 1) (W.alloc (.cells #[a0, a1, a2, a3, a4, a5, a6, a7, a8, a9, a10, a11, a12, a13, a14, a15, a16, a17, a18, a19] 60)) := by kernel_rfl
theorem build_bk {cs : List Value} (h : cs.length = 20) (W : World) : (Instr.buildSlice 67 1 #[(0, .agg cs.toArray)]).run Try.prog W = .ok (.slice (some ⟨W.heap.size, 0, none⟩) 1 1) (W.alloc (.cells cs.toArray 60)) := by
  obtain ⟨a0, a1, a2, a3, a4, a5, a6, a7, a8, a9, a10, a11, a12, a13, a14, a15, a16, a17, a18, a19, h⟩ := list20 h
  rw [h]
  exact build_b20 a0 a1 a2 a3 a4 a5 a6 a7 a8 a9 a10 a11 a12 a13 a14 a15 a16 a17 a18 a19 W
theorem infoBk : (Try.prog.info? 60).map (fun i => (i.zero, i.size, i.bytes)) = some (some (.agg bzL.toArray), 20, 64) := by kernel_rfl
theorem infoU : (Try.prog.info? 22).map (fun i => (i.zero, i.size, i.bytes)) = some (some (.int .u64 0), 1, 8) := by kernel_rfl
theorem nums_one {k : IntKind} (xs : List Int) : ∀ v ∈ nums k xs, v.oneCell' = true := by
  intro v hv
  obtain ⟨x, _, rfl⟩ := List.mem_map.1 hv
  rfl
theorem nums_app {k : IntKind} (a b : List Int) : nums k a ++ nums k b = nums k (a ++ b) := by simp [nums]
theorem sorted64 (zs : List Int) : (Go.Sort.sort Go.Sort.ltInt zs.toArray).toList = zs.mergeSort (fun x y => decide (x ≤ y)) := Go.Sort.sortInt zs
theorem ms_perm (zs : List Int) : (zs.mergeSort (fun x y => decide (x ≤ y))).Perm zs := List.mergeSort_perm ..
theorem ms_sorted (zs : List Int) : (zs.mergeSort (fun x y => decide (x ≤ y))).Pairwise (· ≤ ·) := by
  have h := List.pairwise_mergeSort (le := fun x y : Int => decide (x ≤ y)) (fun a b c h1 h2 => by simp only [decide_eq_true_eq] at *; omega) (fun a b => by simp only [Bool.or_eq_true, decide_eq_true_eq]; omega) zs
  exact h.imp (fun {a b} h => by simpa using h)
theorem strict_of {zs : List Int} (h : zs.Pairwise (· ≤ ·)) (hn : zs.Nodup) : zs.Pairwise (· < ·) := by
  have := h.and hn
  exact this.imp (fun {a b} ⟨h1, h2⟩ => by omega)
theorem nth_Gn {φ : Prop} (h : φ := by (first | rfl | first | exact bkC_n0 | exact bkC_n1 | exact bkC_n2 | exact bkC_n19' | exact tc_n0 | exact tc_n1 | assumption)) : φ := h
theorem mid_Gn {φ : Prop} (h : φ := by (first | first | exact boC_mt | exact boC_mr | exact bkC_mid | exact Ta.mid _ | exact tc_mid | exact Mid.all | exact Mid.all | exact Mid.head)) : φ := h
theorem sz_Gn {φ : Prop} (h : φ := by (first | rfl | ((try simp only [bkC_len tc_len, tc_len, BK.len, bytes_length, Id.len]); (first | done | rfl); first | done | fail))) : φ := h
theorem one_Gn {φ : Prop} (h : φ := by (first | assumption | exact first | exact BK.one _ | exact bkC_one tc_one | exact tc_one | exact Ta.one _ | exact Rl.one _ | exact one_bytes _ | (simp only [List.mem_cons, List.not_mem_nil, or_false, forall_eq_or_imp, forall_eq]; decide) | exact one_bytes _ | (intro v hv; (repeat (rcases List.mem_cons.1 hv with rfl | hv; rfl)); cases hv))) : φ := h
theorem set_Gn {φ : Prop} (h : φ := by (first | (first | exact tc_set0 | exact bkC_set19 tc_len) | ((repeat (first | exact SetAt.here | apply SetAt.there)); first | done | fail))) : φ := h
theorem cl_Gn {φ : Prop} (h : φ := by first | rfl | exact .t | exact .f | exact .t (by omega) | exact .f (by omega) | exact .u | exact .i (by (first | exact .t (by omega) | exact .f (by omega) | exact .u | exact .i (by omega) | exact .v (by omega) | exact .b (by omega) | exact .w | rfl | omega)) | exact .v (by omega) | exact .b (by omega) | exact .q (by omega) | exact .w | exact .b (by exact at_) rfl (by exact nth_Gn) | exact .w (by exact at_) rfl rfl (by exact sz_Gn) | exact .s (by exact at_) (by exact mid_Gn) rfl rfl (by exact sz_Gn) | exact .z rfl rfl ⟨by kernel_rfl⟩ | exact .b rfl rfl ⟨by kernel_rfl⟩ | exact .a rfl rfl ⟨by kernel_rfl⟩ | exact .o rfl | exact .s | exact .n | exact .p rfl | exact .q rfl | exact .c rfl | exact .d rfl | exact .n rfl rfl (by omega) | exact .a rfl rfl (by omega) | exact .p rfl rfl (by omega) (by omega) | exact .y rfl rfl (by omega) (by omega) | exact .o (by exact at_) (by omega) rfl (by exact nth_Gn) | exact .m (by exact at_) (by omega) (by exact mid_Gn) rfl rfl (by exact sz_Gn) | exact .mlen (by exact at_) rfl | exact .t (by exact at_) rfl rfl (by first | exact True.intro | rfl) (by assumption) | exact .f (by exact at_) rfl rfl (by first | exact True.intro | rfl) (by assumption) rfl | exact .t1 (by exact at_) rfl rfl (by first | exact True.intro | rfl) (by assumption) | exact .f1 (by exact at_) rfl rfl (by first | exact True.intro | rfl) (by assumption) rfl | exact .r rfl rfl (by omega) (by omega) (by exact nth_Gn) rfl | exact .s rfl (by omega) (by assumption) | exact at_ | assumption | exact .r rfl rfl | exact .h rfl rfl rfl (by omega) | exact .l rfl rfl rfl (by omega) (by omega) | exact .g rfl rfl rfl rfl (by omega) (by omega) | exact .h rfl rfl (toN_ (by omega)) (by omega) | exact .l rfl rfl (toN_ (by omega)) (by omega) (by omega) | exact .g rfl rfl (toN_ (by omega)) (toN_ (by omega)) (by omega) (by omega) | exact .o (by decide) | exact .f (by decide) | exact .n (by omega) (by first | decide | (show _ ≤ ((64 : Nat) : Int); omega)) | (constructor; (repeat (first | exact .t (by omega) | exact .f (by omega) | exact .u | exact .i (by omega) | exact .v (by omega) | exact .b (by omega) | exact .w | rfl | omega)); first | done | fail) | omega | (show _ ≤ ((64 : Nat) : Int); omega)) : φ := h
theorem pv_Gn {φ : Prop} (h : φ := by constructor; (repeat exact cl_Gn); first | done | fail) : φ := h
theorem su_Gn {φ ψ : Prop} (k : ψ) (h : Hide ψ → φ := by (intro k; (first | refine sl_pu (PuI.sep (by exact pv_Gn)) rfl ?_ | refine sl_yes rfl rfl ?_ | refine sl_no rfl rfl rfl ?_ | refine sl_off rfl rfl rfl ?_ | (fail)); exact k.out)) : φ := h ⟨k⟩
theorem rq_Gn {φ ψ : Prop} (k : ψ) (h : Hide ψ → φ := by (intro k; (first | refine wq_pu (PuI.sep (by exact pv_Gn)) rfl ?_ | refine wq_yes rfl rfl ?_ | refine wq_no rfl rfl rfl ?_ | refine wq_off rfl rfl rfl ?_ | (fail)); exact k.out)) : φ := h ⟨k⟩
theorem sto_Gn {φ ψ : Prop} (k : ψ) (h : Hide ψ → φ := by (intro k; (first | refine sl_store rfl (by exact pick_) rfl rfl (by kernel_rfl) (by exact set_Gn) ?_ | refine sl_store_whole rfl (by exact pick_) rfl (by exact sz_Gn) (by exact sz_Gn) (by exact one_Gn) ?_); exact k.out)) : φ := h ⟨k⟩
theorem go_Gn {φ ψ : Prop} (k : ψ) (h : Hide ψ → φ := by (intro k; (repeat (first | refine su_Gn ?_ | refine so_ ?_ | refine sto_Gn ?_)); exact k.out)) : φ := h ⟨k⟩
set_option maxRecDepth 100000 in
theorem ins_nil {K : List Fa} : Fn Try.prog 45 #[.slice none 0 0, .int .i64 0, .int .i64 0] K (Ret (fun _ : Unit => True) (fun _ => .tuple #[]) (fun _ => K)) := by
  refine fn_enter Try.func45 rfl _ Try.ntmps45 (by simp) [(0, .slice none 0 0), (1, .int .i64 0), (2, .int .i64 0)] (args_of (by simp)) ?_
  refine go_Gn ?_
  refine sc_for (α := Unit) (fun _ => [(2, .int .i64 0), (6, .int .i64 1)]) (fun _ => K) (fun _ => True) (fun _ => 0) () (by exact has_) (by exact sub_) trivial ?_
  rintro _ -
  refine go_Gn ?_
  exact se_end0 () trivial rfl rfl (by exact sub_)
set_option maxRecDepth 100000 in
theorem pdq_nil {K : List Fa} : Fn Try.prog 39 #[.slice none 0 0, .int .i64 0, .int .i64 0, .int .i64 0] K (Ret (fun _ : Unit => True) (fun _ => .tuple #[]) (fun _ => K)) := by
  refine fn_enter Try.func39 rfl _ Try.ntmps39 (by simp) [(0, .slice none 0 0), (1, .int .i64 0), (2, .int .i64 0), (3, .int .i64 0)] (args_of (by simp)) ?_
  refine go_Gn ?_
  refine sc_for (α := Unit) (fun _ => [(0, .slice none 0 0), (1, .int .i64 0), (2, .int .i64 0)]) (fun _ => K) (fun _ => True) (fun _ => 0) () (by exact has_) (by exact sub_) trivial ?_
  rintro _ -
  refine go_Gn ?_
  refine sl_call rfl rfl (by kernel_rfl) rfl (by exact sub_) ins_nil ?_; rintro _ -
  refine go_Gn ?_
  exact se_ret0 () trivial rfl rfl (by exact sub_)
set_option maxRecDepth 100000 in
theorem sort64_nil {K : List Fa} : Fn Try.prog 28 #[.slice none 0 0] K (Ret (fun _ : Unit => True) (fun _ => .tuple #[]) (fun _ => K)) := by
  refine fn_enter Try.func28 rfl _ Try.ntmps28 (by simp) [(0, .slice none 0 0)] (args_of (by simp)) ?_
  refine go_Gn ?_
  refine sl_call rfl rfl (by kernel_rfl) rfl (by exact sub_) (fn_eq (len_c 0 (by decide) (by decide))) ?_; rintro _ -
  rw [show ((Lib.bitLen (0 : Int).toNat : Nat) : Int) = 0 from rfl]
  refine go_Gn ?_
  refine sl_call rfl rfl (by kernel_rfl) rfl (by exact sub_) pdq_nil ?_; rintro _ -
  refine go_Gn ?_
  exact se_end0 () trivial rfl rfl (by exact sub_)
set_option maxRecDepth 100000 in
set_option maxHeartbeats 4000000 in
theorem list_ok {K : List Fa} {g m ck : Nat} {t : Ta} {r : Rl} {fs : List BK} (hB : At (bB g t r m) K) (hM : At (bM m fs ck) K) (hS : At (bS fs) K) (hn : fs.length < 50) (hl : ∀ b ∈ fs, b.l.length ≤ 1000000) :
    Fn Try.prog 18 #[.pointer (some ⟨g, 0, none⟩)] K (Ret (fun q : Option Addr × Nat × List BK => (q.2.2.map BK.core).Perm (fs.map BK.core) ∧ q.2.2.Pairwise (fun a b => a.st < b.st)) (fun q => .slice q.1 q.2.2.length q.2.1) (fun q => own 60 20 q.1 q.2.2.length q.2.1 (rows BK.cells q.2.2) :: bS q.2.2 :: K)) := by
  refine fn_know (kM_nodup (M := BM) hM) ?_
  rintro ⟨hnd, hks⟩
  have hks' : fs.Pairwise (fun a b => a.st ≠ b.st) := hks.imp (fun {a b} h e => h (by show Value.int .u64 a.st = .int .u64 b.st; rw [e]))
  refine fn_enter Try.func18 rfl _ Try.ntmps18 (by simp) [(0, .pointer (some ⟨g, 0, none⟩))] (args_of (by simp)) ?_
  refine go_Gn ?_
  refine sl_range rfl (by exact at_) rfl rfl ?_
  intro r
  refine go_Gn ?_
  refine sc_bjoin (α := List BK × Option Addr × Nat) (fun q => [(0, .pointer (some ⟨g, 0, none⟩)), (3, .slice q.2.1 q.1.length q.2.2)]) (fun q => own 22 1 q.2.1 q.1.length q.2.2 (nums .u64 (q.1.map BK.st)) :: K) (fun q => q.1.Perm fs ∧ (q.1 = [] → q.2.1 = none ∧ q.2.2 = 0)) ?_ ?_
  · refine sc_for (α := List BK × Option Addr × Nat) (fun q => [(0, .pointer (some ⟨g, 0, none⟩)), (3, .slice q.2.1 q.1.length q.2.2), (16, .pointer (some ⟨r, 0, none⟩))]) (fun q => own 22 1 q.2.1 q.1.length q.2.2 (nums .u64 (q.1.map BK.st)) :: itr r m ck (q.1.map BM.ent) :: K) (fun q => q.1.Nodup ∧ (∀ u ∈ q.1, u ∈ fs) ∧ (q.1 = [] → q.2.1 = none ∧ q.2.2 = 0)) (fun q => fs.length - q.1.length) ([], none, 0) (by exact has_) (Sub.own_nil (by exact sub_)) ⟨List.nodup_nil, (fun _ h => by cases h), fun _ => ⟨rfl, rfl⟩⟩ ?_
    rintro ⟨us, A, c⟩ ⟨hun, hus, hu0⟩
    dsimp only at hun hus hu0 ⊢
    refine sc_seq ?_
    refine sc_region ?_
    refine sl_next rfl (by exact at_) (.there .here) (fun y hy => by obtain ⟨u, hu, rfl⟩ := List.mem_map.1 hy; exact List.mem_map_of_mem (hus u hu)) rfl (fun hall => ?_) (fun y hy hn2 => ?_)
    · have hp : us.Perm fs := (List.perm_ext_iff_of_nodup hun hnd).2 fun x => ⟨hus x, fun hx => by
        obtain ⟨u, hu, he⟩ := List.mem_map.1 (hall _ (List.mem_map_of_mem hx))
        rwa [← kent_inj (M := BM) hks (hus u hu) hx he]⟩
      refine go_Gn ?_
      exact se_mid (us, A, c) (by exact has_) (by exact sub_) ⟨hp, hu0⟩
    · obtain ⟨f, hf, rfl⟩ := List.mem_map.1 hy
      have hfu : f ∉ us := fun h => hn2 (List.mem_map_of_mem h)
      have hnd' : (us ++ [f]).Nodup := List.nodup_append.2 ⟨hun, List.nodup_cons.2 ⟨by simp, List.nodup_nil⟩, fun a ha b hb e => by rw [List.mem_singleton] at hb; exact hfu (by rw [← hb, ← e]; exact ha)⟩
      have hsub : ∀ u ∈ us ++ [f], u ∈ fs := fun u h => by
        rcases List.mem_append.1 h with h | h
        · exact hus u h
        · rw [List.mem_singleton] at h
          rw [h]
          exact hf
      obtain ⟨z, hz⟩ := sub_splitK hnd' hnd hsub
      have hlen := hz.length_eq
      rw [List.length_append, List.length_append, List.length_singleton] at hlen
      have hm : us.map BM.ent ++ [BM.ent f] = (us ++ [f]).map BM.ent := by simp
      have hv : (BM.ent f).key = .int .u64 f.st := rfl
      refine go_Gn ?_
      rw [hv, hm]
      refine go_Gn ?_
      refine sl_build (size := 1) (e := 22) (cells := nums .u64 [f.st]) rfl (fun W => by kernel_rfl) rfl (by decide) rfl ?_
      intro gb
      refine sl_app rfl (by exact pick_) rfl (Vw.of_own (A := some ⟨gb, 0, none⟩) (c := 1) (e := 22) (by exact at_)) (nums_one _) rfl infoU (by decide) (by decide) rfl (by unfold maxLen; omega) (by omega) ?_
      intro A2 c2
      rw [nums_app, show us.map BK.st ++ [f.st] = (us ++ [f]).map BK.st by simp, show us.length + 1 = (us ++ [f]).length by simp]
      refine go_Gn ?_
      exact se_round (us ++ [f], A2, c2) (by exact has_) (by exact sub_) ⟨hnd', hsub, fun h => by simp at h⟩ (by dsimp only; rw [List.length_append, List.length_singleton]; omega)
  rintro ⟨us, A, c⟩ ⟨hp, hu0⟩
  dsimp only at hp hu0 ⊢
  have hul : us.length < 50 := by rw [hp.length_eq]; exact hn
  refine sc_mid (α := List Int) (fun _ => [(0, .pointer (some ⟨g, 0, none⟩)), (3, .slice A us.length c)]) (fun zs => own 22 1 A us.length c (nums .u64 zs) :: K) (fun zs => zs = (us.map BK.st).mergeSort (fun x y => decide (x ≤ y))) ?_ ?_
  · rcases us with _ | ⟨u, us⟩
    · obtain ⟨rfl, rfl⟩ := hu0 rfl
      refine go_Gn ?_
      refine sl_call rfl rfl (by kernel_rfl) rfl Sub.refl sort64_nil ?_
      rintro _ -
      refine go_Gn ?_
      exact se_mid [] (by exact has_) (by exact sub_) (by simp)
    · refine sc_know (own_form_at (e := 22) (size := 1) (A := A) (m := (u :: us).length) (c := c) (xs := nums .u64 ((u :: us).map BK.st)) (by exact at_) (by simp)) ?_
      rintro ⟨gs, rfl⟩
      rw [← sorted64]
      generalize hus : u :: us = us2 at *
      have hsz : ((us2.map BK.st).toArray).size = us2.length := by simp
      refine go_Gn ?_
      refine sl_call rfl rfl (by kernel_rfl) rfl Sub.refl (sort64_ok (d := (us2.map BK.st).toArray) hsz hul) ?_
      rintro _ -
      refine go_Gn ?_
      exact se_mid (Go.Sort.sort Go.Sort.ltInt (us2.map BK.st).toArray).toList (by exact has_) (by exact sub_) rfl
  rintro zs hzs
  have hzp : zs.Perm (fs.map BK.st) := by rw [hzs]; exact (ms_perm _).trans (hp.map _)
  have hzl : zs.length = us.length := by rw [hzp.length_eq, List.length_map, hp.length_eq]
  have hzn : zs.Nodup := hzp.nodup_iff.2 (List.pairwise_map.2 hks')
  have hzS : zs.Pairwise (· < ·) := strict_of (by rw [hzs]; exact ms_sorted _) hzn
  have hzm : ∀ s ∈ zs, ∃ b ∈ fs, b.st = s := fun s hs => List.mem_map.1 (hzp.mem_iff.1 hs)
  have hzc : (zs.map (fun s => (bfind fs s).map BK.core)).Perm (fs.map (fun b => some b.core)) := by
    have h1 := hzp.map (fun s => (bfind fs s).map BK.core)
    rw [List.map_map] at h1
    have e : fs.map ((fun s => (bfind fs s).map BK.core) ∘ BK.st) = fs.map (fun b => some b.core) := List.map_congr_left fun b hb => by
      show (bfind fs b.st).map BK.core = some b.core
      rw [bfind_eq hks' hb]
      rfl
    rwa [e] at h1
  clear hp hu0 hzs
  generalize us.length = n at hul hzl ⊢
  clear us
  refine go_Gn ?_
  refine sc_for (α := List BK × Option Addr × Nat) (fun q => [(0, .pointer (some ⟨g, 0, none⟩)), (5, .slice q.2.1 q.1.length q.2.2), (27, .slice A n c), (28, .int .i64 n), (29, .int .i64 q.1.length)]) (fun q => own 22 1 A n c (nums .u64 zs) :: own 60 20 q.2.1 q.1.length q.2.2 (rows BK.cells q.1) :: bS q.1 :: K) (fun q => q.1.length ≤ n ∧ q.1.map BK.st = zs.take q.1.length ∧ q.1.map (fun b => some b.core) = (zs.take q.1.length).map (fun s => (bfind fs s).map BK.core)) (fun q => n - q.1.length) ([], none, 0) (by exact has_) (.cons .here (Sub.own_nil (sub_star0 (by exact sub_)))) ⟨Nat.zero_le _, rfl, rfl⟩ ?_
  rintro ⟨q, A', c'⟩ ⟨hqn, hqs, hqc⟩
  dsimp only at hqn hqs hqc ⊢
  by_cases hlt : q.length < n
  case neg =>
    have hqe : q.length = n := by omega
    rw [hqe, ← hzl, List.take_length] at hqs hqc
    have hfin : (q.map BK.core).Perm (fs.map BK.core) ∧ q.Pairwise (fun a b => a.st < b.st) := by
      refine ⟨strip_some (by rw [hqc]; exact hzc), ?_⟩
      have := hqs ▸ hzS
      exact List.pairwise_map.1 this
    refine go_Gn ?_
    exact se_ret1 (A', c', q) hfin rfl rfl (by exact sub_)
  refine sc_know (own_form_at (e := 22) (size := 1) (A := A) (m := n) (c := c) (xs := nums .u64 zs) (by exact at_) (by omega)) ?_
  rintro ⟨gz, rfl⟩
  have hj : q.length < zs.length := by omega
  obtain ⟨b, hb, hbs⟩ := hzm zs[q.length] (List.getElem_mem hj)
  have hnz : nth (nums .u64 zs) (q.length * 1) = some (.int .u64 b.st) := by
    rw [nth_eq, Nat.mul_one]
    unfold nums
    rw [List.getElem?_map, List.getElem?_eq_getElem hj, hbs]
    rfl
  have htk : zs.take (q.length + 1) = zs.take q.length ++ [b.st] := by rw [List.take_succ_eq_append_getElem hj, hbs]
  have hr0 : Vw (own 22 1 (some ⟨gz, 0, none⟩) n c (nums .u64 zs) :: own 60 20 A' q.length c' (rows BK.cells q) :: bS q :: K) (fun w => Reads w 1 (some ⟨gz, 0, none⟩) n (nums .u64 zs)) := Vw.of_own (e := 22) .here
  refine go_Gn ?_
  refine sl_call rfl rfl (by kernel_rfl) rfl (by exact sub_) (bgetC_ok (g := g) (m := m) (ck := ck) (t := t) (fs := fs) (b := b) (by exact at_) (by exact at_) (by exact at_) hb (hl b hb)) ?_
  rintro ⟨A6, c6⟩ -
  dsimp only
  refine go_Gn ?_
  refine sl_alloc rfl rfl rfl ?_; intro g8
  refine go_Gn ?_
  refine sl_build (size := 20) (e := 60) (cells := bkC b.st (tc A6 b.l.length c6 b.m b.k) b.cl) rfl (build_bk (bkC_len tc_len)) (by rw [bkC_len tc_len]) (by decide) rfl ?_
  intro gb
  refine sl_app rfl (by exact pick_) rfl (Vw.of_own (A := some ⟨gb, 0, none⟩) (c := 1) (e := 60) (by exact at_)) (bkC_one tc_one) rfl infoBk (by decide) (by decide) rfl (by unfold maxLen; omega) (by omega) ?_
  intro A2 c2
  obtain ⟨b', hb'⟩ : ∃ b' : BK, b' = ⟨b.st, A6, c6, b.l, b.m, b.k, b.cl, b.bn⟩ := ⟨_, rfl⟩
  rw [show rows BK.cells q ++ bkC b.st (tc A6 b.l.length c6 b.m b.k) b.cl = rows BK.cells (q ++ [b']) by rw [rows_app, rows_one, hb']; rfl, show q.length + 1 = (q ++ [b']).length by simp]
  refine go_Gn ?_
  refine se_subK (L' := BM.fa b' :: bS q :: own 22 1 (some ⟨gz, 0, none⟩) n c (nums .u64 zs) :: own 60 20 A2 (q ++ [b']).length c2 (rows BK.cells (q ++ [b'])) :: K) (by rw [hb']; exact sub_) ?_
  refine se_ent (ks_new (M := BM)) ?_
  rw [show ((q.length : Int) + 1) = (((q ++ [b']).length : Nat) : Int) by simp]
  exact se_round (q ++ [b'], A2, c2) (by exact has_) (by exact sub_) ⟨by dsimp only; rw [List.length_append, List.length_singleton]; omega, by dsimp only; rw [List.length_append, List.length_singleton, htk, List.map_append, hqs, hb']; rfl, by dsimp only; rw [List.length_append, List.length_singleton, htk, List.map_append, List.map_append, hqc, hb']; congr 1; show [some (BK.core b)] = [(bfind fs b.st).map BK.core]; rw [bfind_eq hks' hb]; rfl⟩ (by dsimp only; rw [List.length_append, List.length_singleton]; omega)
end Go.Proofs.Ytdmeofobljjpfaa
/- A function's walk in parts: a piece of its code, what comes behind it left open. No program is in sight. -/
namespace Go.Proofs.Ytdmeofobljjpfaa
open Go.RowKit
/-- A function's code. -/
def fb (f : Func) : Code := match f.body with
  | some c => c
  | none => .skip
/-- A piece of a code: true is the first of two, or the only one. -/
def cAt : List Bool → Code → Code
  | [], c => c
  | true :: r, .seq a _ => cAt r a
  | false :: r, .seq _ b => cAt r b
  | true :: r, .cond _ a _ => cAt r a
  | false :: r, .cond _ _ b => cAt r b
  | _ :: r, .block _ a => cAt r a
  | _ :: r, .loop a => cAt r a
  | _ :: r, .scope a => cAt r a
  | _, c => c
section
variable {P : Program} {Q : Exit → Act → World → Prop} {n : Nat} {l : Env} {L : List Fa} {x y : Code} {α : Type} {E : α → Env} {H : α → List Fa} {R : α → Prop} {id : Nat}
theorem se_mono {l l' : Env} {L L' : List Fa} {e : Exit} (h : SE Q e n l' L') (hl : Has l l') (hs : Sub L L') : SE Q e n l L := se_of fun w hw => WE.mk fun a ha => (h.to (hw.sub hs)).get (ha.sub hl.sub)
/-- How a piece ends: one of the states that are told. -/
abbrev Ends (n : Nat) (Q : Exit → Act → World → Prop) (e : Exit) (E : α → Env) (H : α → List Fa) (R : α → Prop) : Prop := ∀ (p : α) {l : Env} {L : List Fa}, R p → Has l (E p) → Sub L (H p) → SE Q e n l L
/-- A piece within its block, and what stands behind the block. -/
theorem sc_bpart (hp : ∀ Q', NoP Q' → Ends n Q' .normal E H R → SC P x Q' n l L) (hN : NoP (Exit.inBlock id (Exit.then (fun a w => y.wp P Q a w) Q))) (hy : ∀ p, R p → SC P y Q n (E p) (H p)) : SC P x (Exit.inBlock id (Exit.then (fun a w => y.wp P Q a w) Q)) n l L :=
  hp _ hN fun p _ _ hR hl hs => se_mono (se_block (se_seq (hy p hR))) hl hs
/-- A piece that leaves its block, and what stands behind the block. -/
theorem sc_xpart (hp : ∀ Q', NoP Q' → Ends n Q' (.exit id) E H R → SC P x Q' n l L) (hN : NoP (Exit.inBlock id (Exit.then (fun a w => y.wp P Q a w) Q))) (hy : ∀ p, R p → SC P y Q n (E p) (H p)) : SC P x (Exit.inBlock id (Exit.then (fun a w => y.wp P Q a w) Q)) n l L :=
  hp _ hN fun p _ _ hR hl hs => se_mono (se_block_hit (se_seq (hy p hR))) hl hs
/-- A piece, and what stands behind it. -/
theorem sc_spart (hp : ∀ Q', NoP Q' → Ends n Q' .normal E H R → SC P x Q' n l L) (hN : NoP (Exit.then (fun a w => y.wp P Q a w) Q)) (hy : ∀ p, R p → SC P y Q n (E p) (H p)) : SC P x (Exit.then (fun a w => y.wp P Q a w) Q) n l L :=
  hp _ hN fun p _ _ hR hl hs => se_mono (se_seq (hy p hR)) hl hs
end
theorem star2 {a b : Fa} {K : List Fa} : Ent_ (a :: b :: K) (star [a, b] :: K) := fun w hw => star_in (G := [a, b]) w hw
theorem star2_out {a b c : Fa} : Ent_ [star [a, b], c] [b, c] := fun w hw => (star_out (G := [a, b]) (K := [c]) w hw).sub (.skip .refl)
theorem star2_hd {a b c : Fa} : Ent_ [star [a, b], c] [a] := fun w hw => (star_out (G := [a, b]) (K := [c]) w hw).sub (.cons .here (.skip (.skip .refl)))
end Go.Proofs.Ytdmeofobljjpfaa
/- total.Same at two that are the same; tallymanref01.Of gives some element. -/
namespace Go.Proofs.Ytdmeofobljjpfaa
open Go.RowKit Go.MapKept
attribute [local irreducible] Go.Calls Go.Exit.then Go.Exit.inBlock Go.bodyPost Go.Code.wp Go.wpList
attribute [local irreducible] hashL ofId
theorem id_nums (k : Id) : bytes k.l = nums .u8 k.l := rfl
set_option maxRecDepth 100000 in
theorem pu_neqck {C : World → Prop} {n : Nat} {l : Env} {ty t' : TypeId} {x y : Operand} {k : Id} (hx : ev l x = some (.agg (bytes k.l).toArray)) (hy : ev l y = some (.agg (bytes k.l).toArray)) : Pu Try.prog C n l (.binOp .neq 54 x y t') ty (.bool false) := by
  have h := pu_neqla (P := Try.prog) (C := C) (n := n) (ty := ty) (t' := t') (t := 54) (N := 16) (e := 5) (k' := .u8) (k := .u8) (xs := k.l) (ys := k.l) hx hy rfl rfl rfl (by kernel_rfl) k.len k.len
  simpa using h
theorem wr64 (x : Int) : 0 ≤ IntKind.u64.wrap x ∧ IntKind.u64.wrap x < 18446744073709551616 := by
  simp only [IntKind.wrap, IntKind.bits, IntKind.signed]
  simp
  omega
theorem nth_Go {φ : Prop} (h : φ := by (first | rfl | first | exact tc_n0 | exact tc_n1)) : φ := h
theorem mid_Go {φ : Prop} (h : φ := by (first | first | exact tc_mid | exact Mid.all | exact Mid.all | exact Mid.head)) : φ := h
theorem sz_Go {φ : Prop} (h : φ := by (first | rfl | ((try simp only [tc_len, bytes_length, Id.len]); (first | done | rfl); first | done | fail))) : φ := h
theorem one_Go {φ : Prop} (h : φ := by (first | assumption | exact first | exact u2_one _ _ | exact tc_one | exact one_bytes _ | (simp only [List.mem_cons, List.not_mem_nil, or_false, forall_eq_or_imp, forall_eq]; decide) | exact one_bytes _ | (intro v hv; (repeat (rcases List.mem_cons.1 hv with rfl | hv; rfl)); cases hv))) : φ := h
theorem set_Go {φ : Prop} (h : φ := by (first | (fail) | ((repeat (first | exact SetAt.here | apply SetAt.there)); first | done | fail))) : φ := h
theorem cl_Go {φ : Prop} (h : φ := by first | rfl | exact .t | exact .f | exact .t (by omega) | exact .f (by omega) | exact .u | exact .i (by (first | exact .t (by omega) | exact .f (by omega) | exact .u | exact .i (by omega) | exact .v (by omega) | exact .b (by omega) | exact .w | rfl | omega)) | exact .v (by omega) | exact .b (by omega) | exact .q (by omega) | exact .w | exact .b (by exact at_) rfl (by exact nth_Go) | exact .w (by exact at_) rfl rfl (by exact sz_Go) | exact .s (by exact at_) (by exact mid_Go) rfl rfl (by exact sz_Go) | exact .z rfl rfl ⟨by kernel_rfl⟩ | exact .b rfl rfl ⟨by kernel_rfl⟩ | exact .a rfl rfl ⟨by kernel_rfl⟩ | exact .o rfl | exact .s | exact .n | exact .p rfl | exact .q rfl | exact .c rfl | exact .d rfl | exact .n rfl rfl (by omega) | exact .a rfl rfl (by omega) | exact .p rfl rfl (by omega) (by omega) | exact .y rfl rfl (by omega) (by omega) | exact .o (by exact at_) (by omega) rfl (by exact nth_Go) | exact .m (by exact at_) (by omega) (by exact mid_Go) rfl rfl (by exact sz_Go) | exact .mlen (by exact at_) rfl | exact .t (by exact at_) rfl rfl (by first | exact True.intro | rfl) (by assumption) | exact .f (by exact at_) rfl rfl (by first | exact True.intro | rfl) (by assumption) rfl | exact .t1 (by exact at_) rfl rfl (by first | exact True.intro | rfl) (by assumption) | exact .f1 (by exact at_) rfl rfl (by first | exact True.intro | rfl) (by assumption) rfl | exact .r rfl rfl (by omega) (by omega) (by exact nth_Go) rfl | exact .s rfl (by omega) (by assumption) | exact at_ | assumption | exact .r rfl rfl | exact .h rfl rfl rfl (by omega) | exact .l rfl rfl rfl (by omega) (by omega) | exact .g rfl rfl rfl rfl (by omega) (by omega) | exact .h rfl rfl (toN_ (by omega)) (by omega) | exact .l rfl rfl (toN_ (by omega)) (by omega) (by omega) | exact .g rfl rfl (toN_ (by omega)) (toN_ (by omega)) (by omega) (by omega) | exact .o (by decide) | exact .f (by decide) | exact .n (by omega) (by first | decide | (show _ ≤ ((64 : Nat) : Int); omega)) | (constructor; (repeat (first | exact .t (by omega) | exact .f (by omega) | exact .u | exact .i (by omega) | exact .v (by omega) | exact .b (by omega) | exact .w | rfl | omega)); first | done | fail) | omega | (show _ ≤ ((64 : Nat) : Int); omega)) : φ := h
theorem pv_Go {φ : Prop} (h : φ := by constructor; (repeat exact cl_Go); first | done | fail) : φ := h
theorem su_Go {φ ψ : Prop} (k : ψ) (h : Hide ψ → φ := by (intro k; (first | refine sl_pu (PuI.sep (by exact pv_Go)) rfl ?_ | refine sl_yes rfl rfl ?_ | refine sl_no rfl rfl rfl ?_ | refine sl_off rfl rfl rfl ?_ | (fail)); exact k.out)) : φ := h ⟨k⟩
theorem rq_Go {φ ψ : Prop} (k : ψ) (h : Hide ψ → φ := by (intro k; (first | refine wq_pu (PuI.sep (by exact pv_Go)) rfl ?_ | refine wq_yes rfl rfl ?_ | refine wq_no rfl rfl rfl ?_ | refine wq_off rfl rfl rfl ?_ | (fail)); exact k.out)) : φ := h ⟨k⟩
theorem sto_Go {φ ψ : Prop} (k : ψ) (h : Hide ψ → φ := by (intro k; (first | refine sl_store rfl (by exact pick_) rfl rfl (by kernel_rfl) (by exact set_Go) ?_ | refine sl_store_whole rfl (by exact pick_) rfl (by exact sz_Go) (by exact sz_Go) (by exact one_Go) ?_); exact k.out)) : φ := h ⟨k⟩
theorem go_Go {φ ψ : Prop} (k : ψ) (h : Hide ψ → φ := by (intro k; (repeat (first | refine su_Go ?_ | refine so_ ?_ | refine sto_Go ?_)); exact k.out)) : φ := h ⟨k⟩
set_option maxRecDepth 100000 in
set_option maxHeartbeats 2000000 in
theorem same_ok {K : List Fa} {A B : Option Addr} {n c d : Nat} {m : Int} {k : Id} {xs : List Int} (hx : Vw K (fun w => Reads w 2 A n (rows eC xs))) (hy : Vw K (fun w => Reads w 2 B n (rows eC xs))) (hn : n ≤ 1000000) :
    Fn Try.prog 20 #[.agg (tc A n c m k).toArray, .agg (tc B n d m k).toArray] K (Ret (fun _ : Unit => True) (fun _ => .bool true) (fun _ => K)) := by
  refine fn_know (vwe_len hx) ?_
  intro hlx
  refine fn_enter Try.func20 rfl _ Try.ntmps20 (by simp) [(0, .agg (tc A n c m k).toArray), (1, .agg (tc B n d m k).toArray)] (args_of (by simp)) ?_
  refine go_Go ?_
  refine sl_box rfl rfl rfl ?_; intro g1
  refine go_Go ?_
  refine sl_box rfl rfl rfl ?_; intro g2
  refine go_Go ?_
  refine sl_pu (pu_neqck (k := k) rfl rfl) rfl ?_
  refine go_Go ?_
  refine sc_for (fun j : Nat => [(2, .pointer (some ⟨g1, 0, none⟩)), (3, .pointer (some ⟨g2, 0, none⟩)), (29, .int .i64 n), (30, .int .i64 j)]) (fun _ => blk g2 56 (tc B n d m k) :: blk g1 56 (tc A n c m k) :: K) (fun j => j ≤ n) (fun j => n - j) 0 (by exact has_) (by exact sub_) (Nat.zero_le _) ?_
  intro j hj
  by_cases hlt : j < n
  case neg =>
    refine go_Go ?_
    exact se_ret1 () trivial rfl rfl (by exact sub_)
  refine sc_know (vw_form (L := blk g2 56 (tc B n d m k) :: blk g1 56 (tc A n c m k) :: K) (hx.mono (by exact sub_)) (by omega)) ?_
  rintro ⟨a1, rfl⟩
  refine sc_know (vw_form (L := blk g2 56 (tc B n d m k) :: blk g1 56 (tc (some a1) n c m k) :: K) (hy.mono (by exact sub_)) (by omega)) ?_
  rintro ⟨a2, rfl⟩
  have hjx : j < xs.length := by omega
  refine go_Go ?_
  refine sq_region (by kernel_rfl) (by kernel_rfl) ?_
  repeat refine rq_Go ?_
  refine wq_pu (pu_ldrs (hx.mono (by exact sub_)) (by omega) rfl (rows_mid eC_len (List.getElem?_eq_getElem hjx)) rfl rfl rfl) rfl ?_
  repeat refine rq_Go ?_
  refine wq_pu (pu_ldrs (hy.mono (by exact sub_)) (by omega) rfl (rows_mid eC_len (List.getElem?_eq_getElem hjx)) rfl rfl rfl) rfl ?_
  refine wq_pu (pu_neqle (u := xs[j]) (v := xs[j]) rfl rfl) rfl ?_
  refine sq_end ?_
  rw [decide_eq_true rfl]
  refine go_Go ?_
  exact se_round (j + 1) (by exact has_) (by exact sub_) (by omega) (by omega)
/-! The document's: only that it is an element. -/
set_option maxRecDepth 100000 in
theorem rLess_ok {K : List Fa} {a b c d : Int} : Fn Try.prog 29 #[.agg #[.int .u64 a, .int .u64 b], .agg #[.int .u64 c, .int .u64 d]] K (Ret (fun _ : Bool => True) (fun v => .bool v) (fun _ => K)) := by
  refine fn_enter Try.func29 rfl _ Try.ntmps29 (by simp) [(0, .agg #[.int .u64 a, .int .u64 b]), (1, .agg #[.int .u64 c, .int .u64 d])] (args_of (by simp)) ?_
  by_cases h1 : b = d
  · subst h1
    refine go_Go ?_
    refine sl_box rfl rfl rfl ?_; intro g1
    refine go_Go ?_
    refine sl_box rfl rfl rfl ?_; intro g2
    refine go_Go ?_
    exact se_ret1 _ trivial rfl rfl (by exact sub_)
  · refine go_Go ?_
    refine sl_box rfl rfl rfl ?_; intro g1
    refine go_Go ?_
    refine sl_box rfl rfl rfl ?_; intro g2
    refine go_Go ?_
    exact se_ret1 _ trivial rfl rfl (by exact sub_)
def In64 (a : Int) : Prop := 0 ≤ a ∧ a < 18446744073709551616
set_option maxRecDepth 100000 in
theorem rTake_ok {K : List Fa} {a b c d : Int} : Fn Try.prog 31 #[.agg #[.int .u64 a, .int .u64 b], .agg #[.int .u64 c, .int .u64 d]] K (Ret (fun q : Int × Int => In64 q.1 ∧ In64 q.2) (fun q => .agg #[.int .u64 q.1, .int .u64 q.2]) (fun _ => K)) := by
  refine fn_enter Try.func31 rfl _ Try.ntmps31 (by simp) [(0, .agg #[.int .u64 a, .int .u64 b]), (1, .agg #[.int .u64 c, .int .u64 d])] (args_of (by simp)) ?_
  refine go_Go ?_
  refine sl_box rfl rfl rfl ?_; intro g1
  refine go_Go ?_
  refine sl_box rfl rfl rfl ?_; intro g2
  refine go_Go ?_
  refine sl_alloc rfl rfl rfl ?_; intro g3
  refine go_Go ?_
  have w1 := wr64 (a - c)
  have w2 := wr64 (b - d)
  have w3 := wr64 (IntKind.u64.wrap (b - d) - 1)
  refine sl_pu (pu_build (v := .agg #[.int .u64 (IntKind.u64.wrap (a - c)), .int .u64 (IntKind.u64.wrap (b - d))]) rfl (fun W => by kernel_rfl)) rfl ?_
  generalize IntKind.u64.wrap (a - c) = x at *
  generalize IntKind.u64.wrap (b - d) = y at *
  refine sl_alloc rfl rfl rfl ?_; intro g4
  by_cases h1 : a < c
  · refine go_Go ?_
    exact se_ret_c (x, IntKind.u64.wrap (y - 1)) ⟨w1, w3⟩ rfl rfl (by exact at_) rfl rfl rfl rfl (by exact sub_)
  · refine go_Go ?_
    exact se_ret_c (x, y) ⟨w1, w2⟩ rfl rfl (by exact at_) rfl rfl rfl rfl (by exact sub_)
theorem el_of {a b : Int} (ha : In64 a) (hb : In64 b) : ∃ v, El v ∧ [Value.int .u64 a, .int .u64 b] = eC v := ⟨_, El.of ha hb, eC_of ha⟩
set_option maxRecDepth 100000 in
theorem rP_ok {K : List Fa} {k : Int} : Fn Try.prog 30 #[.int .i64 k] K (Ret (fun _ : Int × Int => True) (fun q => .agg #[.int .u64 q.1, .int .u64 q.2]) (fun _ => K)) := by
  refine fn_enter Try.func30 rfl _ Try.ntmps30 (by simp) [(0, .int .i64 k)] (args_of (by simp)) ?_
  by_cases h1 : k = 1
  · refine go_Go ?_
    refine sl_alloc rfl rfl rfl ?_; intro g1
    refine go_Go ?_
    refine sl_pu (pu_build (v := .agg #[.int .u64 18446744069414584321, .int .u64 0]) rfl (fun W => by kernel_rfl)) rfl ?_
    refine go_Go ?_
    exact se_ret_c (18446744069414584321, 0) trivial rfl rfl (by exact at_) rfl rfl rfl rfl (by exact sub_)
  · refine go_Go ?_
    refine sl_alloc rfl rfl rfl ?_; intro g1
    refine go_Go ?_
    refine sl_pu (pu_build (v := .agg #[.int .u64 1, .int .u64 18446744073709551588]) rfl (fun W => by kernel_rfl)) rfl ?_
    refine go_Go ?_
    exact se_ret_c (1, 18446744073709551588) trivial rfl rfl (by exact at_) rfl rfl rfl rfl (by exact sub_)
set_option maxRecDepth 100000 in
theorem ofAux {K : List Fa} {g1 g2 : Nat} {k a b : Int} (ha : In64 a) (hb : In64 b) :
    SC Try.prog (cAt [false, false] (fb Try.f22)) (bodyPost Try.prog Try.f22 (Ret (fun v : Int => El v) (fun v => .agg (eC v).toArray) (fun _ => K))) 18 [(0, .int .i64 k), (3, .pointer (some ⟨g1, 0, none⟩)), (4, .pointer (some ⟨g2, 0, none⟩))] (blk g1 65 [.int .u64 a, .int .u64 b] :: blk g2 65 [.int .u64 0, .int .u64 0] :: K) := by
  obtain ⟨v, hv, he⟩ := el_of ha hb
  refine go_Go ?_
  refine sd_drawn (fun W => AllP W [blk g1 65 [.int .u64 a, .int .u64 b]]) (fun _ => true) (by kernel_rfl) 5 rfl ?_
  refine sd_yes2 0 rfl (by exact gd_) (by kernel_rfl) (by kernel_rfl) (by exact nop_) (PuI.all (by exact pv_Go)) rfl (fun w hw => all_ hw) ?_
  refine sd_yes2 1 rfl (by exact gd_) (by kernel_rfl) (by kernel_rfl) (by exact nop_) (PuI.all (by exact pv_Go)) rfl (fun w hw => all_ hw) ?_
  refine sd_one 2 (by kernel_rfl) (sa_sl 2 rfl ?_)
  refine sl_call rfl rfl (by kernel_rfl) rfl (by exact sub_) rP_ok ?_
  rintro ⟨p, q⟩ -
  dsimp only
  refine sl_nil ?_
  refine se_sd (fun _ w hw => all_ hw) ?_
  refine sd_one 3 (by kernel_rfl) (sa_sl 3 rfl ?_)
  refine sl_call rfl rfl (by kernel_rfl) rfl (by exact sub_) rLess_ok ?_
  rintro bb -
  refine sl_nil ?_
  refine se_sd (fun _ w hw => all_ hw) ?_
  refine sd_yes2 4 rfl (by exact gd_) (by kernel_rfl) (by kernel_rfl) (by exact nop_) (PuI.all (by exact pv_Go)) rfl (fun w hw => all_ hw) ?_
  refine sd_done (by kernel_rfl) ?_
  cases bb with
  | true =>
    refine go_Go ?_
    exact se_ret_c v hv rfl rfl (by exact at_) rfl rfl rfl (by rw [he]) (by exact sub_)
  | false =>
    refine go_Go ?_
    refine sd_drawn (fun W => AllP W [blk g1 65 [.int .u64 a, .int .u64 b]]) (fun _ => true) (by kernel_rfl) 5 rfl ?_
    refine sd_yes2 0 rfl (by exact gd_) (by kernel_rfl) (by kernel_rfl) (by exact nop_) (PuI.all (by exact pv_Go)) rfl (fun w hw => all_ hw) ?_
    refine sd_yes2 1 rfl (by exact gd_) (by kernel_rfl) (by kernel_rfl) (by exact nop_) (PuI.all (by exact pv_Go)) rfl (fun w hw => all_ hw) ?_
    refine sd_one 2 (by kernel_rfl) (sa_sl 2 rfl ?_)
    refine sl_call rfl rfl (by kernel_rfl) rfl (by exact sub_) rP_ok ?_
    rintro ⟨p, q⟩ -
    dsimp only
    refine sl_nil ?_
    refine se_sd (fun _ w hw => all_ hw) ?_
    refine sd_one 3 (by kernel_rfl) (sa_sl 3 rfl ?_)
    refine sl_call rfl rfl (by kernel_rfl) rfl (by exact sub_) rTake_ok ?_
    rintro ⟨x, y⟩ ⟨hx, hy⟩
    dsimp only
    refine sl_nil ?_
    refine se_sd (fun _ w hw => all_ hw) ?_
    refine sd_one 4 (by kernel_rfl) (sa_sl 4 rfl ?_)
    refine sl_store_whole rfl (by exact pick_) rfl (by rfl) (by rfl) (u2_one _ _) ?_
    refine sl_nil ?_
    refine se_sd (fun _ w hw => all_ hw) ?_
    refine sd_done (by kernel_rfl) ?_
    obtain ⟨u, hu, he2⟩ := el_of hx hy
    dsimp only at he2
    refine go_Go ?_
    exact se_ret_c u hu rfl rfl (by exact at_) rfl rfl rfl (by rw [he2]) (by exact sub_)
set_option maxRecDepth 100000 in
theorem rOf_ok {K : List Fa} {k x : Int} (hx : El x) : Fn Try.prog 22 #[.int .i64 k, .agg (eC x).toArray] K (Ret (fun v : Int => El v) (fun v => .agg (eC v).toArray) (fun _ => K)) := by
  refine fn_enter Try.func22 rfl _ Try.ntmps22 (by simp) [(0, .int .i64 k), (1, .agg (eC x).toArray)] (args_of (by simp)) ?_
  obtain ⟨a, b, hxx, h1, h2, ha, hb⟩ := el_parts hx
  rw [agg_eC h1 h2]
  refine sc_seq ?_
  refine sc_region ?_
  refine sl_box rfl rfl rfl ?_; intro g1
  refine sl_alloc rfl rfl rfl ?_; intro g2
  refine sl_nil ?_
  refine se_seq ?_
  refine sc_mid (α := Int) (fun _ => [(0, .int .i64 k), (3, .pointer (some ⟨g1, 0, none⟩)), (4, .pointer (some ⟨g2, 0, none⟩))]) (fun b => blk g1 65 [.int .u64 a, .int .u64 b] :: blk g2 65 [.int .u64 0, .int .u64 0] :: K) (fun b => In64 b) ?_ ?_
  · by_cases hk : k = 1
    · refine go_Go ?_
      exact se_mid 0 (by exact has_) (by exact sub_) (by unfold In64; decide)
    · refine go_Go ?_
      exact se_mid b (by exact has_) (by exact sub_) hb
  intro b hb
  exact ofAux ha hb
end Go.Proofs.Ytdmeofobljjpfaa
/- BucketPlays: books as the law means them; what is asked behind each call. -/
namespace Go.Proofs.Ytdmeofobljjpfaa
open Go.RowKit Go.MapKept
attribute [local irreducible] Go.Calls Go.Exit.then Go.Exit.inBlock Go.bodyPost Go.Code.wp Go.wpList
attribute [local irreducible] hashL ofId
/-- The law's windows, in a row. -/
abbrev mR (R : Option Addr) (n c : Nat) (ms : List BK) : Fa := own 75 20 R n c (rows BK.cells ms)
structure MOk (t : Ta) (r : Rl) (ms fs : List BK) : Prop where
  core : ms.map BK.core = fs.map BK.core
  keys : fs.Pairwise (fun a b => a.st ≠ b.st)
  len : ∀ b ∈ fs, b.l.length = t.out.toNat
  els : ∀ b ∈ fs, Els b.l
  many : ∀ b ∈ fs, 0 ≤ b.m ∧ b.m ≤ r.mx
  most : fs.length ≤ 32
theorem MOk.ll {t : Ta} {r : Rl} {ms fs : List BK} (h : MOk t r ms fs) : ms.length = fs.length := by
  have := congrArg List.length h.core
  simpa using this
theorem MOk.at {t : Ta} {r : Rl} {ms fs : List BK} (h : MOk t r ms fs) {j : Nat} {u : BK} (hj : ms[j]? = some u) : ∃ b, fs[j]? = some b ∧ b.st = u.st ∧ b.l = u.l ∧ b.m = u.m ∧ b.k = u.k ∧ b.cl = u.cl := by
  have h1 : (ms.map BK.core)[j]? = some u.core := by rw [List.getElem?_map, hj]; rfl
  rw [h.core, List.getElem?_map] at h1
  cases hb : fs[j]? with
  | none => rw [hb] at h1; cases h1
  | some b =>
    rw [hb] at h1
    injection h1 with h1
    unfold BK.core at h1
    injection h1 with e1 h1
    injection h1 with e2 h1
    injection h1 with e3 h1
    injection h1 with e4 e5
    exact ⟨b, rfl, e1, e2, e3, e4, e5⟩
def yE (g7 g8 g i na cq : Nat) (QA : Option Addr) (R : Option Addr) (n cR : Nat) : Env := [(7, .pointer (some ⟨g7, 0, none⟩)), (8, .pointer (some ⟨g8, 0, none⟩)), (9, .pointer (some ⟨g, 0, none⟩)), (10, .int .i64 0), (11, .slice R n cR), (44, .slice QA na cq), (45, .int .i64 na), (46, .int .i64 i)]
def yH (t : Ta) (r : Rl) (g7 g8 g m ck : Nat) (R : Option Addr) (n cR : Nat) (ms fs : List BK) (K : List Fa) : List Fa := bB g t r m :: bM m fs ck :: bS fs :: mR R n cR ms :: bS ms :: blk g7 37 t.c :: blk g8 24 r.c :: K
theorem len_core {q fs : List BK} (h : (q.map BK.core).Perm (fs.map BK.core)) : q.length = fs.length := by
  have := h.length_eq
  simpa using this
theorem core_mem {q fs : List BK} (h : (q.map BK.core).Perm (fs.map BK.core)) {u : BK} (hu : u ∈ q) : ∃ b ∈ fs, b.core = u.core := by
  have := h.mem_iff.1 (List.mem_map_of_mem hu)
  obtain ⟨b, hb, e⟩ := List.mem_map.1 this
  exact ⟨b, hb, e⟩
theorem bk_mid {ss : List BK} {i : Nat} {s : BK} (hs : ss[i]? = some s) : Mid (rows BK.cells ss) (i * 20) s.cells := rows_mid BK.len hs
theorem bk_st {ss : List BK} {i : Nat} {s : BK} (hs : ss[i]? = some s) : nth (rows BK.cells ss) (i * 20 + 0) = some (.int .u64 s.st) := rows_nth (j := 0) BK.len hs bkC_n0
theorem nth_Ha {φ : Prop} (h : φ := by (first | rfl | first | exact bkC_n0 | exact bkC_n1 | exact bkC_n2 | exact bkC_n19' | exact tc_n0 | exact tc_n1 | assumption)) : φ := h
theorem mid_Ha {φ : Prop} (h : φ := by (first | first | exact boC_mt | exact boC_mr | exact bkC_mid | exact Ta.mid _ | exact tc_mid | exact bk_mid (by assumption) | exact Mid.all | exact Mid.all | exact Mid.head)) : φ := h
theorem sz_Ha {φ : Prop} (h : φ := by (first | rfl | ((try simp only [bkC_len tc_len, tc_len, BK.len, bytes_length, Id.len]); (first | done | rfl); first | done | fail))) : φ := h
theorem one_Ha {φ : Prop} (h : φ := by (first | assumption | exact first | exact BK.one _ | exact bkC_one tc_one | exact tc_one | exact Ta.one _ | exact Rl.one _ | exact one_bytes _ | (simp only [List.mem_cons, List.not_mem_nil, or_false, forall_eq_or_imp, forall_eq]; decide) | exact one_bytes _ | (intro v hv; (repeat (rcases List.mem_cons.1 hv with rfl | hv; rfl)); cases hv))) : φ := h
theorem set_Ha {φ : Prop} (h : φ := by (first | (first | exact tc_set0 | exact bkC_set19 tc_len) | ((repeat (first | exact SetAt.here | apply SetAt.there)); first | done | fail))) : φ := h
theorem cl_Ha {φ : Prop} (h : φ := by first | rfl | exact .t | exact .f | exact .t (by omega) | exact .f (by omega) | exact .u | exact .i (by (first | exact .t (by omega) | exact .f (by omega) | exact .u | exact .i (by omega) | exact .v (by omega) | exact .b (by omega) | exact .w | rfl | omega)) | exact .v (by omega) | exact .b (by omega) | exact .q (by omega) | exact .w | exact .b (by exact at_) rfl (by exact nth_Ha) | exact .w (by exact at_) rfl rfl (by exact sz_Ha) | exact .s (by exact at_) (by exact mid_Ha) rfl rfl (by exact sz_Ha) | exact .z rfl rfl ⟨by kernel_rfl⟩ | exact .b rfl rfl ⟨by kernel_rfl⟩ | exact .a rfl rfl ⟨by kernel_rfl⟩ | exact .o rfl | exact .s | exact .n | exact .p rfl | exact .q rfl | exact .c rfl | exact .d rfl | exact .n rfl rfl (by omega) | exact .a rfl rfl (by omega) | exact .p rfl rfl (by omega) (by omega) | exact .y rfl rfl (by omega) (by omega) | exact .o (by exact at_) (by omega) rfl (by exact nth_Ha) | exact .m (by exact at_) (by omega) (by exact mid_Ha) rfl rfl (by exact sz_Ha) | exact .mlen (by exact at_) rfl | exact .t (by exact at_) rfl rfl (by first | exact True.intro | rfl) (by assumption) | exact .f (by exact at_) rfl rfl (by first | exact True.intro | rfl) (by assumption) rfl | exact .t1 (by exact at_) rfl rfl (by first | exact True.intro | rfl) (by assumption) | exact .f1 (by exact at_) rfl rfl (by first | exact True.intro | rfl) (by assumption) rfl | exact .r rfl rfl (by omega) (by omega) (by exact nth_Ha) rfl | exact .s rfl (by omega) (by assumption) | exact at_ | assumption | exact .r rfl rfl | exact .h rfl rfl rfl (by omega) | exact .l rfl rfl rfl (by omega) (by omega) | exact .g rfl rfl rfl rfl (by omega) (by omega) | exact .h rfl rfl (toN_ (by omega)) (by omega) | exact .l rfl rfl (toN_ (by omega)) (by omega) (by omega) | exact .g rfl rfl (toN_ (by omega)) (toN_ (by omega)) (by omega) (by omega) | exact .o (by decide) | exact .f (by decide) | exact .n (by omega) (by first | decide | (show _ ≤ ((64 : Nat) : Int); omega)) | (constructor; (repeat (first | exact .t (by omega) | exact .f (by omega) | exact .u | exact .i (by omega) | exact .v (by omega) | exact .b (by omega) | exact .w | rfl | omega)); first | done | fail) | omega | (show _ ≤ ((64 : Nat) : Int); omega)) : φ := h
theorem pv_Ha {φ : Prop} (h : φ := by constructor; (repeat exact cl_Ha); first | done | fail) : φ := h
theorem su_Ha {φ ψ : Prop} (k : ψ) (h : Hide ψ → φ := by (intro k; (first | refine sl_pu (PuI.sep (by exact pv_Ha)) rfl ?_ | refine sl_yes rfl rfl ?_ | refine sl_no rfl rfl rfl ?_ | refine sl_off rfl rfl rfl ?_ | (fail)); exact k.out)) : φ := h ⟨k⟩
theorem rq_Ha {φ ψ : Prop} (k : ψ) (h : Hide ψ → φ := by (intro k; (first | refine wq_pu (PuI.sep (by exact pv_Ha)) rfl ?_ | refine wq_yes rfl rfl ?_ | refine wq_no rfl rfl rfl ?_ | refine wq_off rfl rfl rfl ?_ | (fail)); exact k.out)) : φ := h ⟨k⟩
theorem sto_Ha {φ ψ : Prop} (k : ψ) (h : Hide ψ → φ := by (intro k; (first | refine sl_store rfl (by exact pick_) rfl rfl (by kernel_rfl) (by exact set_Ha) ?_ | refine sl_store_whole rfl (by exact pick_) rfl (by exact sz_Ha) (by exact sz_Ha) (by exact one_Ha) ?_); exact k.out)) : φ := h ⟨k⟩
theorem go_Ha {φ ψ : Prop} (k : ψ) (h : Hide ψ → φ := by (intro k; (repeat (first | refine su_Ha ?_ | refine so_ ?_ | refine sto_Ha ?_)); exact k.out)) : φ := h ⟨k⟩
set_option maxRecDepth 100000 in
set_option maxHeartbeats 8000000 in
theorem pD {K : List Fa} {t : Ta} {r : Rl} {g7 g8 g m ck i na cq n cR : Nat} {QA R : Option Addr} {ms fs : List BK} (ht : t.err = 0) (hM : MOk t r ms fs) (hn : ms.length = n) {Q' : Exit → Act → World → Prop} (hend : ∀ {l : Env} {L : List Fa}, Has l (yE g7 g8 g i na cq QA R n cR) → Sub L (yH t r g7 g8 g m ck R n cR ms fs K) → SE Q' .normal 342 l L) :
    SC Try.prog (cAt [false, false, false, false, false, true, false, true, true, false, false, true, true, false, false, false, false, false, false, false, false] (fb Try.f6)) Q' 342 (yE g7 g8 g i na cq QA R n cR) (yH t r g7 g8 g m ck R n cR ms fs K) := by
  have hll := hM.ll
  have h32 := hM.most
  have hol := t.out_le ht
  unfold yE yH at hend ⊢
  refine go_Ha ?_
  refine sl_call rfl rfl (by kernel_rfl) rfl (by exact sub_) (list_ok (g := g) (m := m) (ck := ck) (t := t) (r := r) (fs := fs) (by exact at_) (by exact at_) (by exact at_) (by omega) (fun b hb => by rw [hM.len b hb]; omega)) ?_
  rintro ⟨B, cB, q⟩ ⟨hqc, hqs⟩
  dsimp only at hqc hqs ⊢
  have hql := len_core hqc
  have hqn : q.length = n := by omega
  rw [hqn]
  refine go_Ha ?_
  refine sc_bjoin (α := Unit) (fun _ => yE g7 g8 g i na cq QA R n cR) (fun _ => yH t r g7 g8 g m ck R n cR ms fs K) (fun _ => True) ?_ ?_
  · unfold yE yH
    refine sc_for (α := Nat) (fun j => (25, .slice B n cB) :: (274, .slice B n cB) :: (275, .int .i64 n) :: (276, .int .i64 (j : Nat)) :: yE g7 g8 g i na cq QA R n cR) (fun _ => own 60 20 B n cB (rows BK.cells q) :: yH t r g7 g8 g m ck R n cR ms fs K) (fun j => j ≤ n) (fun j => n - j) 0 (by unfold yE; exact has_) (by unfold yH; exact sub_) (Nat.zero_le _) ?_
    intro j hj
    unfold yE yH
    by_cases hlt : j < n
    case neg =>
      refine go_Ha ?_
      exact se_mid () (by exact has_) (by exact sub_) trivial
    refine sc_form (e := 60) (size := 20) (A := B) (m := n) (c := cB) (xs := rows BK.cells q) (by exact at_) (by omega) ?_
    rintro gB rfl
    obtain ⟨u, hu⟩ : ∃ u, q[j]? = some u := ⟨_, List.getElem?_eq_getElem (by omega)⟩
    have hus : u.cells = bkC u.st (tc u.A u.l.length u.c u.m u.k) u.cl := rfl
    by_cases hj0 : j = 0
    · have hj1 : ¬ (0 : Int) < j := by omega
      refine go_Ha ?_
      rw [hus]
      refine sl_alloc rfl rfl rfl ?_; intro g27
      refine go_Ha ?_
      ((refine sq_region (by kernel_rfl) (by kernel_rfl) ?_; (repeat refine rq_Ha ?_); refine sq_end ?_))
      refine go_Ha ?_
      exact se_round (j + 1) (by exact has_) (by exact sub_) (by omega) (by omega)
    · obtain ⟨v, hv⟩ : ∃ v, q[j - 1]? = some v := ⟨_, List.getElem?_eq_getElem (by omega)⟩
      have hvu : v.st < u.st := by
        obtain ⟨h1, rfl⟩ := List.getElem?_eq_some_iff.1 hv
        obtain ⟨h2, rfl⟩ := List.getElem?_eq_some_iff.1 hu
        exact List.pairwise_iff_getElem.1 hqs _ _ h1 h2 (by omega)
      have hnv := bk_st hv
      have hjm : ((j : Int) - 1).toNat = j - 1 := by omega
      refine go_Ha ?_
      rw [hus]
      refine sl_alloc rfl rfl rfl ?_; intro g27
      refine go_Ha ?_
      refine sq_region (by kernel_rfl) (by kernel_rfl) ?_
      repeat refine rq_Ha ?_
      refine wq_pu (pu_ldo (o := (j - 1) * 20 + 0) (by exact at_) (by omega) rfl (by rw [hjm]; first | exact at2 _ _ _ | exact at1 _ _) rfl hnv) rfl ?_
      repeat refine rq_Ha ?_
      refine sq_end ?_
      refine go_Ha ?_
      exact se_round (j + 1) (by exact has_) (by exact sub_) (by omega) (by omega)
  rintro _ -
  unfold yE yH
  clear hqc hqs hql hqn
  refine go_Ha ?_
  refine sc_for (α := Nat) (fun j => (295, .slice R n cR) :: (296, .int .i64 n) :: (297, .int .i64 (j : Nat)) :: yE g7 g8 g i na cq QA R n cR) (fun _ => yH t r g7 g8 g m ck R n cR ms fs K) (fun j => j ≤ n) (fun j => n - j) 0 (by unfold yE; exact has_) (by unfold yH; exact sub_) (Nat.zero_le _) ?_
  intro j hj
  unfold yE yH
  by_cases hlt : j < n
  case neg =>
    refine go_Ha ?_
    exact hend (by exact has_) (by exact sub_)
  refine sc_form (e := 75) (size := 20) (A := R) (m := n) (c := cR) (xs := rows BK.cells ms) (by exact at_) (by omega) ?_
  rintro gR rfl
  obtain ⟨u, hu⟩ : ∃ u, ms[j]? = some u := ⟨_, List.getElem?_eq_getElem (by omega)⟩
  have hus : u.cells = bkC u.st (tc u.A u.l.length u.c u.m u.k) u.cl := rfl
  obtain ⟨b, hb, e1, e2, e3, e4, e5⟩ := hM.at hu
  have hbm : b ∈ fs := List.mem_of_getElem? hb
  have hum : u ∈ ms := List.mem_of_getElem? hu
  have hbl := hM.len b hbm
  have hur : Vw (bS ms :: blk g7 37 t.c :: blk g8 24 r.c :: K) (fun w => Reads w 2 u.A u.l.length (rows eC u.l)) := bs_get .here hum
  refine go_Ha ?_
  rw [hus]
  refine sl_alloc rfl rfl rfl ?_; intro g29
  refine go_Ha ?_
  rw [← e1]
  refine sl_call rfl rfl (by kernel_rfl) rfl (by exact sub_) (bgetC_ok (g := g) (m := m) (ck := ck) (t := t) (r := r) (fs := fs) (b := b) (by exact at_) (by exact at_) (by exact at_) hbm (by omega)) ?_
  rintro ⟨A6, c6⟩ -
  dsimp only
  rw [e2, e3, e4, e5]
  refine go_Ha ?_
  refine sl_alloc rfl rfl rfl ?_; intro g30
  cases hcl : u.cl with
  | true =>
    refine go_Ha ?_
    refine sl_call rfl rfl (by kernel_rfl) rfl (by exact sub_) (same_ok (Vw.of_own (e := 65) (A := A6) (c := c6) (by exact at_)) (hur.mono (by exact sub_)) (by rw [← e2]; omega)) ?_; rintro _ -
    refine go_Ha ?_
    exact se_round (j + 1) (by exact has_) (by exact sub_) (by omega) (by omega)
  | false =>
    refine go_Ha ?_
    refine sl_call rfl rfl (by kernel_rfl) rfl (by exact sub_) (same_ok (Vw.of_own (e := 65) (A := A6) (c := c6) (by exact at_)) (hur.mono (by exact sub_)) (by rw [← e2]; omega)) ?_; rintro _ -
    refine go_Ha ?_
    exact se_round (j + 1) (by exact has_) (by exact sub_) (by omega) (by omega)
end Go.Proofs.Ytdmeofobljjpfaa
