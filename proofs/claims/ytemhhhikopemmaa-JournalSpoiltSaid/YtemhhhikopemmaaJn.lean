/- Two lists of records: same. A journal of records read back. -/
import Derived.Test.YtemhhhikopemmaaJm
namespace Go.Proofs.Ytemhhhikopemmaa
open Go.RowKit
attribute [local irreducible] Go.Calls Go.Exit.then Go.Exit.inBlock Go.bodyPost Go.Code.wp Go.wpList takeL recordL hashL
theorem nth_Jn {φ : Prop} (h : φ := by (first | rfl | rfl)) : φ := h
theorem mid_Jn {φ : Prop} (h : φ := by (first | exact Mid.all | exact Mid.all | exact Mid.head)) : φ := h
theorem sz_Jn {φ : Prop} (h : φ := by (first | rfl | (rfl; first | done | fail))) : φ := h
theorem one_Jn {φ : Prop} (h : φ := by (first | assumption | exact one_bytes _ | (simp only [List.mem_cons, List.not_mem_nil, or_false, forall_eq_or_imp, forall_eq]; decide) | exact one_bytes _)) : φ := h
theorem set_Jn {φ : Prop} (h : φ := by (first | (fail) | ((repeat (first | exact SetAt.here | apply SetAt.there)); first | done | fail))) : φ := h
theorem cl_Jn {φ : Prop} (h : φ := by first | rfl | exact .t | exact .f | exact .t (by omega) | exact .f (by omega) | exact .u | exact .i (by (first | exact .t (by omega) | exact .f (by omega) | exact .u | exact .i (by omega) | exact .v (by omega) | exact .b (by omega) | exact .w | rfl | omega)) | exact .v (by omega) | exact .b (by omega) | exact .q (by omega) | exact .w | exact .b (by exact at_) rfl (by exact nth_Jn) | exact .w (by exact at_) rfl rfl (by exact sz_Jn) | exact .s (by exact at_) (by exact mid_Jn) rfl rfl (by exact sz_Jn) | exact .z rfl rfl ⟨by kernel_rfl⟩ | exact .b rfl rfl ⟨by kernel_rfl⟩ | exact .a rfl rfl ⟨by kernel_rfl⟩ | exact .o rfl | exact .s | exact .n | exact .p rfl | exact .q rfl | exact .c rfl | exact .d rfl | exact .n rfl rfl (by omega) | exact .a rfl rfl (by omega) | exact .p rfl rfl (by omega) (by omega) | exact .y rfl rfl (by omega) (by omega) | exact .o (by exact at_) (by omega) rfl (by exact nth_Jn) | exact .m (by exact at_) (by omega) (by exact mid_Jn) rfl rfl (by exact sz_Jn) | exact .mlen (by exact at_) rfl | exact .t (by exact at_) rfl rfl (by first | exact True.intro | rfl) (by assumption) | exact .f (by exact at_) rfl rfl (by first | exact True.intro | rfl) (by assumption) rfl | exact .t1 (by exact at_) rfl rfl (by first | exact True.intro | rfl) (by assumption) | exact .f1 (by exact at_) rfl rfl (by first | exact True.intro | rfl) (by assumption) rfl | exact .r rfl rfl (by omega) (by omega) (by exact nth_Jn) rfl | exact .s rfl (by omega) (by assumption) | exact at_ | assumption | exact .r rfl rfl | exact .h rfl rfl rfl (by omega) | exact .l rfl rfl rfl (by omega) (by omega) | exact .g rfl rfl rfl rfl (by omega) (by omega) | exact .h rfl rfl (toN_ (by omega)) (by omega) | exact .l rfl rfl (toN_ (by omega)) (by omega) (by omega) | exact .g rfl rfl (toN_ (by omega)) (toN_ (by omega)) (by omega) (by omega) | exact .o (by decide) | exact .f (by decide) | exact .n (by omega) (by first | decide | (show _ ≤ ((64 : Nat) : Int); omega)) | (constructor; (repeat (first | exact .t (by omega) | exact .f (by omega) | exact .u | exact .i (by omega) | exact .v (by omega) | exact .b (by omega) | exact .w | rfl | omega)); first | done | fail) | omega | (show _ ≤ ((64 : Nat) : Int); omega)) : φ := h
theorem pv_Jn {φ : Prop} (h : φ := by constructor; (repeat exact cl_Jn); first | done | fail) : φ := h
theorem su_Jn {φ ψ : Prop} (k : ψ) (h : Hide ψ → φ := by (intro k; (first | refine sl_pu (PuI.sep (by exact pv_Jn)) rfl ?_ | refine sl_yes rfl rfl ?_ | refine sl_no rfl rfl rfl ?_ | refine sl_off rfl rfl rfl ?_ | (fail)); exact k.out)) : φ := h ⟨k⟩
theorem rq_Jn {φ ψ : Prop} (k : ψ) (h : Hide ψ → φ := by (intro k; (first | refine wq_pu (PuI.sep (by exact pv_Jn)) rfl ?_ | refine wq_yes rfl rfl ?_ | refine wq_no rfl rfl rfl ?_ | refine wq_off rfl rfl rfl ?_ | (fail)); exact k.out)) : φ := h ⟨k⟩
theorem sto_Jn {φ ψ : Prop} (k : ψ) (h : Hide ψ → φ := by (intro k; (first | refine sl_store rfl (by exact pick_) rfl rfl (by kernel_rfl) (by exact set_Jn) ?_ | refine sl_store_whole rfl (by exact pick_) rfl (by exact sz_Jn) (by exact sz_Jn) (by exact one_Jn) ?_); exact k.out)) : φ := h ⟨k⟩
theorem go_Jn {φ ψ : Prop} (k : ψ) (h : Hide ψ → φ := by (intro k; (repeat (first | refine su_Jn ?_ | refine so_ ?_ | refine sto_Jn ?_)); exact k.out)) : φ := h ⟨k⟩
set_option maxRecDepth 100000 in
set_option maxHeartbeats 2000000 in
theorem same_ok {K : List Fa} {R S : Option Addr} {c d : Nat} {xs ys : List Bx} (ha : LsV K R xs) (hb : LsV K S ys) (hn : xs.length ≤ 100000) :
    Fn Try.prog 17 #[.slice R xs.length c, .slice S ys.length d] K (Ret (fun _ : Unit => True) (fun _ => .bool (decide (xs.map Bx.l = ys.map Bx.l))) (fun _ => K)) := by
  refine fn_enter Try.func17 rfl _ Try.ntmps17 (by simp) [(0, .slice R xs.length c), (1, .slice S ys.length d)] (args_of (by simp)) ?_
  by_cases hl : xs.length ≠ ys.length
  · rw [decide_eq_false (fun e => hl (by have := congrArg List.length e; simpa using this))]
    refine go_Jn ?_
    exact se_ret1 () trivial rfl rfl (by exact sub_)
  replace hl := Classical.not_not.1 hl
  refine go_Jn ?_
  refine sc_for (fun i : Nat => [(0, .slice R xs.length c), (1, .slice S ys.length d), (12, .int .i64 xs.length), (13, .int .i64 i)]) (fun _ => K) (fun i => i ≤ xs.length ∧ (xs.map Bx.l).take i = (ys.map Bx.l).take i) (fun i => xs.length - i) 0 (by exact has_) (by exact sub_) ⟨Nat.zero_le _, rfl⟩ ?_
  rintro i ⟨hi, heq⟩
  by_cases hlt : i < xs.length
  · have hlt2 : i < ys.length := by omega
    have hx := ha.el _ (List.getElem_mem hlt)
    have hy := hb.el _ (List.getElem_mem hlt2)
    have t1 : (xs.map Bx.l).take (i + 1) = (xs.map Bx.l).take i ++ [xs[i].l] := by
      rw [List.take_succ_eq_append_getElem (by simpa using hlt)]
      simp
    have t2 : (ys.map Bx.l).take (i + 1) = (ys.map Bx.l).take i ++ [ys[i].l] := by
      rw [List.take_succ_eq_append_getElem (by simpa using hlt2)]
      simp
    refine sc_know (vw_form ha.vw (by omega)) ?_
    rintro ⟨ad, rfl⟩
    refine sc_know (vw_form hb.vw (by omega)) ?_
    rintro ⟨bd, rfl⟩
    refine go_Jn ?_
    refine sq_region (by kernel_rfl) (by kernel_rfl) ?_
    repeat refine rq_Jn ?_
    refine wq_pu (pu_ldr ha.vw (by omega) rfl rfl (bx_nth hlt)) rfl ?_
    repeat refine rq_Jn ?_
    refine wq_pu (pu_strv hx.vw rfl rfl rfl rfl) rfl ?_
    repeat refine rq_Jn ?_
    refine wq_pu (pu_ldr hb.vw (by omega) rfl rfl (bx_nth hlt2)) rfl ?_
    repeat refine rq_Jn ?_
    refine wq_pu (pu_strv hy.vw rfl rfl rfl rfl) rfl ?_
    repeat refine rq_Jn ?_
    refine sq_end ?_
    rw [strs_dec hx.okb hy.okb]
    by_cases he : xs[i].l = ys[i].l
    · rw [decide_eq_true he]
      refine go_Jn ?_
      exact se_round (i + 1) (by exact has_) (by exact sub_) ⟨hlt, by rw [t1, t2, heq, he]⟩ (by omega)
    · rw [decide_eq_false he, decide_eq_false (fun e => he (by
        have h1 := congrArg (fun l => l.take (i + 1)) e
        simp only [t1, t2, heq] at h1
        have h2 := List.append_cancel_left h1
        injection h2))]
      refine go_Jn ?_
      exact se_ret1 () trivial rfl rfl (by exact sub_)
  obtain rfl : i = xs.length := by omega
  rw [List.take_of_length_le (by simp), List.take_of_length_le (by simp; omega)] at heq
  rw [decide_eq_true heq]
  refine go_Jn ?_
  exact se_ret1 () trivial rfl rfl (by exact sub_)
attribute [local semireducible] hashL in
theorem hash_len8 {bs : List Int} : (hashL 9 bs 8).length = 8 := (hashL_ok 9 bs 8).1
/-- A cell that is laid says what it was laid for. -/
theorem cell_says {number follow : Nat} {part : List Int} (hp : part.length ≤ 48) (h1 : number < 16777216) (h2 : follow < 16777216) : saysL (bodyL number follow part) number = some (follow, part) := by
  have e1 : (bodyL number follow part).take 3 = le number 3 := by
    unfold bodyL
    rw [List.append_assoc, List.append_assoc, List.append_assoc, List.take_left' (le_len _ _)]
  have e2 : (bodyL number follow part).drop 3 = le follow 3 ++ (le part.length 2 ++ (part ++ zs (48 - part.length))) := by
    unfold bodyL
    rw [List.append_assoc, List.append_assoc, List.append_assoc, List.drop_left' (le_len _ _)]
  have e3 : (bodyL number follow part).drop 6 = le part.length 2 ++ (part ++ zs (48 - part.length)) := by
    rw [show 6 = 3 + 3 from rfl, ← List.drop_drop, e2, List.drop_left' (le_len _ _)]
  have e4 : (bodyL number follow part).drop 8 = part ++ zs (48 - part.length) := by
    rw [show 8 = 6 + 2 from rfl, ← List.drop_drop, e3, List.drop_left' (le_len _ _)]
  have v1 : leV ((bodyL number follow part).take 3) = number := by
    rw [e1, leV_le _ (by omega)]
    exact Int.emod_eq_of_lt (by omega) (by omega)
  have v2 : leV (((bodyL number follow part).drop 3).take 3) = follow := by
    rw [e2, List.take_left' (le_len _ _), leV_le _ (by omega)]
    exact Int.emod_eq_of_lt (by omega) (by omega)
  have v3 : leV (((bodyL number follow part).drop 6).take 2) = part.length := by
    rw [e3, List.take_left' (le_len _ _), leV_le _ (by omega)]
    exact Int.emod_eq_of_lt (by omega) (by omega)
  rw [saysL_eq (by rw [v3]; omega) v1 v3 v2, e4, List.take_of_length_le (l := part ++ zs (48 - part.length)) (by rw [List.length_append, zs_len]; omega), List.drop_left, List.take_left]
  rw [if_pos]
  rw [List.all_eq_true]
  intro x hx
  have := List.eq_of_mem_replicate hx
  subst this
  rfl
attribute [local semireducible] takeL in
theorem take_cell {pre post : List Int} {number follow : Nat} {part : List Int} (hpre : pre.length = number * 64) (hp : part.length ≤ 48) (h1 : number < 16777216) (h2 : follow < 16777216) : takeL (pre ++ cellL number follow part ++ post) number = some (follow, part) := by
  have hc := cellL_len (number := number) (follow := follow) hp
  have e1 : cutL (pre ++ cellL number follow part ++ post) number = cellL number follow part := by
    unfold cutL
    rw [List.append_assoc, List.drop_left' hpre, List.take_left' hc]
  unfold takeL
  rw [if_neg (by simp only [List.length_append, hpre, hc]; omega), e1]
  have e2 : (cellL number follow part).drop 8 = bodyL number follow part := List.drop_left' hash_len8
  have e3 : (cellL number follow part).take 8 = hashL 9 (bodyL number follow part) 8 := List.take_left' hash_len8
  rw [e2, e3, if_neg (fun h => h rfl), cell_says hp h1 h2]
end Go.Proofs.Ytemhhhikopemmaa
