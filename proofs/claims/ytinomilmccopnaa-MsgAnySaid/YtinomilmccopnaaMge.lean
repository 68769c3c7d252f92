/- The law's own check of a message. -/
import Derived.Test.YtinomilmccopnaaMg6
import Derived.Test.YtinomilmccopnaaAp
namespace Go.Proofs.Ytinomilmccopnaa
open Go.RowKit
attribute [local irreducible] Go.Calls Go.Exit.then Go.Exit.inBlock Go.bodyPost Go.Code.wp Go.wpList
theorem entCheck_en (e : En) : entCheck e.ab = if 1099511627776 < e.t ∨ e.code < 0 ∨ 31 < e.code then 6 else if 65536 < (e.n : Int) ∨ 65536 < (e.m : Int) then 4 else 0 := by
  show (if _ then (6 : Int) else if 65536 < ((e.pub.length : Nat) : Int) ∨ 65536 < ((e.sh.length : Nat) : Int) then 4 else 0) = _
  rw [e.pl, e.sl]
  rfl
theorem nth_Mge {φ : Prop} (h : φ := by (first | rfl | first | exact En.nt _ | exact En.np _ | exact En.ns _ | exact En.nc _ | exact Me.ne _ | exact Me.nd _)) : φ := h
theorem mid_Mge {φ : Prop} (h : φ := by (first | first | exact En.mid _ | exact Me.mid _ | exact Mid.all | exact Mid.head)) : φ := h
theorem sz_Mge {φ : Prop} (h : φ := by (first | rfl | (first | (simp only [En.len, Me.len, bytes_length, Id.len, zm_len]; rfl) | simp only [En.len, Me.len, bytes_length, Id.len, zm_len]; first | done | fail))) : φ := h
theorem one_Mge {φ : Prop} (h : φ := by (first | assumption | exact first | exact En.one _ | exact Me.one _ | (simp only [List.mem_cons, List.not_mem_nil, or_false, forall_eq_or_imp, forall_eq]; decide) | exact one_bytes _)) : φ := h
theorem set_Mge {φ : Prop} (h : φ := by (first | (fail) | ((repeat (first | exact SetAt.here | apply SetAt.there)); first | done | fail))) : φ := h
theorem cl_Mge {φ : Prop} (h : φ := by first | rfl | exact .t | exact .f | exact .t (by omega) | exact .f (by omega) | exact .u | exact .i (by (first | exact .t (by omega) | exact .f (by omega) | exact .u | exact .i (by omega) | exact .v (by omega) | exact .b (by omega) | exact .w | rfl | omega)) | exact .v (by omega) | exact .b (by omega) | exact .q (by omega) | exact .w | exact .b (by exact at_) rfl (by exact nth_Mge) | exact .w (by exact at_) rfl rfl (by exact sz_Mge) | exact .s (by exact at_) (by exact mid_Mge) rfl rfl (by exact sz_Mge) | exact .z rfl rfl ⟨by kernel_rfl⟩ | exact .b rfl rfl ⟨by kernel_rfl⟩ | exact .a rfl rfl ⟨by kernel_rfl⟩ | exact .o rfl | exact .s | exact .n | exact .p rfl | exact .q rfl | exact .c rfl | exact .d rfl | exact .n rfl rfl (by omega) | exact .a rfl rfl (by omega) | exact .p rfl rfl (by omega) (by omega) | exact .y rfl rfl (by omega) (by omega) | exact .o (by exact at_) (by omega) rfl (by exact nth_Mge) | exact .m (by exact at_) (by omega) (by exact mid_Mge) rfl rfl (by exact sz_Mge) | exact .mlen (by exact at_) rfl | exact .t (by exact at_) rfl rfl (by first | exact True.intro | rfl) (by assumption) | exact .f (by exact at_) rfl rfl (by first | exact True.intro | rfl) (by assumption) rfl | exact .t1 (by exact at_) rfl rfl (by first | exact True.intro | rfl) (by assumption) | exact .f1 (by exact at_) rfl rfl (by first | exact True.intro | rfl) (by assumption) rfl | exact .r rfl rfl (by omega) (by omega) (by exact nth_Mge) rfl | exact .s rfl (by omega) (by assumption) | exact at_ | assumption | exact .r rfl rfl | exact .h rfl rfl rfl (by omega) | exact .l rfl rfl rfl (by omega) (by omega) | exact .g rfl rfl rfl rfl (by omega) (by omega) | exact .h rfl rfl (toN_ (by omega)) (by omega) | exact .l rfl rfl (toN_ (by omega)) (by omega) (by omega) | exact .g rfl rfl (toN_ (by omega)) (toN_ (by omega)) (by omega) (by omega) | exact .o (by decide) | exact .f (by decide) | exact .n (by omega) (by first | decide | (show _ ≤ ((64 : Nat) : Int); omega)) | (constructor; (repeat (first | exact .t (by omega) | exact .f (by omega) | exact .u | exact .i (by omega) | exact .v (by omega) | exact .b (by omega) | exact .w | rfl | omega)); first | done | fail) | omega | (show _ ≤ ((64 : Nat) : Int); omega)) : φ := h
theorem pv_Mge {φ : Prop} (h : φ := by constructor; (repeat exact cl_Mge); first | done | fail) : φ := h
theorem su_Mge {φ ψ : Prop} (k : ψ) (h : Hide ψ → φ := by (intro k; (first | refine sl_pu (PuI.sep (by exact pv_Mge)) rfl ?_ | refine sl_yes rfl rfl ?_ | refine sl_no rfl rfl rfl ?_ | refine sl_off rfl rfl rfl ?_); exact k.out)) : φ := h ⟨k⟩
theorem rq_Mge {φ ψ : Prop} (k : ψ) (h : Hide ψ → φ := by (intro k; (first | refine wq_pu (PuI.sep (by exact pv_Mge)) rfl ?_ | refine wq_yes rfl rfl ?_ | refine wq_no rfl rfl rfl ?_ | refine wq_off rfl rfl rfl ?_); exact k.out)) : φ := h ⟨k⟩
theorem sto_Mge {φ ψ : Prop} (k : ψ) (h : Hide ψ → φ := by (intro k; (first | refine sl_store rfl (by exact pick_) rfl rfl (by kernel_rfl) (by exact set_Mge) ?_ | refine sl_store_whole rfl (by exact pick_) rfl (by exact sz_Mge) (by exact sz_Mge) (by exact one_Mge) ?_); exact k.out)) : φ := h ⟨k⟩
theorem go_Mge {φ ψ : Prop} (k : ψ) (h : Hide ψ → φ := by (intro k; (repeat (first | refine su_Mge ?_ | refine so_ ?_ | refine sto_Mge ?_)); exact k.out)) : φ := h ⟨k⟩
set_option maxRecDepth 100000 in
set_option maxHeartbeats 8000000 in
theorem lawCheck_ok {K : List Fa} {m : Me} (hr : MeV K m) (hn : m.es.length ≤ 1000000000000000) : Fn Try.prog 54 #[m.v] K (Ret (fun _ : Unit => True) (fun _ => .int .i64 (msgCheck m.ab)) (fun _ => K)) := by
  refine fn_enter Try.func54 rfl _ Try.ntmps54 (by simp) [(0, m.v)] (args_of (by simp)) ?_
  refine go_Mge ?_
  refine sl_box rfl rfl rfl ?_; intro g
  refine su_Mge ?_
  refine so_ ?_
  refine so_ ?_
  refine so_ ?_
  refine so_ ?_
  refine su_Mge ?_
  refine so_ ?_
  refine so_ ?_
  refine so_ ?_
  refine so_ ?_
  refine sc_bjoin (fun _ : Unit => [(1, .pointer (some ⟨g, 0, none⟩)), (3, .int .u64 1099511627776)]) (fun _ => msgB g m :: K) (fun _ => msgCheck m.ab = firstBad (m.es.map En.ab)) ?_ ?_
  · by_cases k1 : m.kind < 1
    · rw [msgCheck_k (.inl k1)]
      refine go_Mge ?_
      exact se_ret1 () trivial rfl rfl (by exact sub_)
    by_cases k2 : 7 < m.kind
    · rw [msgCheck_k (.inr k2)]
      refine go_Mge ?_
      exact se_ret1 () trivial rfl rfl (by exact sub_)
    have k0 : ¬ (m.kind < 1 ∨ 7 < m.kind) := by omega
    by_cases d1 : 1099511627776 < m.job
    · rw [msgCheck_h k0 (.inl d1)]
      refine go_Mge ?_
      exact se_ret1 () trivial rfl rfl (by exact sub_)
    by_cases d2 : 1099511627776 < m.start
    · rw [msgCheck_h k0 (.inr (.inl d2))]
      refine go_Mge ?_
      exact se_ret1 () trivial rfl rfl (by exact sub_)
    by_cases d3 : m.many < 0
    · rw [msgCheck_h k0 (.inr (.inr (.inl d3)))]
      refine go_Mge ?_
      exact se_ret1 () trivial rfl rfl (by exact sub_)
    by_cases d4 : 256 < m.many
    · rw [msgCheck_h k0 (.inr (.inr (.inr (.inl d4))))]
      refine go_Mge ?_
      exact se_ret1 () trivial rfl rfl (by exact sub_)
    by_cases d5 : m.code < 0
    · rw [msgCheck_h k0 (.inr (.inr (.inr (.inr (.inl d5)))))]
      refine go_Mge ?_
      exact se_ret1 () trivial rfl rfl (by exact sub_)
    by_cases d6 : 31 < m.code
    · rw [msgCheck_h k0 (.inr (.inr (.inr (.inr (.inr d6)))))]
      refine go_Mge ?_
      exact se_ret1 () trivial rfl rfl (by exact sub_)
    have d0 : ¬ (1099511627776 < m.job ∨ 1099511627776 < m.start ∨ m.many < 0 ∨ 256 < m.many ∨ m.code < 0 ∨ 31 < m.code) := by omega
    by_cases n1 : 256 < (m.es.length : Int)
    · rw [msgCheck_n k0 d0 n1]
      refine go_Mge ?_
      exact se_ret1 () trivial rfl rfl (by exact sub_)
    by_cases q1 : m.kind = 1
    · by_cases l1 : (m.es.length : Int) = 1
      · refine go_Mge ?_
        exact se_mid () (by exact has_) (by exact sub_) (msgCheck_e k0 d0 n1 (fun h => h.2 l1))
      · rw [msgCheck_f k0 d0 n1 ⟨.inl q1, l1⟩]
        refine go_Mge ?_
        exact se_ret1 () trivial rfl rfl (by exact sub_)
    by_cases q7 : m.kind = 7
    · by_cases l1 : (m.es.length : Int) = 1
      · refine go_Mge ?_
        exact se_mid () (by exact has_) (by exact sub_) (msgCheck_e k0 d0 n1 (fun h => h.2 l1))
      · rw [msgCheck_f k0 d0 n1 ⟨.inr q7, l1⟩]
        refine go_Mge ?_
        exact se_ret1 () trivial rfl rfl (by exact sub_)
    · refine go_Mge ?_
      exact se_mid () (by exact has_) (by exact sub_) (msgCheck_e k0 d0 n1 (fun h => h.1.elim q1 q7))
  rintro _ hC
  rw [hC]
  refine go_Mge ?_
  (refine sc_for (fun j : Nat => [(3, .int .u64 1099511627776), (67, .slice m.A m.es.length m.c), (68, .int .i64 m.es.length), (69, .int .i64 j)]) (fun _ => msgB g m :: K) (fun j => j ≤ m.es.length ∧ firstBad (m.es.map En.ab) = firstBad ((m.es.drop j).map En.ab)) (fun j => m.es.length - j) 0 (by exact has_) (by exact sub_) ⟨Nat.zero_le _, rfl⟩ ?_; rintro j ⟨hj, hfb⟩; by_cases hlt : j < m.es.length)
  · obtain ⟨e, he⟩ : ∃ e, m.es[j]? = some e := ⟨_, List.getElem?_eq_getElem hlt⟩
    (refine sc_know (vw_form (hr.row.mono (by exact sub_)) (by omega)) ?_; rintro ⟨ad, hA⟩; have hrow := hr.row; rw [hA] at hrow ⊢; refine go_Mge ?_; refine sl_pu (pu_ldrs (hrow.mono (by exact sub_)) (by omega) rfl (rows_mid En.len he) rfl rfl (by exact sz_Mge)) rfl ?_; (refine sl_alloc rfl rfl rfl ?_; intro ge); rw [fb_step he] at hfb)
    have hE := entCheck_en e
    by_cases t1 : 1099511627776 < e.t
    · rw [if_pos (.inl t1)] at hE
      rw [if_neg (by omega), hE] at hfb
      rw [hfb]
      refine go_Mge ?_
      exact se_ret1 () trivial rfl rfl (by exact sub_)
    by_cases c1 : e.code < 0
    · rw [if_pos (.inr (.inl c1))] at hE
      rw [if_neg (by omega), hE] at hfb
      rw [hfb]
      refine go_Mge ?_
      exact se_ret1 () trivial rfl rfl (by exact sub_)
    by_cases c2 : 31 < e.code
    · rw [if_pos (.inr (.inr c2))] at hE
      rw [if_neg (by omega), hE] at hfb
      rw [hfb]
      refine go_Mge ?_
      exact se_ret1 () trivial rfl rfl (by exact sub_)
    rw [if_neg (by omega)] at hE
    by_cases p1 : 65536 < (e.n : Int)
    · rw [if_pos (.inl p1)] at hE
      rw [if_neg (by omega), hE] at hfb
      rw [hfb]
      refine go_Mge ?_
      exact se_ret1 () trivial rfl rfl (by exact sub_)
    by_cases s1 : 65536 < (e.m : Int)
    · rw [if_pos (.inr s1)] at hE
      rw [if_neg (by omega), hE] at hfb
      rw [hfb]
      refine go_Mge ?_
      exact se_ret1 () trivial rfl rfl (by exact sub_)
    rw [if_neg (by omega)] at hE
    rw [if_pos hE] at hfb
    refine go_Mge ?_
    exact se_round (j + 1) (by exact has_) (by exact sub_) ⟨hlt, hfb⟩ (by omega)
  · obtain rfl : j = m.es.length := (by omega)
    rw [List.drop_length] at hfb
    rw [hfb]
    refine go_Mge ?_
    exact se_ret1 () trivial rfl rfl (by exact sub_)
end Go.Proofs.Ytinomilmccopnaa
