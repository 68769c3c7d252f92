/- Whether two messages are the same. -/
import Derived.Test.YtinomilmccopnaaMg1
import Derived.Test.YtinomilmccopnaaStr
import Derived.Test.YtinomilmccopnaaAp
namespace Go.Proofs.Ytinomilmccopnaa
open Go.RowKit
attribute [local irreducible] Go.Calls Go.Exit.then Go.Exit.inBlock Go.bodyPost Go.Code.wp Go.wpList
theorem En.pubB (e : En) : IsBytes e.pub := e.pb.take _
theorem En.shB (e : En) : IsBytes e.sh := e.sb.take _
instance : DecidableEq Ent := fun a b => if h : a.id = b.id ∧ a.time = b.time ∧ a.pub = b.pub ∧ a.share = b.share ∧ a.code = b.code then .isTrue (by cases a; cases b; simp at h; obtain ⟨h1, h2, h3, h4, h5⟩ := h; subst h1 h2 h3 h4 h5; rfl) else .isFalse (fun e => h (by subst e; exact ⟨rfl, rfl, rfl, rfl, rfl⟩))
theorem ent_ne {a b : En} (h : ¬ (a.id.l = b.id.l ∧ a.t = b.t ∧ a.code = b.code ∧ a.pub = b.pub ∧ a.sh = b.sh)) : decide (a.ab = b.ab) = false := by
  refine decide_eq_false fun e => h ?_
  unfold En.ab at e
  injection e with h1 h2 h3 h4 h5
  exact ⟨h1, h2, h5, h3, h4⟩
theorem ent_eq {a b : En} (h : a.id.l = b.id.l ∧ a.t = b.t ∧ a.code = b.code ∧ a.pub = b.pub ∧ a.sh = b.sh) : decide (a.ab = b.ab) = true := by
  obtain ⟨h1, h2, h5, h3, h4⟩ := h
  refine decide_eq_true ?_
  unfold En.ab
  rw [h1, h2, h3, h4, h5]
theorem nth_Mg2 {φ : Prop} (h : φ := by (first | rfl | first | exact En.nt _ | exact En.np _ | exact En.ns _ | exact En.nc _ | exact Me.ne _ | exact Me.nd _)) : φ := h
theorem mid_Mg2 {φ : Prop} (h : φ := by (first | first | exact En.mid _ | exact Me.mid _ | exact Mid.all | exact Mid.head)) : φ := h
theorem sz_Mg2 {φ : Prop} (h : φ := by (first | rfl | (first | (simp only [En.len, Me.len, bytes_length, Id.len]; rfl) | simp only [En.len, Me.len, bytes_length, Id.len]; first | done | fail))) : φ := h
theorem one_Mg2 {φ : Prop} (h : φ := by (first | assumption | exact first | exact En.one _ | exact Me.one _ | (simp only [List.mem_cons, List.not_mem_nil, or_false, forall_eq_or_imp, forall_eq]; decide) | exact one_bytes _)) : φ := h
theorem set_Mg2 {φ : Prop} (h : φ := by (first | (fail) | ((repeat (first | exact SetAt.here | apply SetAt.there)); first | done | fail))) : φ := h
theorem cl_Mg2 {φ : Prop} (h : φ := by first | rfl | exact .t | exact .f | exact .t (by omega) | exact .f (by omega) | exact .u | exact .i (by (first | exact .t (by omega) | exact .f (by omega) | exact .u | exact .i (by omega) | exact .v (by omega) | exact .b (by omega) | exact .w | rfl | omega)) | exact .v (by omega) | exact .b (by omega) | exact .q (by omega) | exact .w | exact .b (by exact at_) rfl (by exact nth_Mg2) | exact .w (by exact at_) rfl rfl (by exact sz_Mg2) | exact .s (by exact at_) (by exact mid_Mg2) rfl rfl (by exact sz_Mg2) | exact .z rfl rfl ⟨by kernel_rfl⟩ | exact .b rfl rfl ⟨by kernel_rfl⟩ | exact .a rfl rfl ⟨by kernel_rfl⟩ | exact .o rfl | exact .s | exact .n | exact .p rfl | exact .q rfl | exact .c rfl | exact .d rfl | exact .n rfl rfl (by omega) | exact .a rfl rfl (by omega) | exact .p rfl rfl (by omega) (by omega) | exact .y rfl rfl (by omega) (by omega) | exact .o (by exact at_) (by omega) rfl (by exact nth_Mg2) | exact .m (by exact at_) (by omega) (by exact mid_Mg2) rfl rfl (by exact sz_Mg2) | exact .mlen (by exact at_) rfl | exact .t (by exact at_) rfl rfl (by first | exact True.intro | rfl) (by assumption) | exact .f (by exact at_) rfl rfl (by first | exact True.intro | rfl) (by assumption) rfl | exact .t1 (by exact at_) rfl rfl (by first | exact True.intro | rfl) (by assumption) | exact .f1 (by exact at_) rfl rfl (by first | exact True.intro | rfl) (by assumption) rfl | exact .r rfl rfl (by omega) (by omega) (by exact nth_Mg2) rfl | exact .s rfl (by omega) (by assumption) | exact at_ | assumption | exact .r rfl rfl | exact .h rfl rfl rfl (by omega) | exact .l rfl rfl rfl (by omega) (by omega) | exact .g rfl rfl rfl rfl (by omega) (by omega) | exact .h rfl rfl (toN_ (by omega)) (by omega) | exact .l rfl rfl (toN_ (by omega)) (by omega) (by omega) | exact .g rfl rfl (toN_ (by omega)) (toN_ (by omega)) (by omega) (by omega) | exact .o (by decide) | exact .f (by decide) | exact .n (by omega) (by first | decide | (show _ ≤ ((64 : Nat) : Int); omega)) | (constructor; (repeat (first | exact .t (by omega) | exact .f (by omega) | exact .u | exact .i (by omega) | exact .v (by omega) | exact .b (by omega) | exact .w | rfl | omega)); first | done | fail) | omega | (show _ ≤ ((64 : Nat) : Int); omega)) : φ := h
theorem pv_Mg2 {φ : Prop} (h : φ := by constructor; (repeat exact cl_Mg2); first | done | fail) : φ := h
theorem su_Mg2 {φ ψ : Prop} (k : ψ) (h : Hide ψ → φ := by (intro k; (first | refine sl_pu (PuI.sep (by exact pv_Mg2)) rfl ?_ | refine sl_yes rfl rfl ?_ | refine sl_no rfl rfl rfl ?_ | refine sl_off rfl rfl rfl ?_); exact k.out)) : φ := h ⟨k⟩
theorem rq_Mg2 {φ ψ : Prop} (k : ψ) (h : Hide ψ → φ := by (intro k; (first | refine wq_pu (PuI.sep (by exact pv_Mg2)) rfl ?_ | refine wq_yes rfl rfl ?_ | refine wq_no rfl rfl rfl ?_ | refine wq_off rfl rfl rfl ?_); exact k.out)) : φ := h ⟨k⟩
theorem sto_Mg2 {φ ψ : Prop} (k : ψ) (h : Hide ψ → φ := by (intro k; (first | refine sl_store rfl (by exact pick_) rfl rfl (by kernel_rfl) (by exact set_Mg2) ?_ | refine sl_store_whole rfl (by exact pick_) rfl (by exact sz_Mg2) (by exact sz_Mg2) (by exact one_Mg2) ?_); exact k.out)) : φ := h ⟨k⟩
theorem go_Mg2 {φ ψ : Prop} (k : ψ) (h : Hide ψ → φ := by (intro k; (repeat (first | refine su_Mg2 ?_ | refine so_ ?_ | refine sto_Mg2 ?_)); exact k.out)) : φ := h ⟨k⟩
set_option maxRecDepth 100000 in
set_option maxHeartbeats 2000000 in
theorem sameE_ok {K : List Fa} {a b : En} (ha : Vw K (fun w => EnR w a)) (hb : Vw K (fun w => EnR w b)) :
    Fn Try.prog 63 #[a.v, b.v] K (Ret (fun _ : Unit => True) (fun _ => .bool (decide (a.ab = b.ab))) (fun _ => K)) := by
  refine fn_enter Try.func63 rfl _ Try.ntmps63 (by simp) [(0, a.v), (1, b.v)] (args_of (by simp)) ?_
  refine go_Mg2 ?_
  refine sl_box rfl rfl rfl ?_; intro ga
  refine sl_box rfl rfl rfl ?_; intro gb
  have ha1 : Vw (blk gb 50 b.cells :: blk ga 50 a.cells :: K) (fun w => Reads w 1 a.A a.n (bytes a.pub)) := fun w hw => (ha w hw.tl.tl).1
  have ha2 : Vw (blk gb 50 b.cells :: blk ga 50 a.cells :: K) (fun w => Reads w 1 a.B a.m (bytes a.sh)) := fun w hw => (ha w hw.tl.tl).2
  have hb1 : Vw (blk gb 50 b.cells :: blk ga 50 a.cells :: K) (fun w => Reads w 1 b.A b.n (bytes b.pub)) := fun w hw => (hb w hw.tl.tl).1
  have hb2 : Vw (blk gb 50 b.cells :: blk ga 50 a.cells :: K) (fun w => Reads w 1 b.B b.m (bytes b.sh)) := fun w hw => (hb w hw.tl.tl).2
  refine go_Mg2 ?_
  refine sl_pu (pu_eqlb rfl rfl rfl rfl (by kernel_rfl) (by kernel_rfl) a.id.len b.id.len a.id.ok b.id.ok) rfl ?_
  by_cases h1 : a.id.l = b.id.l
  · rw [decide_eq_true h1]
    by_cases h2 : a.t = b.t
    · by_cases h3 : a.code = b.code
      · refine go_Mg2 ?_
        refine sl_pu (pu_strv ha1 rfl rfl rfl rfl) rfl ?_
        refine go_Mg2 ?_
        refine sl_pu (pu_strv hb1 rfl rfl rfl rfl) rfl ?_
        refine go_Mg2 ?_
        rw [strs_dec a.pubB b.pubB]
        by_cases h4 : a.pub = b.pub
        · rw [decide_eq_true h4]
          refine go_Mg2 ?_
          refine sl_pu (pu_strv ha2 rfl rfl rfl rfl) rfl ?_
          refine go_Mg2 ?_
          refine sl_pu (pu_strv hb2 rfl rfl rfl rfl) rfl ?_
          refine go_Mg2 ?_
          rw [strs_dec a.shB b.shB]
          by_cases h5 : a.sh = b.sh
          · rw [ent_eq ⟨h1, h2, h3, h4, h5⟩, decide_eq_true h5]
            refine go_Mg2 ?_
            exact se_ret1 () trivial rfl rfl (by exact sub_)
          · rw [ent_ne (fun h => h5 h.2.2.2.2), decide_eq_false h5]
            refine go_Mg2 ?_
            exact se_ret1 () trivial rfl rfl (by exact sub_)
        · rw [ent_ne (fun h => h4 h.2.2.2.1), decide_eq_false h4]
          refine go_Mg2 ?_
          exact se_ret1 () trivial rfl rfl (by exact sub_)
      · rw [ent_ne (fun h => h3 h.2.2.1)]
        refine go_Mg2 ?_
        exact se_ret1 () trivial rfl rfl (by exact sub_)
    · rw [ent_ne (fun h => h2 h.2.1)]
      refine go_Mg2 ?_
      exact se_ret1 () trivial rfl rfl (by exact sub_)
  · rw [ent_ne (fun h => h1 h.1), decide_eq_false h1]
    refine go_Mg2 ?_
    exact se_ret1 () trivial rfl rfl (by exact sub_)

/-! Two messages. -/
def sameH (a b : Me) : Prop := a.kind = b.kind ∧ a.job = b.job ∧ a.start = b.start ∧ a.many = b.many ∧ a.sum.l = b.sum.l ∧ a.code = b.code
instance (a b : Me) : Decidable (sameH a b) := by unfold sameH; infer_instance
def sameM (a b : Me) : Bool := decide (sameH a b) && decide (a.es.map En.ab = b.es.map En.ab)
theorem sameM_head {a b : Me} (h : ¬ sameH a b) : sameM a b = false := by simp [sameM, h]
theorem sameM_len {a b : Me} (h : a.es.length ≠ b.es.length) : sameM a b = false := by
  have : ¬ (a.es.map En.ab = b.es.map En.ab) := fun e => h (by simpa using congrArg List.length e)
  simp [sameM, this]
theorem sameM_iff {a b : Me} : sameM a b = true ↔ a.ab = b.ab := by
  unfold sameM
  rw [Bool.and_eq_true, decide_eq_true_iff, decide_eq_true_iff]
  unfold sameH Me.ab
  constructor
  · rintro ⟨⟨h1, h2, h3, h4, h5, h6⟩, h7⟩
    rw [h1, h2, h3, h4, h5, h6, h7]
  · intro h
    injection h with h1 h2 h3 h4 h5 h6 h7
    exact ⟨⟨h1, h2, h3, h4, h5, h6⟩, h7⟩
set_option maxRecDepth 100000 in
set_option maxHeartbeats 4000000 in
theorem Same_ok {K : List Fa} {a b : Me} (ha : MeV K a) (hb : MeV K b) (hn : a.es.length ≤ 1000000000000000) (hm : b.es.length ≤ 1000000000000000) :
    Fn Try.prog 41 #[a.v, b.v] K (Ret (fun _ : Unit => True) (fun _ => .bool (sameM a b)) (fun _ => K)) := by
  refine fn_enter Try.func41 rfl _ Try.ntmps41 (by simp) [(0, a.v), (1, b.v)] (args_of (by simp)) ?_
  refine go_Mg2 ?_
  refine sl_box rfl rfl rfl ?_; intro ga
  refine sl_box rfl rfl rfl ?_; intro gb
  by_cases h1 : a.kind = b.kind
  · by_cases h2 : a.job = b.job
    · by_cases h3 : a.start = b.start
      · by_cases h4 : a.many = b.many
        · refine go_Mg2 ?_
          refine sl_pu (pu_neqlb rfl rfl rfl rfl (by kernel_rfl) (by kernel_rfl) a.sum.len b.sum.len a.sum.ok b.sum.ok) rfl ?_
          by_cases h5 : a.sum.l = b.sum.l
          · rw [show (!decide (a.sum.l = b.sum.l)) = false from by simp [h5]]
            by_cases h6 : a.code = b.code
            · by_cases h7 : a.es.length = b.es.length
              · refine go_Mg2 ?_
                have hab : sameH a b := ⟨h1, h2, h3, h4, h5, h6⟩
                refine sc_for (fun j : Nat => [(2, .pointer (some ⟨ga, 0, none⟩)), (3, .pointer (some ⟨gb, 0, none⟩)), (57, .int .i64 a.es.length), (58, .int .i64 j)]) (fun _ => msgB gb b :: msgB ga a :: K) (fun j => j ≤ a.es.length ∧ (a.es.take j).map En.ab = (b.es.take j).map En.ab) (fun j => a.es.length - j) 0 (by exact has_) (by exact sub_) ⟨Nat.zero_le _, rfl⟩ ?_
                rintro j ⟨hj, hpre⟩
                by_cases hlt : j < a.es.length
                · obtain ⟨x, hx⟩ : ∃ x, a.es[j]? = some x := ⟨_, List.getElem?_eq_getElem hlt⟩
                  obtain ⟨y, hy⟩ : ∃ y, b.es[j]? = some y := ⟨_, List.getElem?_eq_getElem (by omega)⟩
                  obtain ⟨hx1, hx2⟩ := List.getElem?_eq_some_iff.1 hx
                  obtain ⟨hy1, hy2⟩ := List.getElem?_eq_some_iff.1 hy
                  have hra := ha.row.mono (L' := msgB gb b :: msgB ga a :: K) (by exact sub_)
                  have hrb := hb.row.mono (L' := msgB gb b :: msgB ga a :: K) (by exact sub_)
                  refine sc_know (vw_form hra (by omega)) ?_
                  rintro ⟨ad, hA⟩
                  refine sc_know (vw_form hrb (by omega)) ?_
                  rintro ⟨bd, hB⟩
                  have hna : nth a.cells 21 = some (.slice (some ad) a.es.length a.c) := by rw [a.ne, hA]
                  have hnb : nth b.cells 21 = some (.slice (some bd) b.es.length b.c) := by rw [b.ne, hB]
                  rw [hA] at hra
                  rw [hB] at hrb
                  refine go_Mg2 ?_
                  refine sq_region (by kernel_rfl) (by kernel_rfl) ?_
                  refine wq_pu (PuI.sep (by exact pv_Mg2)) rfl ?_
                  refine wq_pu (pu_ldb (by exact at_) rfl rfl hna) rfl ?_
                  repeat refine rq_Mg2 ?_
                  refine wq_pu (pu_ldrs hra (by omega) rfl (rows_mid En.len hx) rfl rfl (by exact sz_Mg2)) rfl ?_
                  refine wq_pu (PuI.sep (by exact pv_Mg2)) rfl ?_
                  refine wq_pu (pu_ldb (by exact at_) rfl rfl hnb) rfl ?_
                  repeat refine rq_Mg2 ?_
                  refine wq_pu (pu_ldrs hrb (by omega) rfl (rows_mid En.len hy) rfl rfl (by exact sz_Mg2)) rfl ?_
                  refine WQ_call rfl rfl (by kernel_rfl) rfl (sameE_ok ((ha.ent (List.mem_of_getElem? hx)).mono (by exact sub_)) ((hb.ent (List.mem_of_getElem? hy)).mono (by exact sub_))) ?_
                  by_cases hxy : x.ab = y.ab
                  · rw [decide_eq_true hxy]
                    repeat refine rq_Mg2 ?_
                    refine sq_end ?_
                    refine go_Mg2 ?_
                    refine se_round (j + 1) (by exact has_) (by exact sub_) ⟨hlt, ?_⟩ (by omega)
                    rw [List.take_succ_eq_append_getElem hx1, List.take_succ_eq_append_getElem hy1, List.map_append, List.map_append, hpre, hx2, hy2]
                    simp [hxy]
                  · rw [decide_eq_false hxy]
                    repeat refine rq_Mg2 ?_
                    refine sq_end ?_
                    have : ¬ (a.es.map En.ab = b.es.map En.ab) := fun e => hxy (by
                      have h := congrArg (fun l : List Ent => l[j]?) e
                      simp only [List.getElem?_map, hx, hy, Option.map_some] at h
                      exact Option.some.inj h)
                    rw [show sameM a b = false from by simp [sameM, this]]
                    refine go_Mg2 ?_
                    exact se_ret1 () trivial rfl rfl (by exact sub_)
                · obtain rfl : j = a.es.length := by omega
                  rw [List.take_length, h7, List.take_length] at hpre
                  rw [show sameM a b = true from by simp [sameM, hab, hpre]]
                  refine go_Mg2 ?_
                  exact se_ret1 () trivial rfl rfl (by exact sub_)
              · rw [sameM_len h7]
                refine go_Mg2 ?_
                exact se_ret1 () trivial rfl rfl (by exact sub_)
            · rw [sameM_head (fun h => h6 h.2.2.2.2.2)]
              refine go_Mg2 ?_
              exact se_ret1 () trivial rfl rfl (by exact sub_)
          · rw [sameM_head (fun h => h5 h.2.2.2.2.1), show (!decide (a.sum.l = b.sum.l)) = true from by simp [h5]]
            refine go_Mg2 ?_
            exact se_ret1 () trivial rfl rfl (by exact sub_)
        · rw [sameM_head (fun h => h4 h.2.2.2.1)]
          refine go_Mg2 ?_
          exact se_ret1 () trivial rfl rfl (by exact sub_)
      · rw [sameM_head (fun h => h3 h.2.2.1)]
        refine go_Mg2 ?_
        exact se_ret1 () trivial rfl rfl (by exact sub_)
    · rw [sameM_head (fun h => h2 h.2.1)]
      refine go_Mg2 ?_
      exact se_ret1 () trivial rfl rfl (by exact sub_)
  · rw [sameM_head (fun h => h1 h.1)]
    refine go_Mg2 ?_
    exact se_ret1 () trivial rfl rfl (by exact sub_)
end Go.Proofs.Ytinomilmccopnaa
