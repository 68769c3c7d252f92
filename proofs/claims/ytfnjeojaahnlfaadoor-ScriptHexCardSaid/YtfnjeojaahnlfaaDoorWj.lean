/- ScriptHex's walk. -/
import Derived.Test.YtfnjeojaahnlfaaDoorWi
namespace Go.Proofs.YtfnjeojaahnlfaaDoor
open Go.RowKit
attribute [local irreducible] Go.Calls Go.Exit.then Go.Exit.inBlock Go.bodyPost Go.Code.wp Go.wpList
theorem all_take {l : List UInt8} {j : Nat} {c : UInt8} (h : l[j]? = some c) : (l.take (j + 1)).all okc = ((l.take j).all okc && okc c) := by
  obtain ⟨h1, h2⟩ := List.getElem?_eq_some_iff.1 h
  rw [List.take_succ_eq_append_getElem h1, List.all_append, h2]
  simp
theorem hexS_len (bs : List Int) : (hexS bs).size = if bs = [] then 1 else 2 * bs.length := by
  unfold hexS
  split
  · rfl
  · rw [sz_str, hexL_len]
theorem okc_lo {c : UInt8} (h : c.toNat < 48) : okc c = false := by
  unfold okc
  rw [decide_eq_false (by omega), decide_eq_false (by omega)]
  rfl
theorem okc_num {c : UInt8} (h : 48 ≤ c.toNat) (h2 : c.toNat ≤ 57) : okc c = true := by
  unfold okc
  rw [decide_eq_true ⟨h, h2⟩]
  rfl
theorem okc_mid {c : UInt8} (h : 57 < c.toNat) (h2 : c.toNat < 97) : okc c = false := by
  unfold okc
  rw [decide_eq_false (by omega), decide_eq_false (by omega)]
  rfl
theorem okc_let {c : UInt8} (h : 97 ≤ c.toNat) (h2 : c.toNat ≤ 102) : okc c = true := by
  unfold okc
  rw [decide_eq_true (p := 97 ≤ c.toNat ∧ c.toNat ≤ 102) ⟨h, h2⟩, Bool.or_true]
theorem okc_hi {c : UInt8} (h : 102 < c.toNat) : okc c = false := by
  unfold okc
  rw [decide_eq_false (by omega), decide_eq_false (by omega)]
  rfl
theorem nth_Wj {φ : Prop} (h : φ := by (first | rfl | rfl)) : φ := h
theorem mid_Wj {φ : Prop} (h : φ := by (first | exact Mid.all | exact Mid.all | exact Mid.head)) : φ := h
theorem sz_Wj {φ : Prop} (h : φ := by (first | rfl | (rfl; first | done | fail))) : φ := h
theorem one_Wj {φ : Prop} (h : φ := by (first | assumption | exact one_bytes _ | (simp only [List.mem_cons, List.not_mem_nil, or_false, forall_eq_or_imp, forall_eq]; decide) | exact one_bytes _ | (intro v hv; (repeat (rcases List.mem_cons.1 hv with rfl | hv; rfl)); cases hv))) : φ := h
theorem set_Wj {φ : Prop} (h : φ := by (first | (fail) | ((repeat (first | exact SetAt.here | apply SetAt.there)); first | done | fail))) : φ := h
theorem cl_Wj {φ : Prop} (h : φ := by first | rfl | exact .t | exact .f | exact .t (by omega) | exact .f (by omega) | exact .u | exact .i (by (first | exact .t (by omega) | exact .f (by omega) | exact .u | exact .i (by omega) | exact .v (by omega) | exact .b (by omega) | exact .w | rfl | omega)) | exact .v (by omega) | exact .b (by omega) | exact .q (by omega) | exact .w | exact .b (by exact at_) rfl (by exact nth_Wj) | exact .w (by exact at_) rfl rfl (by exact sz_Wj) | exact .s (by exact at_) (by exact mid_Wj) rfl rfl (by exact sz_Wj) | exact .z rfl rfl ⟨by kernel_rfl⟩ | exact .b rfl rfl ⟨by kernel_rfl⟩ | exact .a rfl rfl ⟨by kernel_rfl⟩ | exact .o rfl | exact .s | exact .n | exact .p rfl | exact .q rfl | exact .c rfl | exact .d rfl | exact .n rfl rfl (by omega) | exact .a rfl rfl (by omega) | exact .p rfl rfl (by omega) (by omega) | exact .y rfl rfl (by omega) (by omega) | exact .o (by exact at_) (by omega) rfl (by exact nth_Wj) | exact .m (by exact at_) (by omega) (by exact mid_Wj) rfl rfl (by exact sz_Wj) | exact .mlen (by exact at_) rfl | exact .t (by exact at_) rfl rfl (by first | exact True.intro | rfl) (by assumption) | exact .f (by exact at_) rfl rfl (by first | exact True.intro | rfl) (by assumption) rfl | exact .t1 (by exact at_) rfl rfl (by first | exact True.intro | rfl) (by assumption) | exact .f1 (by exact at_) rfl rfl (by first | exact True.intro | rfl) (by assumption) rfl | exact .r rfl rfl (by omega) (by omega) (by exact nth_Wj) rfl | exact .s rfl (by omega) (by assumption) | exact at_ | assumption | exact .r rfl rfl | exact .h rfl rfl rfl (by omega) | exact .l rfl rfl rfl (by omega) (by omega) | exact .g rfl rfl rfl rfl (by omega) (by omega) | exact .h rfl rfl (toN_ (by omega)) (by omega) | exact .l rfl rfl (toN_ (by omega)) (by omega) (by omega) | exact .g rfl rfl (toN_ (by omega)) (toN_ (by omega)) (by omega) (by omega) | exact .o (by decide) | exact .f (by decide) | exact .n (by omega) (by first | decide | (show _ ≤ ((64 : Nat) : Int); omega)) | (constructor; (repeat (first | exact .t (by omega) | exact .f (by omega) | exact .u | exact .i (by omega) | exact .v (by omega) | exact .b (by omega) | exact .w | rfl | omega)); first | done | fail) | omega | (show _ ≤ ((64 : Nat) : Int); omega)) : φ := h
theorem pv_Wj {φ : Prop} (h : φ := by constructor; (repeat exact cl_Wj); first | done | fail) : φ := h
theorem su_Wj {φ ψ : Prop} (k : ψ) (h : Hide ψ → φ := by (intro k; (first | refine sl_pu (PuI.sep (by exact pv_Wj)) rfl ?_ | refine sl_yes rfl rfl ?_ | refine sl_no rfl rfl rfl ?_ | refine sl_off rfl rfl rfl ?_ | (fail)); exact k.out)) : φ := h ⟨k⟩
theorem rq_Wj {φ ψ : Prop} (k : ψ) (h : Hide ψ → φ := by (intro k; (first | refine wq_pu (PuI.sep (by exact pv_Wj)) rfl ?_ | refine wq_yes rfl rfl ?_ | refine wq_no rfl rfl rfl ?_ | refine wq_off rfl rfl rfl ?_ | (fail)); exact k.out)) : φ := h ⟨k⟩
theorem sto_Wj {φ ψ : Prop} (k : ψ) (h : Hide ψ → φ := by (intro k; (first | refine sl_store rfl (by exact pick_) rfl rfl (by kernel_rfl) (by exact set_Wj) ?_ | refine sl_store_whole rfl (by exact pick_) rfl (by exact sz_Wj) (by exact sz_Wj) (by exact one_Wj) ?_); exact k.out)) : φ := h ⟨k⟩
theorem go_Wj {φ ψ : Prop} (k : ψ) (h : Hide ψ → φ := by (intro k; (repeat (first | refine su_Wj ?_ | refine so_ ?_ | refine sto_Wj ?_)); exact k.out)) : φ := h ⟨k⟩
set_option maxRecDepth 100000 in
set_option maxHeartbeats 8000000 in
theorem scriptHex_ok {K : List Fa} (hg : Vw K Glob) {B : Option Addr} {cb : Nat} {bs : List Int} {l : List UInt8} {n most : Nat} (hr : Vw K (fun w => Reads w 1 B bs.length (bytes bs))) (hb : IsBytes bs) (hn : n ≤ 18446744073709551615) (hm : most ≤ 18446744073709551615) :
    Fn Tryd.prog 3 #[.slice B bs.length cb, .string (sOf l), .int .u64 n, .int .u64 most] K (Ret (fun _ : Unit => True) (fun _ => .bool true) (fun _ => K)) := by
  have hz := sOf_size l
  refine fn_enter Tryd.func3 rfl _ Tryd.ntmps3 (by simp) [(0, .slice B bs.length cb), (1, .string (sOf l)), (2, .int .u64 n), (3, .int .u64 most)] (args_of (by simp)) ?_
  refine go_Wj ?_
  refine sl_call rfl rfl (by kernel_rfl) rfl Sub.refl (awake28_ok hg) ?_
  rintro _ -
  by_cases l1 : 200 < bs.length
  · refine go_Wj ?_
    exact se_ret1 () trivial rfl rfl (by exact sub_)
  by_cases l2 : 100 < l.length
  · refine go_Wj ?_
    exact se_ret1 () trivial rfl rfl (by exact sub_)
  refine go_Wj ?_
  refine sl_call rfl rfl (by kernel_rfl) rfl Sub.refl (hex_ok hr hb (by omega)) ?_
  rintro _ -
  obtain ⟨hx, hxe⟩ : ∃ hx, hexS bs = sOf hx := ⟨(hexS bs).data.toList, (Lib.mk_data _).symm⟩
  have hxl : hx.length = if bs = [] then 1 else 2 * bs.length := by
    have := hexS_len bs
    rwa [hxe, sOf_size] at this
  have hun : unE hx = (0, bs) := by
    have := unE_hex hb (by omega)
    rwa [hxe] at this
  rw [hxe]
  refine go_Wj ?_
  have hc1 := unhex_ok (K := K) hx (by split at hxl <;> omega)
  rw [hun] at hc1
  refine sl_call rfl rfl (by kernel_rfl) rfl Sub.refl hc1 ?_
  rintro ⟨A1, c1⟩ -
  dsimp only
  refine go_Wj ?_
  refine sl_call rfl rfl (by kernel_rfl) rfl Sub.refl (unhex_ok l (by omega)) ?_
  rintro ⟨A2, c2⟩ -
  dsimp only
  repeat refine su_Wj ?_
  refine sl_nil ?_
  refine se_seq ?_
  refine sc_mid (α := Unit) (fun _ => [(1, .string (sOf l)), (2, .int .u64 n), (3, .int .u64 most), (12, .slice A2 (unE l).2.length c2), (13, .int .i64 (unE l).1)]) (fun _ => obs A2 c2 (unE l).2 :: K) (fun _ => True) ?_ ?_
  · refine go_Wj ?_
    refine sl_pu (pu_strv (bs := bs) (Vw.of_own (e := 5) (A := A1) (c := c1) (by exact at_)) rfl rfl rfl rfl) rfl ?_
    refine go_Wj ?_
    refine sl_pu (pu_strv (bs := bs) (hr.mono (by exact sub_)) rfl rfl rfl rfl) rfl ?_
    have hxz := sOf_size hx
    by_cases b0 : bs = []
    · rw [if_pos b0] at hxl
      have hx1 : hx = [45] := by
        rw [b0] at hxe
        exact (sOf_inj (a := [45]) hxe).symm
      subst hx1 b0
      dsimp only [List.length_nil]
      refine go_Wj ?_
      exact se_mid () (by exact has_) (by exact sub_) trivial
    · rw [if_neg b0] at hxl
      refine go_Wj ?_
      exact se_mid () (by exact has_) (by exact sub_) trivial
  rintro _ -
  refine sc_seq ?_
  refine sc_region ?_
  repeat refine su_Wj ?_
  refine sl_nil ?_
  refine se_seq ?_
  refine sc_seq ?_
  refine sc_region ?_
  repeat refine su_Wj ?_
  refine sl_nil ?_
  refine se_seq ?_
  refine sc_mid (α := Unit) (fun _ => [(1, .string (sOf l)), (2, .int .u64 n), (3, .int .u64 most), (12, .slice A2 (unE l).2.length c2), (13, .int .i64 (unE l).1), (14, .int .i64 0), (15, .bool (l.all okc))]) (fun _ => obs A2 c2 (unE l).2 :: K) (fun _ => True) ?_ ?_
  · refine go_Wj ?_
    rw [hz]
    refine sc_for (fun j : Nat => [(1, .string (sOf l)), (2, .int .u64 n), (3, .int .u64 most), (12, .slice A2 (unE l).2.length c2), (13, .int .i64 (unE l).1), (14, .int .i64 0), (15, .bool ((l.take j).all okc)), (70, .int .i64 l.length), (71, .int .i64 j)]) (fun _ => obs A2 c2 (unE l).2 :: K) (fun j => j ≤ l.length) (fun j => l.length - j) 0 (by exact has_) Sub.refl (Nat.zero_le _) ?_
    intro j hj
    by_cases hlt : j < l.length
    · obtain ⟨c, hc⟩ : ∃ c, l[j]? = some c := ⟨l[j], List.getElem?_eq_getElem hlt⟩
      have hsj : (sOf l)[((j : Nat) : Int).toNat]? = some c := sOf_get hc
      have hall := all_take hc
      cases hd : (l.take j).all okc with
      | false =>
        rw [hd, Bool.false_and] at hall
        refine go_Wj ?_
        exact se_round (j + 1) (by rw [hall]; exact has_) Sub.refl hlt (by omega)
      | true =>
        rw [hd, Bool.true_and] at hall
        by_cases d1 : c.toNat < 48
        · rw [okc_lo d1] at hall
          refine go_Wj ?_
          exact se_round (j + 1) (by rw [hall]; exact has_) Sub.refl hlt (by omega)
        by_cases d2 : c.toNat ≤ 57
        · rw [okc_num (by omega) d2] at hall
          refine go_Wj ?_
          exact se_round (j + 1) (by rw [hall]; exact has_) Sub.refl hlt (by omega)
        by_cases d3 : c.toNat < 97
        · rw [okc_mid (by omega) d3] at hall
          refine go_Wj ?_
          exact se_round (j + 1) (by rw [hall]; exact has_) Sub.refl hlt (by omega)
        by_cases d4 : c.toNat ≤ 102
        · rw [okc_let (by omega) d4] at hall
          refine go_Wj ?_
          exact se_round (j + 1) (by rw [hall]; exact has_) Sub.refl hlt (by omega)
        · rw [okc_hi (by omega)] at hall
          refine go_Wj ?_
          exact se_round (j + 1) (by rw [hall]; exact has_) Sub.refl hlt (by omega)
    · obtain rfl : j = l.length := by omega
      rw [List.take_length]
      refine go_Wj ?_
      exact se_mid () (by exact has_) Sub.refl trivial
  rintro _ -
  refine sc_mid (α := Unit) (fun _ => [(1, .string (sOf l)), (2, .int .u64 n), (3, .int .u64 most), (12, .slice A2 (unE l).2.length c2), (13, .int .i64 (unE l).1), (14, .int .i64 (wantE l))]) (fun _ => obs A2 c2 (unE l).2 :: K) (fun _ => True) ?_ ?_
  · by_cases w0 : l = [45]
    · have hw : wantE l = 0 := by unfold wantE; rw [if_pos w0]
      rw [hw]
      have he : ((sOf l).toList == (sOf [45]).toList) = true := by rw [sOf_eq]; exact decide_eq_true w0
      refine go_Wj ?_
      rw [he]
      refine go_Wj ?_
      exact se_mid () (by exact has_) Sub.refl trivial
    have he : ((sOf l).toList == (sOf [45]).toList) = false := by rw [sOf_eq]; exact decide_eq_false w0
    by_cases w1 : l.length = 0 ∨ l.length % 2 = 1
    · have hw : wantE l = 2 := by unfold wantE; rw [if_neg w0, if_pos w1]
      rw [hw]
      by_cases w2 : l.length = 0
      · refine go_Wj ?_
        rw [he]
        refine go_Wj ?_
        exact se_mid () (by exact has_) Sub.refl trivial
      · refine go_Wj ?_
        rw [he]
        refine go_Wj ?_
        exact se_mid () (by exact has_) Sub.refl trivial
    · have hw : wantE l = if l.all okc = false then 26 else 0 := by unfold wantE; rw [if_neg w0, if_neg w1]
      rw [hw]
      have w3 : ¬ l.length = 0 := by omega
      cases ho : l.all okc with
      | true =>
        rw [if_neg (by decide)]
        refine go_Wj ?_
        rw [he]
        refine go_Wj ?_
        exact se_mid () (by exact has_) Sub.refl trivial
      | false =>
        rw [if_pos rfl]
        refine go_Wj ?_
        rw [he]
        refine go_Wj ?_
        exact se_mid () (by exact has_) Sub.refl trivial
  rintro _ -
  rw [← unE_want (by omega)]
  refine sc_mid (α := Unit) (fun _ => [(2, .int .u64 n), (3, .int .u64 most)]) (fun _ => K) (fun _ => True) ?_ ?_
  · by_cases f0 : (unE l).1 = 0
    · obtain ⟨u1, u2⟩ := unE_back f0
      have u3 : hexS (unE l).2 = sOf l := by
        have h := Lib.mk_data (hexS (unE l).2)
        rw [u1] at h
        exact h.symm
      have u4 : (unE l).2.length ≤ 1000000 := by
        have := hexS_len (unE l).2
        rw [u3, sOf_size] at this
        split at this
        · rename_i e
          rw [e]
          decide
        · omega
      rw [f0]
      refine go_Wj ?_
      refine sl_call rfl rfl (by kernel_rfl) rfl Sub.refl (hex_ok (bs := (unE l).2) (Vw.of_own (e := 5) (A := A2) (c := c2) (by exact at_)) u2 u4) ?_
      rintro _ -
      rw [u3]
      refine go_Wj ?_
      exact se_mid () (by exact has_) (by exact sub_) trivial
    · refine go_Wj ?_
      exact se_mid () (by exact has_) (by exact sub_) trivial
  rintro _ -
  have hnl := numL_prL hn most
  have hpl : (prL n).length ≤ 1048576 := by
    have := prt_20 hn
    rw [prt_sOf, sOf_size] at this
    omega
  have hcall := number_ok (K := K) (prL n) hpl most hm
  rw [hnl] at hcall
  refine go_Wj ?_
  refine sl_call rfl rfl (by kernel_rfl) rfl (by exact sub_) (printed_ok n hn) ?_; rintro _ -
  rw [prt_sOf]
  refine go_Wj ?_
  by_cases n1 : n < 10000000000000000000
  · rw [if_pos n1] at hcall
    refine sl_call rfl rfl (by kernel_rfl) rfl Sub.refl hcall ?_
    rintro _ -
    by_cases n2 : n ≤ most
    · rw [decide_eq_true n2]
      refine go_Wj ?_
      exact se_ret1 () trivial rfl rfl (by exact sub_)
    · rw [decide_eq_false n2]
      refine go_Wj ?_
      exact se_ret1 () trivial rfl rfl (by exact sub_)
  · rw [if_neg n1] at hcall
    refine sl_call rfl rfl (by kernel_rfl) rfl Sub.refl hcall ?_
    rintro _ -
    refine go_Wj ?_
    exact se_ret1 () trivial rfl rfl (by exact sub_)
end Go.Proofs.YtfnjeojaahnlfaaDoor
