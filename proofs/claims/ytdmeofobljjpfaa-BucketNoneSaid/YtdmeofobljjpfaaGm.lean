/- BucketNone: the walk. -/
import Derived.Test.YtdmeofobljjpfaaGl
import Derived.Test.YtdmeofobljjpfaaOb
namespace Go.Proofs.Ytdmeofobljjpfaa
open Go.RowKit Go.MapKept
attribute [local irreducible] Go.Calls Go.Exit.then Go.Exit.inBlock Go.bodyPost Go.Code.wp Go.wpList
attribute [local irreducible] hashL ofId
theorem st19 (x : Int) : x / 10 * 10 = stN r19.w x := by
  show x / 10 * 10 = if (10 : Int) = 0 then x else x / 10 * 10
  rw [if_neg (by decide)]
theorem els_3 : Els [3] := fun x hx => by
  rw [List.mem_singleton] at hx
  subst hx
  unfold El
  decide
theorem fits19 {x : Int} (h : x ≤ 1099511627776) : fitsE r19 [] x = 0 := by
  unfold fitsE
  rw [if_neg (by omega)]
  rfl
/-- The one element of a bucket that is spoilt. -/
def spoil (j : Nat) : Int := if j = 0 then 3 else 77
theorem nth_Gm {φ : Prop} (h : φ := by (first | rfl | first | exact bkC_n0 | exact bkC_n1 | exact bkC_n2 | exact bkC_n19' | exact tc_n0 | exact tc_n1)) : φ := h
theorem mid_Gm {φ : Prop} (h : φ := by (first | first | exact boC_mt | exact boC_mr | exact bkC_mid | exact Ta.mid _ | exact tc_mid | exact Mid.all | exact Mid.all | exact Mid.head)) : φ := h
theorem sz_Gm {φ : Prop} (h : φ := by (first | rfl | ((try simp only [bkC_len tc_len, tc_len, BK.len, bytes_length, Id.len]); (first | done | rfl); first | done | fail))) : φ := h
theorem one_Gm {φ : Prop} (h : φ := by (first | assumption | exact first | exact BK.one _ | exact bkC_one tc_one | exact tc_one | exact Ta.one _ | exact Rl.one _ | exact one_bytes _ | (simp only [List.mem_cons, List.not_mem_nil, or_false, forall_eq_or_imp, forall_eq]; decide) | exact one_bytes _ | (intro v hv; (repeat (rcases List.mem_cons.1 hv with rfl | hv; rfl)); cases hv))) : φ := h
theorem set_Gm {φ : Prop} (h : φ := by (first | (first | exact tc_set0 | exact bkC_set19 tc_len) | ((repeat (first | exact SetAt.here | apply SetAt.there)); first | done | fail))) : φ := h
theorem cl_Gm {φ : Prop} (h : φ := by first | rfl | exact .t | exact .f | exact .t (by omega) | exact .f (by omega) | exact .u | exact .i (by (first | exact .t (by omega) | exact .f (by omega) | exact .u | exact .i (by omega) | exact .v (by omega) | exact .b (by omega) | exact .w | rfl | omega)) | exact .v (by omega) | exact .b (by omega) | exact .q (by omega) | exact .w | exact .b (by exact at_) rfl (by exact nth_Gm) | exact .w (by exact at_) rfl rfl (by exact sz_Gm) | exact .s (by exact at_) (by exact mid_Gm) rfl rfl (by exact sz_Gm) | exact .z rfl rfl ⟨by kernel_rfl⟩ | exact .b rfl rfl ⟨by kernel_rfl⟩ | exact .a rfl rfl ⟨by kernel_rfl⟩ | exact .o rfl | exact .s | exact .n | exact .p rfl | exact .q rfl | exact .c rfl | exact .d rfl | exact .n rfl rfl (by omega) | exact .a rfl rfl (by omega) | exact .p rfl rfl (by omega) (by omega) | exact .y rfl rfl (by omega) (by omega) | exact .o (by exact at_) (by omega) rfl (by exact nth_Gm) | exact .m (by exact at_) (by omega) (by exact mid_Gm) rfl rfl (by exact sz_Gm) | exact .mlen (by exact at_) rfl | exact .t (by exact at_) rfl rfl (by first | exact True.intro | rfl) (by assumption) | exact .f (by exact at_) rfl rfl (by first | exact True.intro | rfl) (by assumption) rfl | exact .t1 (by exact at_) rfl rfl (by first | exact True.intro | rfl) (by assumption) | exact .f1 (by exact at_) rfl rfl (by first | exact True.intro | rfl) (by assumption) rfl | exact .r rfl rfl (by omega) (by omega) (by exact nth_Gm) rfl | exact .s rfl (by omega) (by assumption) | exact at_ | assumption | exact .r rfl rfl | exact .h rfl rfl rfl (by omega) | exact .l rfl rfl rfl (by omega) (by omega) | exact .g rfl rfl rfl rfl (by omega) (by omega) | exact .h rfl rfl (toN_ (by omega)) (by omega) | exact .l rfl rfl (toN_ (by omega)) (by omega) (by omega) | exact .g rfl rfl (toN_ (by omega)) (toN_ (by omega)) (by omega) (by omega) | exact .o (by decide) | exact .f (by decide) | exact .n (by omega) (by first | decide | (show _ ≤ ((64 : Nat) : Int); omega)) | (constructor; (repeat (first | exact .t (by omega) | exact .f (by omega) | exact .u | exact .i (by omega) | exact .v (by omega) | exact .b (by omega) | exact .w | rfl | omega)); first | done | fail) | omega | (show _ ≤ ((64 : Nat) : Int); omega)) : φ := h
theorem pv_Gm {φ : Prop} (h : φ := by constructor; (repeat exact cl_Gm); first | done | fail) : φ := h
theorem su_Gm {φ ψ : Prop} (k : ψ) (h : Hide ψ → φ := by (intro k; (first | refine sl_pu (PuI.sep (by exact pv_Gm)) rfl ?_ | refine sl_yes rfl rfl ?_ | refine sl_no rfl rfl rfl ?_ | refine sl_off rfl rfl rfl ?_ | (fail)); exact k.out)) : φ := h ⟨k⟩
theorem rq_Gm {φ ψ : Prop} (k : ψ) (h : Hide ψ → φ := by (intro k; (first | refine wq_pu (PuI.sep (by exact pv_Gm)) rfl ?_ | refine wq_yes rfl rfl ?_ | refine wq_no rfl rfl rfl ?_ | refine wq_off rfl rfl rfl ?_ | (fail)); exact k.out)) : φ := h ⟨k⟩
theorem sto_Gm {φ ψ : Prop} (k : ψ) (h : Hide ψ → φ := by (intro k; (first | refine sl_store rfl (by exact pick_) rfl rfl (by kernel_rfl) (by exact set_Gm) ?_ | refine sl_store_whole rfl (by exact pick_) rfl (by exact sz_Gm) (by exact sz_Gm) (by exact one_Gm) ?_); exact k.out)) : φ := h ⟨k⟩
theorem go_Gm {φ ψ : Prop} (k : ψ) (h : Hide ψ → φ := by (intro k; (repeat (first | refine su_Gm ?_ | refine so_ ?_ | refine sto_Gm ?_)); exact k.out)) : φ := h ⟨k⟩
set_option maxRecDepth 100000 in
set_option maxHeartbeats 8000000 in
theorem none_walk {K : List Fa} {now : Int} {id : Id} {B : Option Addr} {n cb : Nat} (hn : 0 ≤ now ∧ now ≤ 18446744073709551615) :
    Fn Try.prog 5 #[.int .u64 now, id.v, .slice B n cb] K (Ret (fun _ : Unit => True) (fun _ => .bool true) (fun _ => K)) := by
  refine fn_enter Try.func5 rfl _ Try.ntmps5 (by simp) [(0, .int .u64 now), (1, id.v), (2, .slice B n cb)] (args_of (by simp)) ?_
  by_cases h40 : 40 < n
  · refine go_Gm ?_
    refine sl_box rfl rfl rfl ?_; intro g1
    refine go_Gm ?_
    refine sl_call rfl rfl (by kernel_rfl) rfl (by exact sub_) awake19 ?_; rintro _ -
    refine go_Gm ?_
    exact se_ret1 () trivial rfl rfl (by exact sub_)
  refine go_Gm ?_
  refine sl_box rfl rfl rfl ?_; intro g1
  refine go_Gm ?_
  refine sl_call rfl rfl (by kernel_rfl) rfl (by exact sub_) awake19 ?_; rintro _ -
  refine go_Gm ?_
  refine sl_call rfl rfl (by kernel_rfl) rfl (by exact sub_) close_nil ?_; rintro _ -
  refine go_Gm ?_
  refine sl_alloc rfl rfl rfl ?_; intro g2
  refine go_Gm ?_
  refine sl_call rfl rfl (by kernel_rfl) rfl (by exact sub_) bget_nil ?_; rintro _ -
  refine go_Gm ?_
  refine sl_alloc rfl rfl rfl ?_; intro g3
  refine go_Gm ?_
  refine sl_pu (pu_build (v := .agg s0.cells.toArray) rfl (fun W => by kernel_rfl)) rfl ?_
  refine sl_call rfl rfl (by kernel_rfl) rfl (by exact sub_) (stask_ok s0) ?_; rintro _ -
  rw [← Sk.ta_c]
  refine sl_pu (pu_build (v := .agg r19.c.toArray) rfl (fun W => by kernel_rfl)) rfl ?_
  refine sl_call rfl rfl (by kernel_rfl) rfl (by exact sub_) (bnew_ok r19_ok) ?_; rintro ⟨g4, m4⟩ -
  refine go_Gm ?_
  have hx : 0 ≤ now % 100 ∧ now % 100 ≤ 99 := by omega
  refine sl_pu (pu_build (v := .agg (eC 3).toArray) rfl (fun W => by kernel_rfl)) rfl ?_
  refine sl_build (size := 2) (e := 65) (cells := rows eC [3]) rfl (fun W => by kernel_rfl) rfl (by decide) rfl ?_
  intro gb
  refine sl_call rfl rfl (by kernel_rfl) rfl (by exact sub_) (badd_new (now := now % 100) (id := id) (n := 1) (ys := [3]) (fs := []) (r := r19) (t := s0.ta) (by decide) hx.1 s0.ta_ok (fits19 (by omega)) rfl s0_out els_3 (Vw.of_own (e := 65) (A := some ⟨gb, 0, none⟩) (c := 1) (by exact at_))) ?_
  rintro g5 -
  rw [List.nil_append]
  obtain ⟨b, hb⟩ : ∃ b, bfst (stN r19.w (now % 100)) s0.ta id [3] g5 0 = b := ⟨_, rfl⟩
  have hst : now % 100 / 10 * 10 = b.st := by rw [← hb]; exact st19 _
  have hl : b.l = [3] := by rw [← hb]; rfl
  rw [hb]
  refine go_Gm ?_
  rw [hst]
  refine sl_call rfl rfl (by kernel_rfl) rfl (by exact sub_) (bgetC_ok (g := g4) (m := m4) (ck := 0 + 1) (t := s0.ta) (r := r19) (fs := [b]) (b := b) (by exact at_) (by exact at_) (by exact at_) (List.mem_singleton.2 rfl) (by rw [hl]; decide)) ?_
  rintro ⟨A6, c6⟩ -
  dsimp only
  rw [hl, show ([3] : List Int).length = 1 from rfl]
  refine sl_know (own_form_at (e := 65) (size := 2) (A := A6) (m := 1) (c := c6) (xs := rows eC [3]) (by exact at_) (by decide)) ?_
  rintro ⟨g6, rfl⟩
  refine go_Gm ?_
  refine sl_alloc rfl rfl rfl ?_; intro g7
  refine go_Gm ?_
  refine sc_bjoin (α := Unit) (fun _ => [(0, .int .u64 now), (2, .slice B n cb), (4, .pointer (some ⟨g1, 0, none⟩)), (7, .pointer none), (9, .int .i64 1), (11, .bool false), (12, .pointer (some ⟨g4, 0, none⟩)), (13, .int .i64 0), (14, .int .i64 0)]) (fun _ => blk g1 52 (bytes id.l) :: bB g4 s0.ta r19 m4 :: bM m4 [b] (0 + 1) :: bS [b] :: K) (fun _ => True) ?_ ?_
  · refine sc_for (fun j : Nat => [(0, .int .u64 now), (2, .slice B n cb), (4, .pointer (some ⟨g1, 0, none⟩)), (7, .pointer none), (9, .int .i64 1), (11, .bool false), (12, .pointer (some ⟨g4, 0, none⟩)), (13, .int .i64 0), (14, .int .i64 0), (15, .pointer (some ⟨g7, 0, none⟩)), (63, .int .i64 1), (64, .int .i64 j)]) (fun j => own 65 2 (some ⟨g6, 0, none⟩) 1 c6 (rows eC [spoil j]) :: blk g7 60 (bkC b.st (tc (some ⟨g6, 0, none⟩) 1 c6 b.m b.k) b.cl) :: blk g1 52 (bytes id.l) :: bB g4 s0.ta r19 m4 :: bM m4 [b] (0 + 1) :: bS [b] :: K) (fun j => j ≤ 1) (fun j => 1 - j) 0 (by exact has_) (by exact sub_) (by decide) ?_
    intro j hj
    by_cases hj0 : j = 0
    · have hsp : (rows eC [spoil j]).take (j * 2) ++ eC 77 ++ (rows eC [spoil j]).drop (j * 2 + (eC 77).length) = rows eC [spoil (j + 1)] := by
        subst hj0
        rfl
      refine go_Gm ?_
      refine sl_pu (pu_build (v := .agg (eC 77).toArray) rfl (fun W => by kernel_rfl)) rfl ?_
      refine go_Gm ?_
      refine sl_sto_mid (i := j * 2) (cl := eC 77) (by rw [show ((⟨g6, 0, none⟩ : Addr).add (j * 2)) = ⟨g6, j * 2, none⟩ from at1 g6 (j * 2)]; rfl) (by exact pick_) rfl rfl (by show j * 2 + 2 ≤ 1 * 2; omega) (eC_one _) ?_
      rw [hsp]
      refine go_Gm ?_
      exact se_round (j + 1) (by exact has_) (by exact sub_) (by omega) (by omega)
    · obtain rfl : j = 1 := by omega
      refine go_Gm ?_
      exact se_mid () (by exact has_) (by exact sub_) trivial
  rintro _ -
  refine go_Gm ?_
  rw [hst]
  refine sl_call rfl rfl (by kernel_rfl) rfl (by exact sub_) (bgetC_ok (g := g4) (m := m4) (ck := 0 + 1) (t := s0.ta) (r := r19) (fs := [b]) (b := b) (by exact at_) (by exact at_) (by exact at_) (List.mem_singleton.2 rfl) (by rw [hl]; decide)) ?_
  rintro ⟨A8, c8⟩ -
  dsimp only
  rw [hl, show ([3] : List Int).length = 1 from rfl]
  refine sl_know (own_form_at (e := 65) (size := 2) (A := A8) (m := 1) (c := c8) (xs := rows eC [3]) (by exact at_) (by decide)) ?_
  rintro ⟨g8, rfl⟩
  refine go_Gm ?_
  refine sl_alloc rfl rfl rfl ?_; intro g9
  refine go_Gm ?_
  refine sl_call rfl rfl (by kernel_rfl) rfl (by exact sub_) badd_nil ?_; rintro _ -
  refine go_Gm ?_
  refine sl_call rfl rfl (by kernel_rfl) rfl (by exact sub_) fits_nil ?_; rintro _ -
  refine go_Gm ?_
  refine sl_call rfl rfl (by kernel_rfl) rfl (by exact sub_) list_nil ?_; rintro _ -
  refine go_Gm ?_
  refine sl_call rfl rfl (by kernel_rfl) rfl (by exact sub_) rules_nil ?_; rintro _ -
  refine sl_yes rfl rfl ?_
  refine sl_pu (pu_build (v := .agg (Rl.c ⟨0, 0, 0⟩).toArray) rfl (fun W => by kernel_rfl)) rfl ?_
  refine sl_yes rfl rfl ?_
  refine sl_pu (pu_eqr rfl rfl) rfl ?_
  refine go_Gm ?_
  refine sl_pu (pu_build (v := .agg (eC 3).toArray) rfl (fun W => by kernel_rfl)) rfl ?_
  refine sl_yes rfl rfl ?_
  refine sl_pu (pu_eqle (u := 3) (v := 3) rfl rfl) rfl ?_
  rw [decide_eq_true (rfl : (3 : Int) = 3)]
  refine go_Gm ?_
  exact se_ret1 () trivial rfl rfl (by exact sub_)
structure SlW (_ : World) (v : Value) : Prop where
  is : ∃ A n c, v = .slice A n c
theorem open_sl {H : Type} {enc : TypeId × Value → H} {w : World} {base : Nat} {spare : Nat → Bool} {held : Bool} {fuel : Nat} {x : DataW H × List MemPlace} {t : TypeId} {v : Value} (_ : DataW.trod enc Try.prog w base spare held fuel t v.cells.toList = some x) (hv : ∃ A n c, v = .slice A n c) : SlW w v := ⟨hv⟩
theorem None_v (v1 v2 : Value) (now : Int) (W : World) (b0 : 0 ≤ now ∧ now ≤ 18446744073709551615) (o1 : IdW W v1) (o2 : SlW W v2) : Calls Try.prog 5 #[.int .u64 now, v1, v2] W fun e w' => e = .returned (.bool true) ∧ Fr Nil W w' := by
  obtain ⟨id, rfl⟩ := o1
  obtain ⟨A, n, c, rfl⟩ := o2.is
  exact (none_walk b0).top
end Go.Proofs.Ytdmeofobljjpfaa
