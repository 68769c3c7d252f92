/- Several texts of one claim, one behind the other (Pc). -/
import Derived.Test.YtidphdlhghgglaaB11
/- StatsParts: its walk; at what came in. -/
namespace Go.Proofs.Ytidphdlhghgglaa
open Go.RowKit
attribute [local irreducible] Go.Calls Go.Exit.then Go.Exit.inBlock Go.bodyPost Go.Code.wp Go.wpList
theorem sobp_ {φ ψ : Prop} (k : ψ) (h : Hide ψ → φ := by (intro k; (first | refine sc_seq ?_ | refine sc_region ?_ | refine sl_nil ?_ | refine se_seq ?_ | refine sc_cond rfl (by constructor) ?_ | refine sc_skip ?_ | refine se_blk (by first | exact .n | exact .h | exact .m rfl | exact .r | exact .p) ?_ | refine sc_exit ?_ | refine se_pass (by constructor) ?_ | refine sc_ret ?_); exact k.out)) : φ := h ⟨k⟩
theorem nth_Pc {φ : Prop} (h : φ := by (first | rfl | assumption)) : φ := h
theorem mid_Pc {φ : Prop} (h : φ := by (first | exact Mid.all | exact Mid.all | exact Mid.head)) : φ := h
theorem sz_Pc {φ : Prop} (h : φ := by (first | rfl | (rfl; first | done | fail))) : φ := h
theorem one_Pc {φ : Prop} (h : φ := by (first | assumption | exact first | exact one_bytes _ | (simp only [List.mem_cons, List.not_mem_nil, or_false, forall_eq_or_imp, forall_eq]; decide) | exact one_bytes _)) : φ := h
theorem set_Pc {φ : Prop} (h : φ := by (first | (fail) | ((repeat (first | exact SetAt.here | apply SetAt.there)); first | done | fail))) : φ := h
theorem cl_Pc {φ : Prop} (h : φ := by first | rfl | exact .t | exact .f | exact .t (by omega) | exact .f (by omega) | exact .u | exact .i (by (first | exact .t (by omega) | exact .f (by omega) | exact .u | exact .i (by omega) | exact .v (by omega) | exact .b (by omega) | exact .w | rfl | omega)) | exact .v (by omega) | exact .b (by omega) | exact .q (by omega) | exact .w | exact .b (by exact at_) rfl (by exact nth_Pc) | exact .w (by exact at_) rfl rfl (by exact sz_Pc) | exact .s (by exact at_) (by exact mid_Pc) rfl rfl (by exact sz_Pc) | exact .z rfl rfl ⟨by kernel_rfl⟩ | exact .b rfl rfl ⟨by kernel_rfl⟩ | exact .a rfl rfl ⟨by kernel_rfl⟩ | exact .o rfl | exact .s | exact .n | exact .p rfl | exact .q rfl | exact .c rfl | exact .d rfl | exact .n rfl rfl (by omega) | exact .a rfl rfl (by omega) | exact .p rfl rfl (by omega) (by omega) | exact .y rfl rfl (by omega) (by omega) | exact .o (by exact at_) (by omega) rfl (by exact nth_Pc) | exact .m (by exact at_) (by omega) (by exact mid_Pc) rfl rfl (by exact sz_Pc) | exact .mlen (by exact at_) rfl | exact .t (by exact at_) rfl rfl (by first | exact True.intro | rfl) (by assumption) | exact .f (by exact at_) rfl rfl (by first | exact True.intro | rfl) (by assumption) rfl | exact .t1 (by exact at_) rfl rfl (by first | exact True.intro | rfl) (by assumption) | exact .f1 (by exact at_) rfl rfl (by first | exact True.intro | rfl) (by assumption) rfl | exact .r rfl rfl (by omega) (by omega) (by exact nth_Pc) rfl | exact .s rfl (by omega) (by assumption) | exact at_ | assumption | exact .r rfl rfl | exact .h rfl rfl rfl (by omega) | exact .l rfl rfl rfl (by omega) (by omega) | exact .g rfl rfl rfl rfl (by omega) (by omega) | exact .h rfl rfl (toN_ (by omega)) (by omega) | exact .l rfl rfl (toN_ (by omega)) (by omega) (by omega) | exact .g rfl rfl (toN_ (by omega)) (toN_ (by omega)) (by omega) (by omega) | exact .o (by decide) | exact .f (by decide) | exact .n (by omega) (by first | decide | (show _ ≤ ((64 : Nat) : Int); omega)) | (constructor; (repeat (first | exact .t (by omega) | exact .f (by omega) | exact .u | exact .i (by omega) | exact .v (by omega) | exact .b (by omega) | exact .w | rfl | omega)); first | done | fail) | omega | (show _ ≤ ((64 : Nat) : Int); omega)) : φ := h
theorem pv_Pc {φ : Prop} (h : φ := by constructor; (repeat exact cl_Pc); first | done | fail) : φ := h
theorem su_Pc {φ ψ : Prop} (k : ψ) (h : Hide ψ → φ := by (intro k; (first | refine sl_pu (PuI.sep (by exact pv_Pc)) rfl ?_ | refine sl_yes rfl rfl ?_ | refine sl_no rfl rfl rfl ?_ | refine sl_off rfl rfl rfl ?_ | (first | refine sl_pu (pu_i2f rfl rfl rfl) rfl ?_)); exact k.out)) : φ := h ⟨k⟩
theorem rq_Pc {φ ψ : Prop} (k : ψ) (h : Hide ψ → φ := by (intro k; (first | refine wq_pu (PuI.sep (by exact pv_Pc)) rfl ?_ | refine wq_yes rfl rfl ?_ | refine wq_no rfl rfl rfl ?_ | refine wq_off rfl rfl rfl ?_ | (fail)); exact k.out)) : φ := h ⟨k⟩
theorem sto_Pc {φ ψ : Prop} (k : ψ) (h : Hide ψ → φ := by (intro k; (first | refine sl_store rfl (by exact pick_) rfl rfl (by kernel_rfl) (by exact set_Pc) ?_ | refine sl_store_whole rfl (by exact pick_) rfl (by exact sz_Pc) (by exact sz_Pc) (by exact one_Pc) ?_); exact k.out)) : φ := h ⟨k⟩
theorem go_Pc {φ ψ : Prop} (k : ψ) (h : Hide ψ → φ := by (intro k; (repeat (first | refine su_Pc ?_ | refine so_ ?_ | refine sto_Pc ?_)); exact k.out)) : φ := h ⟨k⟩
set_option maxRecDepth 100000 in
set_option maxHeartbeats 8000000 in
theorem lawParts_ok {K : List Fa} {A : Option Addr} {c p : Nat} {b : Int} {xs : List Nat} (hr : Vw K (fun w => Reads w 1 A xs.length (xs.map fl))) (hb : ∀ x ∈ xs, x < 18446744073709551616) (hn : xs.length ≤ 9223372036854775807) (hpl : p < 18446744073709551616) (hbb : 0 ≤ b ∧ b ≤ 255) :
    Fn Try.prog 6 #[.slice A xs.length c, .float .f64 p, .int .u8 b] K (Ret (fun _ : Unit => True) (fun _ => .bool true) (fun _ => K)) := by
  refine fn_enter Try.func6 rfl _ Try.ntmps6 (by simp) [(0, .slice A xs.length c), (1, .float .f64 p), (2, .int .u8 b)] (args_of (by simp)) ?_
  refine go_Pc ?_
  refine sl_call rfl rfl (by kernel_rfl) rfl Sub.refl awake30 ?_
  rintro _ -
  by_cases h60 : 60 < xs.length
  · refine go_Pc ?_
    exact se_ret1 () trivial rfl rfl (by exact sub_)
  refine go_Pc ?_
  refine sc_bjoin (fun p' : Si => [(0, .slice A xs.length c), (1, .float .f64 p), (2, .int .u8 b), (7, .slice p'.A p'.e.length p'.c)]) (fun p' => own 24 1 p'.A p'.e.length p'.c (p'.e.map Fp.v) :: K) (fun p' => p'.e.Perm (numsOf xs) ∧ p'.e.Pairwise (fun a b => key a.x ≤ key b.x)) ?_ ?_
  · refine sc_for (fun p' : Si => [(0, .slice A xs.length c), (1, .float .f64 p), (2, .int .u8 b), (7, .slice p'.A p'.e.length p'.c), (26, .slice A xs.length c), (27, .int .i64 xs.length), (28, .int .i64 p'.j)]) (fun p' => own 24 1 p'.A p'.e.length p'.c (p'.e.map Fp.v) :: K) (fun p' => p'.j ≤ xs.length ∧ p'.e.Perm (numsOf (xs.take p'.j)) ∧ p'.e.Pairwise (fun a b => key a.x ≤ key b.x)) (fun p' => xs.length - p'.j) ⟨0, [], none, 0⟩ (by exact has_) (Sub.own_nil (by exact sub_)) ⟨Nat.zero_le _, .refl _, .nil⟩ ?_
    rintro ⟨j, e, A1, c1⟩ ⟨hj, hep, hes⟩
    dsimp only at hj hep hes ⊢
    by_cases hlt : j < xs.length
    · have hlen := hep.length_eq
      have hlen2 := nums_len (xs.take j)
      rw [List.length_take] at hlen2
      have htk : xs.take (j + 1) = xs.take j ++ [xs[j]] := List.take_succ_eq_append_getElem hlt
      have hxb := hb _ (List.getElem_mem hlt)
      have hnx : nth (xs.map fl) (j * 1) = some (.float .f64 xs[j]) := by
        rw [nth_eq, Nat.mul_one, List.getElem?_map, List.getElem?_eq_getElem hlt]
        rfl
      refine sc_know (vw_form (L := own 24 1 A1 e.length c1 (e.map Fp.v) :: K) (hr.mono (by exact sub_)) (by omega)) ?_
      rintro ⟨ad, rfl⟩
      refine go_Pc ?_
      refine sl_pu (pu_ldr (hr.mono (by exact sub_)) (by omega) rfl rfl hnx) rfl ?_
      refine go_Pc ?_
      refine sl_pu (pu_fneq rfl rfl) rfl ?_
      rw [show (!fEq xs[j] xs[j]) = fnan xs[j] from rfl]
      cases hx : fnan xs[j] with
      | true =>
        have hsame : numsOf (xs.take (j + 1)) = numsOf (xs.take j) := by
          rw [htk, nums_app, nums_cons, dif_neg (by rw [hx]; simp)]
          exact List.append_nil _
        refine go_Pc ?_
        refine se_round ⟨j + 1, e, A1, c1⟩ (by exact has_) (by exact sub_) ⟨hlt, by rw [hsame]; exact hep, hes⟩ (by show xs.length - (j + 1) < xs.length - j; omega)
      | false =>
        have hnew : numsOf (xs.take (j + 1)) = numsOf (xs.take j) ++ [⟨xs[j], hx, hxb⟩] := by
          rw [htk, nums_app, nums_cons, dif_pos ⟨hx, hxb⟩]
          rfl
        refine go_Pc ?_
        refine sc_bjoin (fun k : Nat => [(0, .slice (some ad) xs.length c), (1, .float .f64 p), (2, .int .u8 b), (7, .slice A1 e.length c1), (9, .float .f64 xs[j]), (10, .int .i64 k), (26, .slice (some ad) xs.length c), (27, .int .i64 xs.length), (28, .int .i64 j)]) (fun _ => own 24 1 A1 e.length c1 (e.map Fp.v) :: K) (fun k => k ≤ e.length ∧ (∀ i, ∀ hi : i < e.length, i < k → key e[i].x ≤ key xs[j]) ∧ ∀ h : k < e.length, key xs[j] < key e[k].x) ?_ ?_
        · refine sc_for (fun k : Nat => [(0, .slice (some ad) xs.length c), (1, .float .f64 p), (2, .int .u8 b), (7, .slice A1 e.length c1), (9, .float .f64 xs[j]), (10, .int .i64 k), (26, .slice (some ad) xs.length c), (27, .int .i64 xs.length), (28, .int .i64 j)]) (fun _ => own 24 1 A1 e.length c1 (e.map Fp.v) :: K) (fun k => k ≤ e.length ∧ ∀ i, ∀ hi : i < e.length, i < k → key e[i].x ≤ key xs[j]) (fun k => e.length - k) 0 (by exact has_) (by exact sub_) ⟨Nat.zero_le _, fun i _ h => absurd h (Nat.not_lt_zero _)⟩ ?_
          rintro k ⟨hk, hle⟩
          by_cases hkl : k < e.length
          · have hnk := fp_nth hkl
            have hless := less_of hx e[k].nn
            refine sc_form (e := 24) (size := 1) (A := A1) (m := e.length) (by exact at_) (by omega) ?_
            rintro ge rfl
            refine go_Pc ?_
            refine sl_call rfl rfl (by kernel_rfl) rfl Sub.refl (fn_same (less_c _ _ hxb e[k].lt)) ?_
            rintro _ -
            rw [hless]
            by_cases hc : key xs[j] < key e[k].x
            · rw [decide_eq_true hc]
              refine go_Pc ?_
              exact se_mid k (by exact has_) (by exact sub_) ⟨hk, hle, fun _ => hc⟩
            · rw [decide_eq_false hc]
              refine go_Pc ?_
              refine se_round (k + 1) (by exact has_) (by exact sub_) ⟨hkl, fun i hi hik => ?_⟩ (by omega)
              rcases Nat.lt_or_ge i k with h | h
              · exact hle i hi h
              · obtain rfl : i = k := by omega
                omega
          · obtain rfl : k = e.length := by omega
            refine go_Pc ?_
            exact se_mid e.length (by exact has_) (by exact sub_) ⟨Nat.le_refl _, hle, fun h => absurd h (Nat.lt_irrefl _)⟩
        · rintro k ⟨hk, hle, hgt⟩
          refine sc_know (fun w hw => (own_len (e := 24) (size := 1) (A := A1) hw (by exact at_)).2) ?_
          rintro ⟨hec, hcm⟩
          have hil := ins_len (x := ⟨xs[j], hx, hxb⟩) hk
          have hmap : ((e.take k).map Fp.v ++ [Value.float .f64 xs[j]]) ++ (e.drop k).map Fp.v = (insAt e k ⟨xs[j], hx, hxb⟩).map Fp.v := by
            unfold insAt
            rw [List.map_append, List.map_append]
            rfl
          have hcnt : k + 1 + (e.length - k) = (insAt e k ⟨xs[j], hx, hxb⟩).length := by omega
          refine sd_drawn (fun W => AllP W []) (fun _ => true) (by kernel_rfl) 13 rfl ?_
          refine sd_yes2 1 rfl (by exact gd_) (by kernel_rfl) (by kernel_rfl) (by exact nop_) (PuI.all (by exact pv_Pc)) rfl (fun w hw => all_ hw) ?_
          refine sd_yes2 2 rfl (by exact gd_) (by kernel_rfl) (by kernel_rfl) (by exact nop_) (PuI.all (by exact pv_Pc)) rfl (fun w hw => all_ hw) ?_
          refine sd_yes2 3 rfl (by exact gd_) (by kernel_rfl) (by kernel_rfl) (by exact nop_) (PuI.all (by exact pv_Pc)) rfl (fun w hw => all_ hw) ?_
          refine sd_yes2 5 rfl (by exact gd_) (by kernel_rfl) (by kernel_rfl) (by exact nop_) (PuI.all (by exact pv_Pc)) rfl (fun w hw => all_ hw) ?_
          refine sd_yes2 8 rfl (by exact gd_) (by kernel_rfl) (by kernel_rfl) (by exact nop_) (PuI.all (by exact pv_Pc)) rfl (fun w hw => all_ hw) ?_
          refine sd_yes2 9 rfl (by exact gd_) (by kernel_rfl) (by kernel_rfl) (by exact nop_) (PuI.all (by exact pv_Pc)) rfl (fun w hw => all_ hw) ?_
          refine sd_yes2 10 rfl (by exact gd_) (by kernel_rfl) (by kernel_rfl) (by exact nop_) (PuI.all (by exact pv_Pc)) rfl (fun w hw => all_ hw) ?_
          refine sd_two 0 6 (by kernel_rfl) (sa_sl 0 rfl ?_) (sa_sl 6 rfl ?_)
          · refine sl_build0 (e := 24) (size := 1) rfl (fun W => by kernel_rfl) rfl ?_
            intro g0
            refine sl_nil ?_
            refine se_sd (fun _ w hw => all_ hw) ?_
            refine sd_two 4 6 (by kernel_rfl) (sa_sl 4 rfl ?_) (sa_sl 6 rfl ?_)
            · refine sl_app (A := some ⟨g0, 0, none⟩) (k := 0) (c := 0) rfl (by exact pick_) rfl (vw_fp_take (A := A1) (c := c1) (e := e) (t := 24) (by exact at_) hk) fp_one rfl infoF64 (by decide) (by decide) rfl (by unfold maxLen; omega) (by omega) ?_
              intro A4 c4
              rw [Nat.zero_add, List.nil_append]
              refine sl_nil ?_
              refine se_sd (fun _ w hw => all_ hw) ?_
              refine sd_one 6 (by kernel_rfl) (sa_sl 6 rfl ?_)
              refine sl_build (size := 1) (e := 24) (cells := [Value.float .f64 xs[j]]) rfl (fun W => by kernel_rfl) rfl (by decide) rfl ?_
              intro g6
              refine sl_nil ?_
              refine se_sd (fun _ w hw => all_ hw) ?_
              refine sd_one 7 (by kernel_rfl) (sa_sl 7 rfl ?_)
              refine sl_app (A := A4) (k := k) (c := c4) rfl (by exact pick_) rfl (Vw.of_own (e := 24) (A := some ⟨g6, 0, none⟩) (c := 1) (by exact at_)) fl_one rfl infoF64 (by decide) (by decide) rfl (by unfold maxLen; omega) (by omega) ?_
              intro A7 c7
              refine sl_nil ?_
              refine se_sd (fun _ w hw => all_ hw) ?_
              refine sd_one 11 (by kernel_rfl) (sa_sl 11 rfl ?_)
              refine sl_app (A := A7) (k := k + 1) (c := c7) rfl (by exact pick_) rfl (vw_fp_drop (A := A1) (c := c1) (e := e) (t := 24) (by exact at_) hk hec) fp_one rfl infoF64 (by decide) (by decide) rfl (by unfold maxLen; omega) (by omega) ?_
              intro A11 c11
              rw [hmap, hcnt]
              refine sl_nil ?_
              refine se_sd (fun _ w hw => all_ hw) ?_
              refine sd_yes2 12 rfl (by exact gd_) (by kernel_rfl) (by kernel_rfl) (by exact nop_) (PuI.all (by exact pv_Pc)) rfl (fun w hw => all_ hw) ?_
              refine sd_done (by kernel_rfl) ?_
              refine go_Pc ?_
              exact se_round ⟨j + 1, insAt e k ⟨xs[j], hx, hxb⟩, A11, c11⟩ (by exact has_) (by exact sub_) ⟨hlt, by rw [hnew]; exact ins_perm.trans (hep.append_right _), ins_sorted hk hes (fun i hi => hle i (by omega) hi) hgt⟩ (by show xs.length - (j + 1) < xs.length - j; omega)
            · refine sl_build (size := 1) (e := 24) (cells := [Value.float .f64 xs[j]]) rfl (fun W => by kernel_rfl) rfl (by decide) rfl ?_
              intro g6
              refine sl_nil ?_
              refine se_sd (fun _ w hw => all_ hw) ?_
              refine sd_one 4 (by kernel_rfl) (sa_sl 4 rfl ?_)
              refine sl_app (A := some ⟨g0, 0, none⟩) (k := 0) (c := 0) rfl (by exact pick_) rfl (vw_fp_take (A := A1) (c := c1) (e := e) (t := 24) (by exact at_) hk) fp_one rfl infoF64 (by decide) (by decide) rfl (by unfold maxLen; omega) (by omega) ?_
              intro A4 c4
              rw [Nat.zero_add, List.nil_append]
              refine sl_nil ?_
              refine se_sd (fun _ w hw => all_ hw) ?_
              refine sd_one 7 (by kernel_rfl) (sa_sl 7 rfl ?_)
              refine sl_app (A := A4) (k := k) (c := c4) rfl (by exact pick_) rfl (Vw.of_own (e := 24) (A := some ⟨g6, 0, none⟩) (c := 1) (by exact at_)) fl_one rfl infoF64 (by decide) (by decide) rfl (by unfold maxLen; omega) (by omega) ?_
              intro A7 c7
              refine sl_nil ?_
              refine se_sd (fun _ w hw => all_ hw) ?_
              refine sd_one 11 (by kernel_rfl) (sa_sl 11 rfl ?_)
              refine sl_app (A := A7) (k := k + 1) (c := c7) rfl (by exact pick_) rfl (vw_fp_drop (A := A1) (c := c1) (e := e) (t := 24) (by exact at_) hk hec) fp_one rfl infoF64 (by decide) (by decide) rfl (by unfold maxLen; omega) (by omega) ?_
              intro A11 c11
              rw [hmap, hcnt]
              refine sl_nil ?_
              refine se_sd (fun _ w hw => all_ hw) ?_
              refine sd_yes2 12 rfl (by exact gd_) (by kernel_rfl) (by kernel_rfl) (by exact nop_) (PuI.all (by exact pv_Pc)) rfl (fun w hw => all_ hw) ?_
              refine sd_done (by kernel_rfl) ?_
              refine go_Pc ?_
              exact se_round ⟨j + 1, insAt e k ⟨xs[j], hx, hxb⟩, A11, c11⟩ (by exact has_) (by exact sub_) ⟨hlt, by rw [hnew]; exact ins_perm.trans (hep.append_right _), ins_sorted hk hes (fun i hi => hle i (by omega) hi) hgt⟩ (by show xs.length - (j + 1) < xs.length - j; omega)
          · refine sl_build (size := 1) (e := 24) (cells := [Value.float .f64 xs[j]]) rfl (fun W => by kernel_rfl) rfl (by decide) rfl ?_
            intro g6
            refine sl_nil ?_
            refine se_sd (fun _ w hw => all_ hw) ?_
            refine sd_one 0 (by kernel_rfl) (sa_sl 0 rfl ?_)
            refine sl_build0 (e := 24) (size := 1) rfl (fun W => by kernel_rfl) rfl ?_
            intro g0
            refine sl_nil ?_
            refine se_sd (fun _ w hw => all_ hw) ?_
            refine sd_one 4 (by kernel_rfl) (sa_sl 4 rfl ?_)
            refine sl_app (A := some ⟨g0, 0, none⟩) (k := 0) (c := 0) rfl (by exact pick_) rfl (vw_fp_take (A := A1) (c := c1) (e := e) (t := 24) (by exact at_) hk) fp_one rfl infoF64 (by decide) (by decide) rfl (by unfold maxLen; omega) (by omega) ?_
            intro A4 c4
            rw [Nat.zero_add, List.nil_append]
            refine sl_nil ?_
            refine se_sd (fun _ w hw => all_ hw) ?_
            refine sd_one 7 (by kernel_rfl) (sa_sl 7 rfl ?_)
            refine sl_app (A := A4) (k := k) (c := c4) rfl (by exact pick_) rfl (Vw.of_own (e := 24) (A := some ⟨g6, 0, none⟩) (c := 1) (by exact at_)) fl_one rfl infoF64 (by decide) (by decide) rfl (by unfold maxLen; omega) (by omega) ?_
            intro A7 c7
            refine sl_nil ?_
            refine se_sd (fun _ w hw => all_ hw) ?_
            refine sd_one 11 (by kernel_rfl) (sa_sl 11 rfl ?_)
            refine sl_app (A := A7) (k := k + 1) (c := c7) rfl (by exact pick_) rfl (vw_fp_drop (A := A1) (c := c1) (e := e) (t := 24) (by exact at_) hk hec) fp_one rfl infoF64 (by decide) (by decide) rfl (by unfold maxLen; omega) (by omega) ?_
            intro A11 c11
            rw [hmap, hcnt]
            refine sl_nil ?_
            refine se_sd (fun _ w hw => all_ hw) ?_
            refine sd_yes2 12 rfl (by exact gd_) (by kernel_rfl) (by kernel_rfl) (by exact nop_) (PuI.all (by exact pv_Pc)) rfl (fun w hw => all_ hw) ?_
            refine sd_done (by kernel_rfl) ?_
            refine go_Pc ?_
            exact se_round ⟨j + 1, insAt e k ⟨xs[j], hx, hxb⟩, A11, c11⟩ (by exact has_) (by exact sub_) ⟨hlt, by rw [hnew]; exact ins_perm.trans (hep.append_right _), ins_sorted hk hes (fun i hi => hle i (by omega) hi) hgt⟩ (by show xs.length - (j + 1) < xs.length - j; omega)
    · obtain rfl : j = xs.length := by omega
      rw [List.take_length] at hep
      refine go_Pc ?_
      exact se_mid ⟨xs.length, e, A1, c1⟩ (by exact has_) (by exact sub_) ⟨hep, hes⟩
  rintro ⟨j, e, A1, c1⟩ ⟨hep, hes⟩
  dsimp only at hep hes ⊢
  have hel := hep.length_eq
  have hnl := nums_len xs
  refine go_Pc ?_
  refine sl_fop (.inr (.inr rfl)) rfl rfl rfl (fun s hs => ?_)
  refine go_Pc ?_
  refine sl_call rfl rfl (by kernel_rfl) rfl Sub.refl (fn_same nan_c) ?_
  rintro _ -
  obtain ⟨ps, hps, hp8⟩ : ∃ ps : List Nat, ps = [p, s, 0, 4602678819172646912, 4607182418800017408, 9221120237041090561, 13821547256400052224, 4609434218613702656] ∧ ps.length = 8 := ⟨_, rfl, rfl⟩
  refine sl_build (size := 1) (e := 24) (cells := [p, s, 0, 4602678819172646912, 4607182418800017408, 9221120237041090561, 13821547256400052224, 4609434218613702656].map fl) rfl (fun W => by kernel_rfl) rfl (by decide) rfl ?_
  intro gp
  have hpb : ∀ k ∈ ps, k < 18446744073709551616 := fun k hk => by
    rw [hps] at hk
    simp only [List.mem_cons, List.not_mem_nil, or_false] at hk
    rcases hk with rfl | rfl | rfl | rfl | rfl | rfl | rfl | rfl <;> first | exact hpl | exact hs.1 | decide
  rw [← hps]
  clear hps hs
  refine go_Pc ?_
  refine sc_for (fun i : Nat => [(0, .slice A xs.length c), (7, .slice A1 e.length c1), (11, .int .i64 e.length), (70, .slice (some ⟨gp, 0, none⟩) 8 8), (71, .int .i64 8), (72, .int .i64 i)]) (fun _ => own 24 1 A1 e.length c1 (e.map Fp.v) :: own 24 1 (some ⟨gp, 0, none⟩) 8 8 (ps.map fl) :: K) (fun i => i ≤ 8) (fun i => 8 - i) 0 (by exact has_) (by exact sub_) (by omega) ?_
  intro i hi
  by_cases hil : i < 8
  case neg =>
    refine go_Pc ?_
    exact se_ret1 () trivial rfl rfl (by exact sub_)
  have hx : nth (ps.map fl) (i * 1) = some (.float .f64 ps[i]) := by
    rw [nth_eq, Nat.mul_one, List.getElem?_map, List.getElem?_eq_getElem (by omega)]
    rfl
  repeat (first | refine su_Pc ?_ | refine sobp_ ?_)
  refine sc_block ?_
  refine sc_env _ (by exact has_) (sc_sub (by exact sub_) (pShare hr hb (by omega) hep hes hx (hpb _ (List.getElem_mem _)) hil (by exact nop_) (fun _ l L _ hl hs => se_mono ?_ hl hs)))
  refine go_Pc ?_
  exact se_round (i + 1) (by exact has_) (by exact sub_) hil (by omega)
theorem lwP {b : Nat} (h : (Lit.float .f64 b).wf = true) : b < 18446744073709551616 := by simpa [Lit.wf] using h
theorem Parts_v {v : Value} {w : World} {b : Nat} {k : Int} (hb : b < 18446744073709551616) (hk : 0 ≤ k ∧ k ≤ 255) (h : FlsV w v) : Calls Try.prog 6 #[v, .float .f64 b, .int .u8 k] w fun e w' => e = .returned (.bool true) ∧ Fr Nil w w' := by
  obtain ⟨A, cc, l, rfl, hr, hl, h1, h2⟩ := h
  unfold maxLen at h2
  exact Fn.top (lawParts_ok (Vw.of_old .here hr) hl (by omega) hb hk)
end Go.Proofs.Ytidphdlhghgglaa
