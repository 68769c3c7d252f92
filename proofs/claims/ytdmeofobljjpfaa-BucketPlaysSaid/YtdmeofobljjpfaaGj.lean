/- The small tasks may be; chapter 19's fixed fact. -/
import Derived.Test.YtdmeofobljjpfaaGi
import Derived.Test.YtdmeofobljjpfaaCe
namespace Go.Proofs.Ytdmeofobljjpfaa
open Go.RowKit Go.MapKept
attribute [local irreducible] Go.Calls Go.Exit.then Go.Exit.inBlock Go.bodyPost Go.Code.wp Go.wpList
attribute [local irreducible] hashL ofId
def Sk.ta (s : Sk) : Ta := ⟨1 + s.k % 5, 1 + s.f % 2, sBt (1 + s.k % 5) s.b, sLn (1 + s.k % 5) s.l, sWt (1 + s.k % 5) s.l s.w, sCh (1 + s.k % 5) s.c, 1 + s.p % 3, tagS (s.t % 3)⟩
theorem Sk.ta_c (s : Sk) : s.ta.c = s.tc := rfl
theorem tagS_le {m : Int} (h : m = 0 ∨ m = 1 ∨ m = 2) : ((tagS m).size : Int) ≤ 32 := by
  rcases h with rfl | rfl | rfl <;> decide
theorem small_ci {kd fl b l w c : Int} (hk : 1 ≤ kd ∧ kd ≤ 5) (hf : fl = 1 ∨ fl = 2) (hb : 0 ≤ b) (hl : 0 ≤ l) (hw : 0 ≤ w) (hc : 0 ≤ c) : ciErr kd fl (sBt kd b) (sLn kd l) (sWt kd l w) (sCh kd c) = 0 := by
  have h1 : 1 ≤ 1 + b % 4 ∧ 1 + b % 4 ≤ 4 := by omega
  have h2 : 1 ≤ 1 + (1 + l % 5) % 3 ∧ 1 + (1 + l % 5) % 3 ≤ 3 := by omega
  have h3 : 1 ≤ 1 + l % 5 ∧ 1 + l % 5 ≤ 5 := by omega
  have h4 : 1 ≤ 1 + w % (1 + l % 5) ∧ 1 + w % (1 + l % 5) ≤ 1 + l % 5 := ⟨by have := Int.emod_nonneg w (show 1 + l % 5 ≠ 0 by omega); omega, by have := Int.emod_lt_of_pos w (show 0 < 1 + l % 5 by omega); omega⟩
  have h5 : 1 ≤ 1 + c % 4 ∧ 1 + c % 4 ≤ 4 := by omega
  have hin : ∀ {x ch : Int}, 0 ≤ x → x ≤ 100 → 1 ≤ ch → ch ≤ 4 → ¬ 511 < (if 0 < ch then (x + ch - 1) / ch else 0) := by
    intro x ch a1 a2 a3 a4
    rw [if_pos (by omega)]
    have := Int.ediv_le_self ch (show 0 ≤ x + ch - 1 by omega)
    omega
  unfold ciErr
  rw [if_neg (by simp [hf]), if_neg (by omega)]
  rcases (show kd = 1 ∨ kd = 2 ∨ kd = 3 ∨ kd = 4 ∨ kd = 5 by omega) with rfl | rfl | rfl | rfl | rfl
  · simp [sBt, sLn, sWt, sCh, ciIn, wi, uB, uL, uW, callsN]
  · have e : ciIn 2 (1 + b % 4) 0 0 0 = true := by simp [ciIn, wi, uB, uL, uW]; omega
    simp only [sBt, sLn, sWt, sCh]
    simp [e, callsN]
    omega
  · have hm := mul_le (a := 1 + (1 + l % 5) % 3) (b := 1 + b % 4) (m := 3) (n := 4) (by omega) h2.2 (by omega) h1.2
    have e : ciIn 3 (1 + b % 4) (1 + (1 + l % 5) % 3) 0 (1 + c % 4) = true := by simp [ciIn, wi, uB, uL, uW]; omega
    have := hin (x := (1 + (1 + l % 5) % 3) * (1 + b % 4)) hm.1 (by omega) h5.1 h5.2
    rw [show sBt 3 b = 1 + b % 4 by simp [sBt], show sLn 3 l = 1 + (1 + l % 5) % 3 by simp [sLn], show sWt 3 l w = 0 by simp [sWt], show sCh 3 c = 1 + c % 4 by simp [sCh], if_neg (by simp [e]), show callsN 3 (1 + b % 4) (1 + (1 + l % 5) % 3) 0 (1 + c % 4) = if 0 < 1 + c % 4 then ((1 + (1 + l % 5) % 3) * (1 + b % 4) + (1 + c % 4) - 1) / (1 + c % 4) else 0 by simp [callsN, inN], if_neg this]
  · have e : ciIn 4 0 (1 + l % 5) 0 (1 + c % 4) = true := by simp [ciIn, wi, uB, uL, uW]; omega
    have := hin (x := (1 + l % 5)) (by omega) (by omega) h5.1 h5.2
    rw [show sBt 4 b = 0 by simp [sBt], show sLn 4 l = 1 + l % 5 by simp [sLn], show sWt 4 l w = 0 by simp [sWt], show sCh 4 c = 1 + c % 4 by simp [sCh], if_neg (by simp [e]), show callsN 4 0 (1 + l % 5) 0 (1 + c % 4) = if 0 < 1 + c % 4 then ((1 + l % 5) + (1 + c % 4) - 1) / (1 + c % 4) else 0 by simp [callsN, inN], if_neg this]
  · have hbl := bl_le (wt := 1 + w % (1 + l % 5)) (by omega) (by omega)
    rw [hbl.2] at hbl
    have e : ciIn 5 0 (1 + l % 5) (1 + w % (1 + l % 5)) (1 + c % 4) = true := by simp [ciIn, wi, uB, uL, uW]; omega
    have := hin (x := (1 + l % 5 + Lib.bitLen (1 + w % (1 + l % 5)).toNat)) (by omega) (by omega) h5.1 h5.2
    rw [show sBt 5 b = 0 by simp [sBt], show sLn 5 l = 1 + l % 5 by simp [sLn], show sWt 5 l w = 1 + w % (1 + l % 5) by simp [sWt], show sCh 5 c = 1 + c % 4 by simp [sCh], if_neg (by simp [e]), show callsN 5 0 (1 + l % 5) (1 + w % (1 + l % 5)) (1 + c % 4) = if 0 < 1 + c % 4 then ((1 + l % 5 + Lib.bitLen (1 + w % (1 + l % 5)).toNat) + (1 + c % 4) - 1) / (1 + c % 4) else 0 by simp [callsN, inN], if_neg this]
theorem Sk.ta_ok (s : Sk) : s.ta.err = 0 := by
  have h1 := s.hk
  have h2 := s.hf
  have h3 := s.hp
  have h4 := s.ht
  have h := small_ci (kd := 1 + s.k % 5) (fl := 1 + s.f % 2) (b := s.b) (l := s.l) (w := s.w) (c := s.c) (by omega) (by omega) s.hb.1 s.hl.1 s.hw.1 s.hc.1
  have ht := tagS_le (m := s.t % 3) (by omega)
  show tErr (1 + s.k % 5) (1 + s.f % 2) (sBt (1 + s.k % 5) s.b) (sLn (1 + s.k % 5) s.l) (sWt (1 + s.k % 5) s.l s.w) (sCh (1 + s.k % 5) s.c) (1 + s.p % 3) (tagS (s.t % 3)) = 0
  unfold tErr
  rw [if_neg (by simp [h]), if_neg (by omega)]
/-- The task of noughts. -/
def s0 : Sk := ⟨0, 0, 0, 0, 0, 0, 0, 0, by decide, by decide, by decide, by decide, by decide, by decide, by decide, by decide⟩
def id1 : Id := ⟨1 :: List.replicate 15 0, rfl, fun x hx => by
  rcases List.mem_cons.1 hx with h | h
  · subst h
    decide
  · rw [List.eq_of_mem_replicate h]
    decide⟩
def r19 : Rl := ⟨10, 1, 5⟩
theorem r19_ok : rErr r19 s0.ta = 0 := by
  unfold rErr
  rw [if_neg (by simp [s0.ta_ok])]
  decide
theorem s0_out : s0.ta.out = ((1 : Nat) : Int) := rfl
theorem els_one : Els [1] := fun x hx => by
  rw [List.mem_singleton] at hx
  subst hx
  unfold El
  decide
theorem nth_Gj {φ : Prop} (h : φ := by (first | rfl | first | exact bkC_n0 | exact bkC_n1 | exact bkC_n2 | exact bkC_n19' | exact tc_n0 | exact tc_n1)) : φ := h
theorem mid_Gj {φ : Prop} (h : φ := by (first | first | exact boC_mt | exact boC_mr | exact bkC_mid | exact Ta.mid _ | exact tc_mid | exact Mid.all | exact Mid.all | exact Mid.head)) : φ := h
theorem sz_Gj {φ : Prop} (h : φ := by (first | rfl | ((try simp only [bkC_len tc_len, tc_len, BK.len, bytes_length, Id.len]); (first | done | rfl); first | done | fail))) : φ := h
theorem one_Gj {φ : Prop} (h : φ := by (first | assumption | exact first | exact BK.one _ | exact bkC_one tc_one | exact tc_one | exact Ta.one _ | exact Rl.one _ | exact one_bytes _ | (simp only [List.mem_cons, List.not_mem_nil, or_false, forall_eq_or_imp, forall_eq]; decide) | exact one_bytes _)) : φ := h
theorem set_Gj {φ : Prop} (h : φ := by (first | (first | exact tc_set0 | exact bkC_set19 tc_len) | ((repeat (first | exact SetAt.here | apply SetAt.there)); first | done | fail))) : φ := h
theorem cl_Gj {φ : Prop} (h : φ := by first | rfl | exact .t | exact .f | exact .t (by omega) | exact .f (by omega) | exact .u | exact .i (by (first | exact .t (by omega) | exact .f (by omega) | exact .u | exact .i (by omega) | exact .v (by omega) | exact .b (by omega) | exact .w | rfl | omega)) | exact .v (by omega) | exact .b (by omega) | exact .q (by omega) | exact .w | exact .b (by exact at_) rfl (by exact nth_Gj) | exact .w (by exact at_) rfl rfl (by exact sz_Gj) | exact .s (by exact at_) (by exact mid_Gj) rfl rfl (by exact sz_Gj) | exact .z rfl rfl ⟨by kernel_rfl⟩ | exact .b rfl rfl ⟨by kernel_rfl⟩ | exact .a rfl rfl ⟨by kernel_rfl⟩ | exact .o rfl | exact .s | exact .n | exact .p rfl | exact .q rfl | exact .c rfl | exact .d rfl | exact .n rfl rfl (by omega) | exact .a rfl rfl (by omega) | exact .p rfl rfl (by omega) (by omega) | exact .y rfl rfl (by omega) (by omega) | exact .o (by exact at_) (by omega) rfl (by exact nth_Gj) | exact .m (by exact at_) (by omega) (by exact mid_Gj) rfl rfl (by exact sz_Gj) | exact .mlen (by exact at_) rfl | exact .t (by exact at_) rfl rfl (by first | exact True.intro | rfl) (by assumption) | exact .f (by exact at_) rfl rfl (by first | exact True.intro | rfl) (by assumption) rfl | exact .t1 (by exact at_) rfl rfl (by first | exact True.intro | rfl) (by assumption) | exact .f1 (by exact at_) rfl rfl (by first | exact True.intro | rfl) (by assumption) rfl | exact .r rfl rfl (by omega) (by omega) (by exact nth_Gj) rfl | exact .s rfl (by omega) (by assumption) | exact at_ | assumption | exact .r rfl rfl | exact .h rfl rfl rfl (by omega) | exact .l rfl rfl rfl (by omega) (by omega) | exact .g rfl rfl rfl rfl (by omega) (by omega) | exact .h rfl rfl (toN_ (by omega)) (by omega) | exact .l rfl rfl (toN_ (by omega)) (by omega) (by omega) | exact .g rfl rfl (toN_ (by omega)) (toN_ (by omega)) (by omega) (by omega) | exact .o (by decide) | exact .f (by decide) | exact .n (by omega) (by first | decide | (show _ ≤ ((64 : Nat) : Int); omega)) | (constructor; (repeat (first | exact .t (by omega) | exact .f (by omega) | exact .u | exact .i (by omega) | exact .v (by omega) | exact .b (by omega) | exact .w | rfl | omega)); first | done | fail) | omega | (show _ ≤ ((64 : Nat) : Int); omega)) : φ := h
theorem pv_Gj {φ : Prop} (h : φ := by constructor; (repeat exact cl_Gj); first | done | fail) : φ := h
theorem su_Gj {φ ψ : Prop} (k : ψ) (h : Hide ψ → φ := by (intro k; (first | refine sl_pu (PuI.sep (by exact pv_Gj)) rfl ?_ | refine sl_yes rfl rfl ?_ | refine sl_no rfl rfl rfl ?_ | refine sl_off rfl rfl rfl ?_ | (fail)); exact k.out)) : φ := h ⟨k⟩
theorem rq_Gj {φ ψ : Prop} (k : ψ) (h : Hide ψ → φ := by (intro k; (first | refine wq_pu (PuI.sep (by exact pv_Gj)) rfl ?_ | refine wq_yes rfl rfl ?_ | refine wq_no rfl rfl rfl ?_ | refine wq_off rfl rfl rfl ?_ | (fail)); exact k.out)) : φ := h ⟨k⟩
theorem sto_Gj {φ ψ : Prop} (k : ψ) (h : Hide ψ → φ := by (intro k; (first | refine sl_store rfl (by exact pick_) rfl rfl (by kernel_rfl) (by exact set_Gj) ?_ | refine sl_store_whole rfl (by exact pick_) rfl (by exact sz_Gj) (by exact sz_Gj) (by exact one_Gj) ?_); exact k.out)) : φ := h ⟨k⟩
theorem go_Gj {φ ψ : Prop} (k : ψ) (h : Hide ψ → φ := by (intro k; (repeat (first | refine su_Gj ?_ | refine so_ ?_ | refine sto_Gj ?_)); exact k.out)) : φ := h ⟨k⟩
set_option maxRecDepth 100000 in
set_option maxHeartbeats 4000000 in
theorem awake19 {K : List Fa} : Fn Try.prog 7 #[] K (Ret (fun _ : Unit => True) (fun _ => .bool true) (fun _ => K)) := by
  refine fn_enter Try.func7 rfl _ Try.ntmps7 (by simp) [] (args_of (by simp)) ?_
  refine go_Gj ?_
  refine sl_pu (pu_build (v := .agg r19.c.toArray) rfl (fun W => by kernel_rfl)) rfl ?_
  refine go_Gj ?_
  refine sl_alloc rfl rfl rfl ?_; intro g1
  refine go_Gj ?_
  refine sd_drawn (fun W => AllP W [blk g1 24 r19.c]) (fun _ => true) (by kernel_rfl) 9 rfl ?_
  refine sd_yes2 0 rfl (by exact gd_) (by kernel_rfl) (by kernel_rfl) (by exact nop_) (pu_build (v := .agg s0.cells.toArray) rfl (fun W => by kernel_rfl)) rfl (fun w hw => all_ hw) ?_
  refine sd_yes2 2 rfl (by exact gd_) (by kernel_rfl) (by kernel_rfl) (by exact nop_) (PuI.all (by exact pv_Gj)) rfl (fun w hw => all_ hw) ?_
  refine sd_one 1 (by kernel_rfl) (sa_sl 1 rfl ?_)
  refine sl_call rfl rfl (by kernel_rfl) rfl (by exact sub_) (stask_ok s0) ?_
  rintro _ -
  rw [← Sk.ta_c]
  refine sl_nil ?_
  refine se_sd (fun _ w hw => all_ hw) ?_
  refine sd_one 3 (by kernel_rfl) (sa_sl 3 rfl ?_)
  refine sl_call rfl rfl (by kernel_rfl) rfl (by exact sub_) (bnew_ok r19_ok) ?_
  rintro ⟨g2, m2⟩ -
  refine sl_nil ?_
  refine se_sd (fun _ w hw => all_ hw) ?_
  refine sd_yes2 4 rfl (by exact gd_) (by kernel_rfl) (by kernel_rfl) (by exact nop_) (PuI.all (by exact pv_Gj)) rfl (fun w hw => all_ hw) ?_
  refine sd_yes2 5 rfl (by exact gd_) (by kernel_rfl) (by kernel_rfl) (by exact nop_) (PuI.all (by exact pv_Gj)) rfl (fun w hw => all_ hw) ?_
  refine sd_yes2 6 rfl (by exact gd_) (by kernel_rfl) (by kernel_rfl) (by exact nop_) (PuI.all (by exact pv_Gj)) rfl (fun w hw => all_ hw) ?_
  refine sd_yes2 7 rfl (by exact gd_) (by kernel_rfl) (by kernel_rfl) (by exact nop_) (PuI.all (by exact pv_Gj)) rfl (fun w hw => all_ hw) ?_
  refine sd_yes2 8 rfl (by exact gd_) (by kernel_rfl) (by kernel_rfl) (by exact nop_) (PuI.all (by exact pv_Gj)) rfl (fun w hw => all_ hw) ?_
  refine sd_done (by kernel_rfl) ?_
  refine go_Gj ?_
  refine sl_pu (pu_build (v := id1.v) rfl (fun W => by kernel_rfl)) rfl ?_
  refine sl_pu (pu_build (v := .agg (eC 1).toArray) rfl (fun W => by kernel_rfl)) rfl ?_
  refine sl_build (size := 2) (e := 65) (cells := rows eC [1]) rfl (fun W => by kernel_rfl) rfl (by decide) rfl ?_
  intro gb
  refine sl_call rfl rfl (by kernel_rfl) rfl (by exact sub_) (badd_new (now := 19) (id := id1) (n := 1) (ys := [1]) (fs := []) (r := r19) (t := s0.ta) (by decide) (by decide) s0.ta_ok rfl rfl s0_out els_one (Vw.of_own (e := 65) (A := some ⟨gb, 0, none⟩) (c := 1) (by exact at_))) ?_
  rintro g5 -
  rw [List.nil_append]
  refine go_Gj ?_
  refine sl_call rfl rfl (by kernel_rfl) rfl (by exact sub_) (bgetC_ok (g := g2) (m := m2) (ck := 0 + 1) (t := s0.ta) (r := r19) (fs := [bfst (stN r19.w 19) s0.ta id1 [1] g5 0]) (b := bfst (stN r19.w 19) s0.ta id1 [1] g5 0) (by exact at_) (by exact at_) (by exact at_) (List.mem_singleton.2 rfl) (by show 1 ≤ 1000000; decide)) ?_
  rintro ⟨A6, c6⟩ -
  dsimp only
  rw [show (bfst (stN r19.w 19) s0.ta id1 [1] g5 0).m = 1 from rfl]
  refine go_Gj ?_
  refine sl_alloc rfl rfl rfl ?_; intro g7
  refine go_Gj ?_
  refine sl_call rfl rfl (by kernel_rfl) rfl (by exact sub_) (start_ok (r := r19) (now := 19) (by decide) (by decide)) ?_; rintro _ -
  rw [show stN r19.w 19 = 10 from rfl]
  refine go_Gj ?_
  exact se_ret1 () trivial rfl rfl (by exact sub_)
end Go.Proofs.Ytdmeofobljjpfaa
