/- Several texts of one claim, one behind the other (Dqg, Dqh). -/
import Derived.Test.YtemhhhikopemmaaB16
import Derived.Test.YtemhhhikopemmaaB17
/- DiskPlays: what is looked at behind each call. -/
namespace Go.Proofs.Ytemhhhikopemmaa
open Go.RowKit Go.MapKept
attribute [local irreducible] Go.Calls Go.Exit.then Go.Exit.inBlock Go.bodyPost Go.Code.wp Go.wpList
theorem nth_Dqg {φ : Prop} (h : φ := by (first | rfl | first | assumption | exact rows_nth MF.len (by assumption) rfl)) : φ := h
theorem mid_Dqg {φ : Prop} (h : φ := by (first | first | exact rows_mid MF.len (by assumption) | exact rows_mid Ac.len (by assumption) | exact Mid.all | exact Mid.head)) : φ := h
theorem sz_Dqg {φ : Prop} (h : φ := by (first | rfl | (rfl; first | done | fail))) : φ := h
theorem one_Dqg {φ : Prop} (h : φ := by (first | assumption | exact first | exact one_bytes _ | exact ff_one | exact MF.one _ | exact Ac.one _ | (simp only [List.mem_cons, List.not_mem_nil, or_false, forall_eq_or_imp, forall_eq]; decide) | exact one_bytes _)) : φ := h
theorem set_Dqg {φ : Prop} (h : φ := by (first | (fail) | ((repeat (first | exact SetAt.here | apply SetAt.there)); first | done | fail))) : φ := h
theorem cl_Dqg {φ : Prop} (h : φ := by first | rfl | exact .t | exact .f | exact .t (by omega) | exact .f (by omega) | exact .u | exact .i (by (first | exact .t (by omega) | exact .f (by omega) | exact .u | exact .i (by omega) | exact .v (by omega) | exact .b (by omega) | exact .w | rfl | omega)) | exact .v (by omega) | exact .b (by omega) | exact .q (by omega) | exact .w | exact .b (by exact at_) rfl (by exact nth_Dqg) | exact .w (by exact at_) rfl rfl (by exact sz_Dqg) | exact .s (by exact at_) (by exact mid_Dqg) rfl rfl (by exact sz_Dqg) | exact .z rfl rfl ⟨by kernel_rfl⟩ | exact .b rfl rfl ⟨by kernel_rfl⟩ | exact .a rfl rfl ⟨by kernel_rfl⟩ | exact .o rfl | exact .s | exact .n | exact .p rfl | exact .q rfl | exact .c rfl | exact .d rfl | exact .n rfl rfl (by omega) | exact .a rfl rfl (by omega) | exact .p rfl rfl (by omega) (by omega) | exact .y rfl rfl (by omega) (by omega) | exact .o (by exact at_) (by omega) rfl (by exact nth_Dqg) | exact .m (by exact at_) (by omega) (by exact mid_Dqg) rfl rfl (by exact sz_Dqg) | exact .mlen (by exact at_) rfl | exact .t (by exact at_) rfl rfl (by first | exact True.intro | rfl) (by assumption) | exact .f (by exact at_) rfl rfl (by first | exact True.intro | rfl) (by assumption) rfl | exact .t1 (by exact at_) rfl rfl (by first | exact True.intro | rfl) (by assumption) | exact .f1 (by exact at_) rfl rfl (by first | exact True.intro | rfl) (by assumption) rfl | exact .r rfl rfl (by omega) (by omega) (by exact nth_Dqg) rfl | exact .s rfl (by omega) (by assumption) | exact at_ | assumption | exact .r rfl rfl | exact .h rfl rfl rfl (by omega) | exact .l rfl rfl rfl (by omega) (by omega) | exact .g rfl rfl rfl rfl (by omega) (by omega) | exact .h rfl rfl (toN_ (by omega)) (by omega) | exact .l rfl rfl (toN_ (by omega)) (by omega) (by omega) | exact .g rfl rfl (toN_ (by omega)) (toN_ (by omega)) (by omega) (by omega) | exact .o (by decide) | exact .f (by decide) | exact .n (by omega) (by first | decide | (show _ ≤ ((64 : Nat) : Int); omega)) | (constructor; (repeat (first | exact .t (by omega) | exact .f (by omega) | exact .u | exact .i (by omega) | exact .v (by omega) | exact .b (by omega) | exact .w | rfl | omega)); first | done | fail) | omega | (show _ ≤ ((64 : Nat) : Int); omega)) : φ := h
theorem pv_Dqg {φ : Prop} (h : φ := by constructor; (repeat exact cl_Dqg); first | done | fail) : φ := h
theorem su_Dqg {φ ψ : Prop} (k : ψ) (h : Hide ψ → φ := by (intro k; (first | refine sl_pu (PuI.sep (by exact pv_Dqg)) rfl ?_ | refine sl_yes rfl rfl ?_ | refine sl_no rfl rfl rfl ?_ | refine sl_off rfl rfl rfl ?_ | (first | refine sl_pu (pu_ldo (by exact at_) (by omega) rfl (at2 _ _ _) rfl (by exact nth_Dqg)) rfl ?_ | refine sl_pu (pu_ldo (by exact at_) (by omega) rfl (at1 _ _) rfl (by exact nth_Dqg)) rfl ?_)); exact k.out)) : φ := h ⟨k⟩
theorem rq_Dqg {φ ψ : Prop} (k : ψ) (h : Hide ψ → φ := by (intro k; (first | refine wq_pu (PuI.sep (by exact pv_Dqg)) rfl ?_ | refine wq_yes rfl rfl ?_ | refine wq_no rfl rfl rfl ?_ | refine wq_off rfl rfl rfl ?_ | (first | refine wq_pu (pu_ldo (by exact at_) (by omega) rfl (at2 _ _ _) rfl (by exact nth_Dqg)) rfl ?_ | refine wq_pu (pu_ldo (by exact at_) (by omega) rfl (at1 _ _) rfl (by exact nth_Dqg)) rfl ?_)); exact k.out)) : φ := h ⟨k⟩
theorem sto_Dqg {φ ψ : Prop} (k : ψ) (h : Hide ψ → φ := by (intro k; (first | refine sl_store rfl (by exact pick_) rfl rfl (by kernel_rfl) (by exact set_Dqg) ?_ | refine sl_store_whole rfl (by exact pick_) rfl (by exact sz_Dqg) (by exact sz_Dqg) (by exact one_Dqg) ?_); exact k.out)) : φ := h ⟨k⟩
theorem go_Dqg {φ ψ : Prop} (k : ψ) (h : Hide ψ → φ := by (intro k; (repeat (first | refine su_Dqg ?_ | refine so_ ?_ | refine sto_Dqg ?_)); exact k.out)) : φ := h ⟨k⟩
theorem MOk.get2 {w : World} {lim : Int} {G : Fa} {ms : List MF} {fs : List DF} (h : MOk w lim G ms fs) {k : Nat} {f : MF} (hk : ms[k]? = some f) : ∃ A c bn, (⟨f.s, A, c, f.l, f.sy, bn⟩ : DF) ∈ fs := by
  obtain ⟨X, A, c, bn, Y, rfl, -⟩ := h.split hk
  exact ⟨A, c, bn, by simp⟩
set_option maxRecDepth 100000 in
set_option maxHeartbeats 8000000 in
theorem pLook {w : World} {lim er : Int} {g m i n cR ck ql cq : Nat} {R QA : Option Addr} {ms : List MF} {fs : List DF} {G : Fa} (hl1 : 0 ≤ lim ∧ lim ≤ 1048576) (hd : rY w lim i (⟨i, R, cR, n, ms, fs, ck, G⟩, er)) (hi : i ≤ 60) {Q' : Exit → Act → World → Prop} (hN : NoP Q') (hend : Ends 421 Q' .normal (fun _ : Unit => [(5, .pointer (some ⟨g, 0, none⟩)), (6, .int .i64 lim), (7, .slice R n cR), (35, .slice QA ql cq), (36, .int .i64 ql), (37, .int .i64 i)]) (fun _ => [dB g m lim, dM m fs ck, dS fs, mR R n cR ms, G, old w]) (fun _ => True)) :
    SC Try.prog (cAt [false, false, false, false, false, true, false, true, true, false, false, true, true, false, false, false, false, false, false, false, false, false, false, false] (fb Try.f8)) Q' 421 (eY g lim QA ql cq i (⟨i, R, cR, n, ms, fs, ck, G⟩, er)) [dB g m lim, dM m fs ck, dS fs, mR R n cR ms, G, old w] := by
  obtain ⟨hnm, hni, hM⟩ := hd
  dsimp only at hnm hni hM
  have hu1 := hM.us
  have huN := hM.used
  have hfl := hM.len
  refine go_Dqg ?_
  refine sc_bjoin (fun _ : Unit => [(5, .pointer (some ⟨g, 0, none⟩)), (6, .int .i64 lim), (7, .slice R n cR), (12, .int .i64 (usedM ms)), (35, .slice QA ql cq), (36, .int .i64 ql), (37, .int .i64 i)]) (fun _ => [dB g m lim, dM m fs ck, dS fs, mR R n cR ms, G, old w]) (fun _ => True) ?_ ?_
  · refine sc_for (fun k : Nat => [(5, .pointer (some ⟨g, 0, none⟩)), (6, .int .i64 lim), (7, .slice R n cR), (12, .int .i64 (usedM (ms.take k))), (35, .slice QA ql cq), (36, .int .i64 ql), (37, .int .i64 i), (345, .slice R n cR), (346, .int .i64 n), (347, .int .i64 k)]) (fun _ => [dB g m lim, dM m fs ck, dS fs, mR R n cR ms, G, old w]) (fun k => k ≤ n) (fun k => n - k) 0 (by exact has_) (by exact sub_) (Nat.zero_le _) ?_
    rintro k hk
    by_cases hkn : k < n
    · obtain ⟨f, hf⟩ : ∃ f, ms[k]? = some f := ⟨_, List.getElem?_eq_getElem (by omega)⟩
      obtain ⟨A0, c0, bn, hdm⟩ := hM.get2 hf
      have hfm := List.mem_of_getElem? hf
      have hfs := hM.sy f hfm
      have hfu := usedM_le hfm
      have hfv := hM.vw f hfm
      have hu2 := usedM_take hf
      have hu3 := usedM_take_le (ms := ms) (k := k + 1)
      refine sc_form (e := 65) (size := 3) (A := R) (m := n) (by exact at_) (by omega) ?_
      rintro gR rfl
      refine go_Dqg ?_
      refine sl_alloc rfl rfl rfl ?_; intro g23
      refine go_Dqg ?_
      refine sl_call rfl rfl (by kernel_rfl) rfl Sub.refl (readD_ok (fs := fs) (f := ⟨f.s, A0, c0, f.l, f.sy, bn⟩) (by exact at_) (by exact at_) (by exact at_) hdm (by show f.l.length ≤ _; omega)) ?_
      rintro ⟨A1, c1⟩ -
      dsimp only
      refine go_Dqg ?_
      have hlo := fun (K : List Fa) h1 h2 => looseD_ok (K := K) (g := g) (m := m) (ck := ck) (lim := lim) (fs := fs) (f := ⟨f.s, A0, c0, f.l, f.sy, bn⟩) h1 h2 hdm hfs (by show f.l.length ≤ _; omega)
      refine sd_drawn (S2 ([u8o A1 c1 f.l, G, old w]) [blk g23 65 f.C]) (fun _ => true) (by kernel_rfl) 23 rfl ?_
      refine sd_yes2 0 rfl (by exact gd_) (by kernel_rfl) (by kernel_rfl) (by (repeat (first | assumption | refine nop_then ?_ | refine nop_block ?_)); first | done | fail) (PuI.all2 (by exact pv_Dqg)) rfl (fun w hw => ⟨hw.sub (by exact sub_), by exact all_ hw⟩) ?_
      refine sd_yes2 1 rfl (by exact gd_) (by kernel_rfl) (by kernel_rfl) (by (repeat (first | assumption | refine nop_then ?_ | refine nop_block ?_)); first | done | fail) (PuI.all2 (by exact pv_Dqg)) rfl (fun w hw => ⟨hw.sub (by exact sub_), by exact all_ hw⟩) ?_
      refine sd_yes2 2 rfl (by exact gd_) (by kernel_rfl) (by kernel_rfl) (by (repeat (first | assumption | refine nop_then ?_ | refine nop_block ?_)); first | done | fail) (PuI.all2 (by exact pv_Dqg)) rfl (fun w hw => ⟨hw.sub (by exact sub_), by exact all_ hw⟩) ?_
      first | refine sd_yes2 3 rfl (by exact gd_) (by kernel_rfl) (by kernel_rfl) (by (repeat (first | assumption | refine nop_then ?_ | refine nop_block ?_)); first | done | fail) (PuI.all2 (by exact pv_Dqg)) rfl (fun w hw => ⟨hw.sub (by exact sub_), by exact all_ hw⟩) ?_ | refine sd_off2 3 rfl (by exact gd_) (by kernel_rfl) (by kernel_rfl) (by (repeat (first | assumption | refine nop_then ?_ | refine nop_block ?_)); first | done | fail) rfl (fun w hw => ⟨hw.sub (by exact sub_), by exact all_ hw⟩) ?_ | refine sd_off3 3 rfl rfl rfl (by kernel_rfl) (by kernel_rfl) (by (repeat (first | assumption | refine nop_then ?_ | refine nop_block ?_)); first | done | fail) rfl (fun w hw => ⟨hw.sub (by exact sub_), by exact all_ hw⟩) ?_
      first | refine sd_yes2 4 rfl (by exact gd_) (by kernel_rfl) (by kernel_rfl) (by (repeat (first | assumption | refine nop_then ?_ | refine nop_block ?_)); first | done | fail) (pu_str (bs := f.l) rfl rfl rfl rfl (fun W hW => Vw.of_own (c := c1) (e := 5) .here W hW.1)) rfl (fun w hw => ⟨hw.sub (by exact sub_), by exact all_ hw⟩) ?_ | refine sd_off2 4 rfl (by exact gd_) (by kernel_rfl) (by kernel_rfl) (by (repeat (first | assumption | refine nop_then ?_ | refine nop_block ?_)); first | done | fail) rfl (fun w hw => ⟨hw.sub (by exact sub_), by exact all_ hw⟩) ?_ | refine sd_off3 4 rfl rfl rfl (by kernel_rfl) (by kernel_rfl) (by (repeat (first | assumption | refine nop_then ?_ | refine nop_block ?_)); first | done | fail) rfl (fun w hw => ⟨hw.sub (by exact sub_), by exact all_ hw⟩) ?_
      first | refine sd_yes2 5 rfl (by exact gd_) (by kernel_rfl) (by kernel_rfl) (by (repeat (first | assumption | refine nop_then ?_ | refine nop_block ?_)); first | done | fail) (PuI.all2 (by exact pv_Dqg)) rfl (fun w hw => ⟨hw.sub (by exact sub_), by exact all_ hw⟩) ?_ | refine sd_off2 5 rfl (by exact gd_) (by kernel_rfl) (by kernel_rfl) (by (repeat (first | assumption | refine nop_then ?_ | refine nop_block ?_)); first | done | fail) rfl (fun w hw => ⟨hw.sub (by exact sub_), by exact all_ hw⟩) ?_ | refine sd_off3 5 rfl rfl rfl (by kernel_rfl) (by kernel_rfl) (by (repeat (first | assumption | refine nop_then ?_ | refine nop_block ?_)); first | done | fail) rfl (fun w hw => ⟨hw.sub (by exact sub_), by exact all_ hw⟩) ?_
      first | refine sd_yes2 6 rfl (by exact gd_) (by kernel_rfl) (by kernel_rfl) (by (repeat (first | assumption | refine nop_then ?_ | refine nop_block ?_)); first | done | fail) (PuI.all2 (by exact pv_Dqg)) rfl (fun w hw => ⟨hw.sub (by exact sub_), by exact all_ hw⟩) ?_ | refine sd_off2 6 rfl (by exact gd_) (by kernel_rfl) (by kernel_rfl) (by (repeat (first | assumption | refine nop_then ?_ | refine nop_block ?_)); first | done | fail) rfl (fun w hw => ⟨hw.sub (by exact sub_), by exact all_ hw⟩) ?_ | refine sd_off3 6 rfl rfl rfl (by kernel_rfl) (by kernel_rfl) (by (repeat (first | assumption | refine nop_then ?_ | refine nop_block ?_)); first | done | fail) rfl (fun w hw => ⟨hw.sub (by exact sub_), by exact all_ hw⟩) ?_
      first | refine sd_yes2 7 rfl (by exact gd_) (by kernel_rfl) (by kernel_rfl) (by (repeat (first | assumption | refine nop_then ?_ | refine nop_block ?_)); first | done | fail) (pu_str (bs := f.l) rfl rfl rfl rfl (fun W hW => hfv W (hW.1.sub (by exact sub_)))) rfl (fun w hw => ⟨hw.sub (by exact sub_), by exact all_ hw⟩) ?_ | refine sd_off2 7 rfl (by exact gd_) (by kernel_rfl) (by kernel_rfl) (by (repeat (first | assumption | refine nop_then ?_ | refine nop_block ?_)); first | done | fail) rfl (fun w hw => ⟨hw.sub (by exact sub_), by exact all_ hw⟩) ?_ | refine sd_off3 7 rfl rfl rfl (by kernel_rfl) (by kernel_rfl) (by (repeat (first | assumption | refine nop_then ?_ | refine nop_block ?_)); first | done | fail) rfl (fun w hw => ⟨hw.sub (by exact sub_), by exact all_ hw⟩) ?_
      first | refine sd_yes2 8 rfl (by exact gd_) (by kernel_rfl) (by kernel_rfl) (by (repeat (first | assumption | refine nop_then ?_ | refine nop_block ?_)); first | done | fail) (PuI.all2 (by exact pv_Dqg)) rfl (fun w hw => ⟨hw.sub (by exact sub_), by exact all_ hw⟩) ?_ | refine sd_off2 8 rfl (by exact gd_) (by kernel_rfl) (by kernel_rfl) (by (repeat (first | assumption | refine nop_then ?_ | refine nop_block ?_)); first | done | fail) rfl (fun w hw => ⟨hw.sub (by exact sub_), by exact all_ hw⟩) ?_ | refine sd_off3 8 rfl rfl rfl (by kernel_rfl) (by kernel_rfl) (by (repeat (first | assumption | refine nop_then ?_ | refine nop_block ?_)); first | done | fail) rfl (fun w hw => ⟨hw.sub (by exact sub_), by exact all_ hw⟩) ?_
      refine sd_yes2 9 rfl (by exact gd_) (by kernel_rfl) (by kernel_rfl) (by (repeat (first | assumption | refine nop_then ?_ | refine nop_block ?_)); first | done | fail) (PuI.all2 (by exact pv_Dqg)) rfl (fun w hw => ⟨hw.sub (by exact sub_), by exact all_ hw⟩) ?_
      refine sd_yes2 10 rfl (by exact gd_) (by kernel_rfl) (by kernel_rfl) (by (repeat (first | assumption | refine nop_then ?_ | refine nop_block ?_)); first | done | fail) (PuI.all2 (by exact pv_Dqg)) rfl (fun w hw => ⟨hw.sub (by exact sub_), by exact all_ hw⟩) ?_
      first | refine sd_yes2 11 rfl (by exact gd_) (by kernel_rfl) (by kernel_rfl) (by (repeat (first | assumption | refine nop_then ?_ | refine nop_block ?_)); first | done | fail) (PuI.all2 (by exact pv_Dqg)) rfl (fun w hw => ⟨hw.sub (by exact sub_), by exact all_ hw⟩) ?_ | refine sd_off2 11 rfl (by exact gd_) (by kernel_rfl) (by kernel_rfl) (by (repeat (first | assumption | refine nop_then ?_ | refine nop_block ?_)); first | done | fail) rfl (fun w hw => ⟨hw.sub (by exact sub_), by exact all_ hw⟩) ?_ | refine sd_off3 11 rfl rfl rfl (by kernel_rfl) (by kernel_rfl) (by (repeat (first | assumption | refine nop_then ?_ | refine nop_block ?_)); first | done | fail) rfl (fun w hw => ⟨hw.sub (by exact sub_), by exact all_ hw⟩) ?_
      first | refine sd_yes2 12 rfl (by exact gd_) (by kernel_rfl) (by kernel_rfl) (by (repeat (first | assumption | refine nop_then ?_ | refine nop_block ?_)); first | done | fail) (PuI.all2 (by exact pv_Dqg)) rfl (fun w hw => ⟨hw.sub (by exact sub_), by exact all_ hw⟩) ?_ | refine sd_off2 12 rfl (by exact gd_) (by kernel_rfl) (by kernel_rfl) (by (repeat (first | assumption | refine nop_then ?_ | refine nop_block ?_)); first | done | fail) rfl (fun w hw => ⟨hw.sub (by exact sub_), by exact all_ hw⟩) ?_ | refine sd_off3 12 rfl rfl rfl (by kernel_rfl) (by kernel_rfl) (by (repeat (first | assumption | refine nop_then ?_ | refine nop_block ?_)); first | done | fail) rfl (fun w hw => ⟨hw.sub (by exact sub_), by exact all_ hw⟩) ?_
      first | refine sd_yes2 13 rfl (by exact gd_) (by kernel_rfl) (by kernel_rfl) (by (repeat (first | assumption | refine nop_then ?_ | refine nop_block ?_)); first | done | fail) (PuI.all2 (by exact pv_Dqg)) rfl (fun w hw => ⟨hw.sub (by exact sub_), by exact all_ hw⟩) ?_ | refine sd_off2 13 rfl (by exact gd_) (by kernel_rfl) (by kernel_rfl) (by (repeat (first | assumption | refine nop_then ?_ | refine nop_block ?_)); first | done | fail) rfl (fun w hw => ⟨hw.sub (by exact sub_), by exact all_ hw⟩) ?_ | refine sd_off3 13 rfl rfl rfl (by kernel_rfl) (by kernel_rfl) (by (repeat (first | assumption | refine nop_then ?_ | refine nop_block ?_)); first | done | fail) rfl (fun w hw => ⟨hw.sub (by exact sub_), by exact all_ hw⟩) ?_
      first | refine sd_yes2 15 rfl (by exact gd_) (by kernel_rfl) (by kernel_rfl) (by (repeat (first | assumption | refine nop_then ?_ | refine nop_block ?_)); first | done | fail) (PuI.all2 (by exact pv_Dqg)) rfl (fun w hw => ⟨hw.sub (by exact sub_), by exact all_ hw⟩) ?_ | refine sd_off2 15 rfl (by exact gd_) (by kernel_rfl) (by kernel_rfl) (by (repeat (first | assumption | refine nop_then ?_ | refine nop_block ?_)); first | done | fail) rfl (fun w hw => ⟨hw.sub (by exact sub_), by exact all_ hw⟩) ?_ | refine sd_off3 15 rfl rfl rfl (by kernel_rfl) (by kernel_rfl) (by (repeat (first | assumption | refine nop_then ?_ | refine nop_block ?_)); first | done | fail) rfl (fun w hw => ⟨hw.sub (by exact sub_), by exact all_ hw⟩) ?_
      first | refine sd_yes2 16 rfl (by exact gd_) (by kernel_rfl) (by kernel_rfl) (by (repeat (first | assumption | refine nop_then ?_ | refine nop_block ?_)); first | done | fail) (PuI.all2 (by exact pv_Dqg)) rfl (fun w hw => ⟨hw.sub (by exact sub_), by exact all_ hw⟩) ?_ | refine sd_off2 16 rfl (by exact gd_) (by kernel_rfl) (by kernel_rfl) (by (repeat (first | assumption | refine nop_then ?_ | refine nop_block ?_)); first | done | fail) rfl (fun w hw => ⟨hw.sub (by exact sub_), by exact all_ hw⟩) ?_ | refine sd_off3 16 rfl rfl rfl (by kernel_rfl) (by kernel_rfl) (by (repeat (first | assumption | refine nop_then ?_ | refine nop_block ?_)); first | done | fail) rfl (fun w hw => ⟨hw.sub (by exact sub_), by exact all_ hw⟩) ?_
      first | refine sd_yes2 17 rfl (by exact gd_) (by kernel_rfl) (by kernel_rfl) (by (repeat (first | assumption | refine nop_then ?_ | refine nop_block ?_)); first | done | fail) (PuI.all2 (by exact pv_Dqg)) rfl (fun w hw => ⟨hw.sub (by exact sub_), by exact all_ hw⟩) ?_ | refine sd_off2 17 rfl (by exact gd_) (by kernel_rfl) (by kernel_rfl) (by (repeat (first | assumption | refine nop_then ?_ | refine nop_block ?_)); first | done | fail) rfl (fun w hw => ⟨hw.sub (by exact sub_), by exact all_ hw⟩) ?_ | refine sd_off3 17 rfl rfl rfl (by kernel_rfl) (by kernel_rfl) (by (repeat (first | assumption | refine nop_then ?_ | refine nop_block ?_)); first | done | fail) rfl (fun w hw => ⟨hw.sub (by exact sub_), by exact all_ hw⟩) ?_
      first | refine sd_yes2 18 rfl (by exact gd_) (by kernel_rfl) (by kernel_rfl) (by (repeat (first | assumption | refine nop_then ?_ | refine nop_block ?_)); first | done | fail) (PuI.all2 (by exact pv_Dqg)) rfl (fun w hw => ⟨hw.sub (by exact sub_), by exact all_ hw⟩) ?_ | refine sd_off2 18 rfl (by exact gd_) (by kernel_rfl) (by kernel_rfl) (by (repeat (first | assumption | refine nop_then ?_ | refine nop_block ?_)); first | done | fail) rfl (fun w hw => ⟨hw.sub (by exact sub_), by exact all_ hw⟩) ?_ | refine sd_off3 18 rfl rfl rfl (by kernel_rfl) (by kernel_rfl) (by (repeat (first | assumption | refine nop_then ?_ | refine nop_block ?_)); first | done | fail) rfl (fun w hw => ⟨hw.sub (by exact sub_), by exact all_ hw⟩) ?_
      first | refine sd_yes2 19 rfl (by exact gd_) (by kernel_rfl) (by kernel_rfl) (by (repeat (first | assumption | refine nop_then ?_ | refine nop_block ?_)); first | done | fail) (PuI.all2 (by exact pv_Dqg)) rfl (fun w hw => ⟨hw.sub (by exact sub_), by exact all_ hw⟩) ?_ | refine sd_off2 19 rfl (by exact gd_) (by kernel_rfl) (by kernel_rfl) (by (repeat (first | assumption | refine nop_then ?_ | refine nop_block ?_)); first | done | fail) rfl (fun w hw => ⟨hw.sub (by exact sub_), by exact all_ hw⟩) ?_ | refine sd_off3 19 rfl rfl rfl (by kernel_rfl) (by kernel_rfl) (by (repeat (first | assumption | refine nop_then ?_ | refine nop_block ?_)); first | done | fail) rfl (fun w hw => ⟨hw.sub (by exact sub_), by exact all_ hw⟩) ?_
      first | refine sd_yes2 20 rfl (by exact gd_) (by kernel_rfl) (by kernel_rfl) (by (repeat (first | assumption | refine nop_then ?_ | refine nop_block ?_)); first | done | fail) (PuI.all2 (by exact pv_Dqg)) rfl (fun w hw => ⟨hw.sub (by exact sub_), by exact all_ hw⟩) ?_ | refine sd_off2 20 rfl (by exact gd_) (by kernel_rfl) (by kernel_rfl) (by (repeat (first | assumption | refine nop_then ?_ | refine nop_block ?_)); first | done | fail) rfl (fun w hw => ⟨hw.sub (by exact sub_), by exact all_ hw⟩) ?_ | refine sd_off3 20 rfl rfl rfl (by kernel_rfl) (by kernel_rfl) (by (repeat (first | assumption | refine nop_then ?_ | refine nop_block ?_)); first | done | fail) rfl (fun w hw => ⟨hw.sub (by exact sub_), by exact all_ hw⟩) ?_
      refine sd_one 14 (by kernel_rfl) (sa_sl 14 rfl ?_)
      refine sl_yes rfl rfl ?_
      refine sl_call rfl rfl (by kernel_rfl) rfl Sub.refl (hlo _ (by exact at_) (by exact at_)) ?_
      rintro _ -
      dsimp only
      refine sl_nil ?_
      refine se_sd (fun _ w hw => ⟨hw.sub (by exact sub_), by exact all_ hw⟩) ?_
      first | refine sd_yes2 21 rfl (by exact gd_) (by kernel_rfl) (by kernel_rfl) (by (repeat (first | assumption | refine nop_then ?_ | refine nop_block ?_)); first | done | fail) (PuI.all2 (by exact pv_Dqg)) rfl (fun w hw => ⟨hw.sub (by exact sub_), by exact all_ hw⟩) ?_ | refine sd_off2 21 rfl (by exact gd_) (by kernel_rfl) (by kernel_rfl) (by (repeat (first | assumption | refine nop_then ?_ | refine nop_block ?_)); first | done | fail) rfl (fun w hw => ⟨hw.sub (by exact sub_), by exact all_ hw⟩) ?_ | refine sd_off3 21 rfl rfl rfl (by kernel_rfl) (by kernel_rfl) (by (repeat (first | assumption | refine nop_then ?_ | refine nop_block ?_)); first | done | fail) rfl (fun w hw => ⟨hw.sub (by exact sub_), by exact all_ hw⟩) ?_
      refine sd_yes2 22 rfl (by exact gd_) (by kernel_rfl) (by kernel_rfl) (by (repeat (first | assumption | refine nop_then ?_ | refine nop_block ?_)); first | done | fail) (PuI.all2 (by exact pv_Dqg)) rfl (fun w hw => ⟨hw.sub (by exact sub_), by exact all_ hw⟩) ?_
      refine sd_done (by kernel_rfl) ?_
      refine go_Dqg ?_
      rw [show ((usedM (ms.take k) : Nat) : Int) + ((f.l.length : Nat) : Int) = ((usedM (ms.take (k + 1)) : Nat) : Int) by omega]
      refine go_Dqg ?_
      exact se_round (k + 1) (by exact has_) (by exact sub_) hkn (by omega)
    · obtain rfl : k = n := by omega
      rw [List.take_of_length_le (by omega)]
      refine go_Dqg ?_
      exact se_mid () (by exact has_) (by exact sub_) trivial
  rintro _ -
  refine sc_know (mp_nodup (fs := fs) (m := m) (ck := ck) (by exact at_)) ?_
  rintro ⟨-, hpw⟩
  refine go_Dqg ?_
  refine sl_call rfl rfl (by kernel_rfl) rfl Sub.refl (namesD_ok (fs := fs) (by exact at_) (by exact at_) (by omega)) ?_
  rintro ⟨A1, c1⟩ -
  dsimp only
  refine go_Dqg ?_
  refine sc_bjoin (fun _ : Unit => [(5, .pointer (some ⟨g, 0, none⟩)), (6, .int .i64 lim), (7, .slice R n cR), (12, .int .i64 (usedM ms)), (26, .slice A1 fs.length c1), (35, .slice QA ql cq), (36, .int .i64 ql), (37, .int .i64 i)]) (fun _ => [dB g m lim, dM m fs ck, dS fs, mR R n cR ms, G, old w]) (fun _ => True) ?_ ?_
  · refine sc_for (fun k : Nat => [(5, .pointer (some ⟨g, 0, none⟩)), (6, .int .i64 lim), (7, .slice R n cR), (12, .int .i64 (usedM ms)), (26, .slice A1 fs.length c1), (35, .slice QA ql cq), (36, .int .i64 ql), (37, .int .i64 i), (390, .int .i64 fs.length), (391, .int .i64 k)]) (fun _ => [own 9 1 A1 fs.length c1 ((namesOf fs).map Go.Proofs.encStr), dB g m lim, dM m fs ck, dS fs, mR R n cR ms, G, old w]) (fun k => k ≤ fs.length) (fun k => fs.length - k) 0 (by exact has_) (by exact sub_) (Nat.zero_le _) ?_
    rintro k hk
    by_cases hkn : k < fs.length
    · refine sc_form (e := 9) (size := 1) (A := A1) (m := fs.length) (by exact at_) (by omega) ?_
      rintro gn rfl
      by_cases hk0 : k = 0
      · subst hk0
        refine go_Dqg ?_
        ((refine sq_region (by kernel_rfl) (by kernel_rfl) ?_; (repeat refine rq_Dqg ?_); refine sq_end ?_))
        refine go_Dqg ?_
        exact se_round 1 (by exact has_) (by exact sub_) hkn (by omega)
      · obtain ⟨y, rfl⟩ : ∃ y, k = y + 1 := ⟨k - 1, by omega⟩
        have hnl := names_len (fs := fs)
        obtain ⟨x1, hx1⟩ : ∃ x1, (namesOf fs)[y]? = some x1 := ⟨_, List.getElem?_eq_getElem (by omega)⟩
        obtain ⟨x2, hx2⟩ : ∃ x2, (namesOf fs)[y + 1]? = some x2 := ⟨_, List.getElem?_eq_getElem (by omega)⟩
        have hlt := names_lt hpw hx1 hx2
        have hn1 : nth ((namesOf fs).map Go.Proofs.encStr) ((((y + 1 : Nat) : Int) - 1).toNat * 1) = some (.string ⟨x1.toArray⟩) := by
          rw [nth_eq, show (((y + 1 : Nat) : Int) - 1).toNat * 1 = y by omega, List.getElem?_map, hx1]
          rfl
        have hn2 : nth ((namesOf fs).map Go.Proofs.encStr) ((y + 1) * 1) = some (.string ⟨x2.toArray⟩) := by
          rw [nth_eq, show (y + 1) * 1 = y + 1 by omega, List.getElem?_map, hx2]
          rfl
        refine go_Dqg ?_
        refine sq_region (by kernel_rfl) (by kernel_rfl) ?_
        repeat refine rq_Dqg ?_
        refine wq_pu (pu_geq_str rfl rfl) rfl ?_
        rw [enc_toList (x := x1) rfl, enc_toList (x := x2) rfl, hlt]
        repeat refine rq_Dqg ?_
        refine sq_end ?_
        refine go_Dqg ?_
        exact se_round (y + 1 + 1) (by exact has_) (by exact sub_) hkn (by omega)
    · obtain rfl : k = fs.length := by omega
      refine go_Dqg ?_
      exact se_mid () (by exact has_) (by exact sub_) trivial
  rintro _ -
  refine go_Dqg ?_
  refine sl_call rfl rfl (by kernel_rfl) rfl Sub.refl (used_ok (fs := fs) (by exact at_) (by exact at_) (by omega)) ?_
  rintro _ -
  refine go_Dqg ?_
  exact hend () trivial (by exact has_) (by exact sub_)
end Go.Proofs.Ytemhhhikopemmaa
/- DiskPlays: the walk. -/
namespace Go.Proofs.Ytemhhhikopemmaa
open Go.RowKit Go.MapKept
attribute [local irreducible] Go.Calls Go.Exit.then Go.Exit.inBlock Go.bodyPost Go.Code.wp Go.wpList
theorem nth_Dqh {φ : Prop} (h : φ := by (first | rfl | first | assumption | exact rows_nth MF.len (by assumption) rfl)) : φ := h
theorem mid_Dqh {φ : Prop} (h : φ := by (first | first | exact rows_mid MF.len (by assumption) | exact rows_mid Ac.len (by assumption) | exact Mid.all | exact Mid.head)) : φ := h
theorem sz_Dqh {φ : Prop} (h : φ := by (first | rfl | (rfl; first | done | fail))) : φ := h
theorem one_Dqh {φ : Prop} (h : φ := by (first | assumption | exact first | exact one_bytes _ | exact ff_one | exact MF.one _ | exact Ac.one _ | (simp only [List.mem_cons, List.not_mem_nil, or_false, forall_eq_or_imp, forall_eq]; decide) | exact one_bytes _)) : φ := h
theorem set_Dqh {φ : Prop} (h : φ := by (first | (fail) | ((repeat (first | exact SetAt.here | apply SetAt.there)); first | done | fail))) : φ := h
theorem cl_Dqh {φ : Prop} (h : φ := by first | rfl | exact .t | exact .f | exact .t (by omega) | exact .f (by omega) | exact .u | exact .i (by (first | exact .t (by omega) | exact .f (by omega) | exact .u | exact .i (by omega) | exact .v (by omega) | exact .b (by omega) | exact .w | rfl | omega)) | exact .v (by omega) | exact .b (by omega) | exact .q (by omega) | exact .w | exact .b (by exact at_) rfl (by exact nth_Dqh) | exact .w (by exact at_) rfl rfl (by exact sz_Dqh) | exact .s (by exact at_) (by exact mid_Dqh) rfl rfl (by exact sz_Dqh) | exact .z rfl rfl ⟨by kernel_rfl⟩ | exact .b rfl rfl ⟨by kernel_rfl⟩ | exact .a rfl rfl ⟨by kernel_rfl⟩ | exact .o rfl | exact .s | exact .n | exact .p rfl | exact .q rfl | exact .c rfl | exact .d rfl | exact .n rfl rfl (by omega) | exact .a rfl rfl (by omega) | exact .p rfl rfl (by omega) (by omega) | exact .y rfl rfl (by omega) (by omega) | exact .o (by exact at_) (by omega) rfl (by exact nth_Dqh) | exact .m (by exact at_) (by omega) (by exact mid_Dqh) rfl rfl (by exact sz_Dqh) | exact .mlen (by exact at_) rfl | exact .t (by exact at_) rfl rfl (by first | exact True.intro | rfl) (by assumption) | exact .f (by exact at_) rfl rfl (by first | exact True.intro | rfl) (by assumption) rfl | exact .t1 (by exact at_) rfl rfl (by first | exact True.intro | rfl) (by assumption) | exact .f1 (by exact at_) rfl rfl (by first | exact True.intro | rfl) (by assumption) rfl | exact .r rfl rfl (by omega) (by omega) (by exact nth_Dqh) rfl | exact .s rfl (by omega) (by assumption) | exact at_ | assumption | exact .r rfl rfl | exact .h rfl rfl rfl (by omega) | exact .l rfl rfl rfl (by omega) (by omega) | exact .g rfl rfl rfl rfl (by omega) (by omega) | exact .h rfl rfl (toN_ (by omega)) (by omega) | exact .l rfl rfl (toN_ (by omega)) (by omega) (by omega) | exact .g rfl rfl (toN_ (by omega)) (toN_ (by omega)) (by omega) (by omega) | exact .o (by decide) | exact .f (by decide) | exact .n (by omega) (by first | decide | (show _ ≤ ((64 : Nat) : Int); omega)) | (constructor; (repeat (first | exact .t (by omega) | exact .f (by omega) | exact .u | exact .i (by omega) | exact .v (by omega) | exact .b (by omega) | exact .w | rfl | omega)); first | done | fail) | omega | (show _ ≤ ((64 : Nat) : Int); omega)) : φ := h
theorem pv_Dqh {φ : Prop} (h : φ := by constructor; (repeat exact cl_Dqh); first | done | fail) : φ := h
theorem su_Dqh {φ ψ : Prop} (k : ψ) (h : Hide ψ → φ := by (intro k; (first | refine sl_pu (PuI.sep (by exact pv_Dqh)) rfl ?_ | refine sl_yes rfl rfl ?_ | refine sl_no rfl rfl rfl ?_ | refine sl_off rfl rfl rfl ?_ | (first | refine sl_pu (pu_ldo (by exact at_) (by omega) rfl (at2 _ _ _) rfl (by exact nth_Dqh)) rfl ?_ | refine sl_pu (pu_ldo (by exact at_) (by omega) rfl (at1 _ _) rfl (by exact nth_Dqh)) rfl ?_)); exact k.out)) : φ := h ⟨k⟩
theorem rq_Dqh {φ ψ : Prop} (k : ψ) (h : Hide ψ → φ := by (intro k; (first | refine wq_pu (PuI.sep (by exact pv_Dqh)) rfl ?_ | refine wq_yes rfl rfl ?_ | refine wq_no rfl rfl rfl ?_ | refine wq_off rfl rfl rfl ?_ | (first | refine wq_pu (pu_ldo (by exact at_) (by omega) rfl (at2 _ _ _) rfl (by exact nth_Dqh)) rfl ?_ | refine wq_pu (pu_ldo (by exact at_) (by omega) rfl (at1 _ _) rfl (by exact nth_Dqh)) rfl ?_)); exact k.out)) : φ := h ⟨k⟩
theorem sto_Dqh {φ ψ : Prop} (k : ψ) (h : Hide ψ → φ := by (intro k; (first | refine sl_store rfl (by exact pick_) rfl rfl (by kernel_rfl) (by exact set_Dqh) ?_ | refine sl_store_whole rfl (by exact pick_) rfl (by exact sz_Dqh) (by exact sz_Dqh) (by exact one_Dqh) ?_); exact k.out)) : φ := h ⟨k⟩
theorem go_Dqh {φ ψ : Prop} (k : ψ) (h : Hide ψ → φ := by (intro k; (repeat (first | refine su_Dqh ?_ | refine so_ ?_ | refine sto_Dqh ?_)); exact k.out)) : φ := h ⟨k⟩
abbrev eR (g : Nat) (lim : Int) (QA : Option Addr) (al cq : Nat) : Dr → Env := fun p => [(5, .pointer (some ⟨g, 0, none⟩)), (6, .int .i64 lim), (7, .slice p.R p.n p.cR), (35, .slice QA al cq), (36, .int .i64 al), (37, .int .i64 p.i)]
abbrev hR' (w : World) (g m : Nat) (lim : Int) : Dr → List Fa := fun p => dB g m lim :: dM m p.fs p.ck :: dS p.fs :: mR p.R p.n p.cR p.ms :: p.G :: [old w]
set_option maxRecDepth 100000 in
set_option maxHeartbeats 16000000 in
theorem pRound {w : World} {lim : Int} {QA : Option Addr} {cq g m i cR n ck : Nat} {R : Option Addr} {ms : List MF} {fs : List DF} {G : Fa} {acts : List Ac} (hv : Reads w 6 QA acts.length (rows Ac.C acts)) (hok : ∀ a ∈ acts, a.ok w) (hal : acts.length ≤ 9223372036854775807) (hl1 : 0 ≤ lim ∧ lim ≤ 1048576) (hlt : i < acts.length) (hnm : n = ms.length) (hmi : n ≤ i) (hi61 : i ≤ 61) (hM : MOk w lim G ms fs) {Q' : Exit → Act → World → Prop} (hN : NoP Q')
    (hend : Ends 421 Q' .normal (eR g lim QA acts.length cq) (hR' w g m lim) (fun p => p.i = i + 1 ∧ p.n = p.ms.length ∧ p.n ≤ i + 1 ∧ i ≤ 60 ∧ MOk w lim p.G p.ms p.fs)) (hout : Ends 421 Q' (.exit 0) (fun _ : Unit => []) (fun _ => [old w]) (fun _ => True)) :
    SC Try.prog (cAt [false, false, false, false, false, true, false, true, true] (fb Try.f8)) Q' 421 (eR g lim QA acts.length cq ⟨i, R, cR, n, ms, fs, ck, G⟩) (hR' w g m lim ⟨i, R, cR, n, ms, fs, ck, G⟩) := by
  dsimp only [eR, hR']
  have hai : acts[i]? = some acts[i] := List.getElem?_eq_getElem hlt
  have ha := hok _ (List.getElem_mem hlt)
  generalize acts[i] = a at hai ha
  obtain ⟨⟨k0, k1⟩, ⟨n0, n1⟩, ⟨j0, j1⟩, hrd, hab, hac, ham⟩ := ha
  have hvw : Vw [dB g m lim, dM m fs ck, dS fs, mR R n cR ms, G, old w] (fun w => Reads w 6 QA acts.length (rows Ac.C acts)) := Vw.of_old (by exact at_) hv
  refine sc_know (vw_form hvw (by omega)) ?_
  rintro ⟨ad, rfl⟩
  refine go_Dqh ?_
  refine sl_pu (pu_ldrs hvw (by omega) rfl (rows_mid Ac.len hai) rfl rfl rfl) rfl ?_
  refine go_Dqh ?_
  refine sl_alloc rfl rfl rfl ?_; intro g9
  have hal63 : a.l.length ≤ 9223372036854775807 := by
    unfold maxLen at ham
    exact Nat.le_trans hac ham
  by_cases h60 : 60 < i
  · refine go_Dqh ?_
    exact hout () trivial (by exact has_) (by exact sub_)
  by_cases h200 : 200 < a.l.length
  · refine go_Dqh ?_
    exact hout () trivial (by exact has_) (by exact sub_)
  by_cases h40 : 40 < a.s.size
  · refine go_Dqh ?_
    exact hout () trivial (by exact has_) (by exact sub_)
  refine go_Dqh ?_
  refine sl_build (size := 1) (e := 9) (cells := [.string nm0, .string nm1, .string nm2]) rfl (fun W => by kernel_rfl) rfl (by decide) rfl ?_
  intro g10
  have hq3 : a.nm % 3 < 3 := by omega
  have hq0 : 0 ≤ a.nm % 3 := by omega
  have hn3 := nmOf_nth hq0 hq3
  refine go_Dqh ?_
  refine sc_join (fun s : ByteArray => [(5, .pointer (some ⟨g, 0, none⟩)), (6, .int .i64 lim), (7, .slice R n cR), (9, .pointer (some ⟨g9, 0, none⟩)), (10, .string s), (35, .slice (some ad) acts.length cq), (36, .int .i64 acts.length), (37, .int .i64 i)]) (fun _ => [dB g m lim, dM m fs ck, dS fs, mR R n cR ms, G, blk g9 63 a.C, old w]) (fun s => s.size ≤ 40) ?_ ?_
  · refine sc_if rfl (fun h => ?_) (fun h => ?_)
    · refine go_Dqh ?_
      exact se_mid a.s (by exact has_) (by exact sub_) (by omega)
    · refine go_Dqh ?_
      exact se_mid (nmOf (a.nm % 3)) (by exact has_) (by exact sub_) (by have := nmOf_size (a.nm % 3); omega)
  clear hn3 hq0 hq3 hvw
  intro s hs40
  have hu1 := hM.us
  have huN := hM.used
  have hfl := hM.len
  refine go_Dqh ?_
  refine sc_bjoin (fun p : Int => [(5, .pointer (some ⟨g, 0, none⟩)), (6, .int .i64 lim), (7, .slice R n cR), (9, .pointer (some ⟨g9, 0, none⟩)), (10, .string s), (11, .int .i64 p), (12, .int .i64 (usedM ms)), (35, .slice (some ad) acts.length cq), (36, .int .i64 acts.length), (37, .int .i64 i)]) (fun _ => [dB g m lim, dM m fs ck, dS fs, mR R n cR ms, G, blk g9 63 a.C, old w]) (fun p => AtN ms s p) ?_ ?_
  · refine sc_for (fun p : Nat × Int => [(5, .pointer (some ⟨g, 0, none⟩)), (6, .int .i64 lim), (7, .slice R n cR), (9, .pointer (some ⟨g9, 0, none⟩)), (10, .string s), (11, .int .i64 p.2), (12, .int .i64 (usedM (ms.take p.1))), (35, .slice (some ad) acts.length cq), (36, .int .i64 acts.length), (37, .int .i64 i), (66, .slice R n cR), (67, .int .i64 n), (68, .int .i64 p.1)]) (fun _ => [dB g m lim, dM m fs ck, dS fs, mR R n cR ms, G, blk g9 63 a.C, old w]) (fun p => p.1 ≤ n ∧ AtN (ms.take p.1) s p.2) (fun p => n - p.1) (0, -1) (by exact has_) (by exact sub_) ⟨Nat.zero_le _, .inl ⟨rfl, fun f hf => by simp at hf⟩⟩ ?_
    rintro ⟨k, at'⟩ ⟨hk, hat⟩
    dsimp only at hk hat ⊢
    by_cases hkn : k < n
    · obtain ⟨f, hf⟩ : ∃ f, ms[k]? = some f := ⟨_, List.getElem?_eq_getElem (by omega)⟩
      have hu2 := usedM_take hf
      have hu3 := usedM_take_le (ms := ms) (k := k + 1)
      refine sc_form (e := 65) (size := 3) (A := R) (m := n) (by exact at_) (by omega) ?_
      rintro gR rfl
      by_cases hs : f.s = s
      · subst hs
        refine go_Dqh ?_
        refine sl_alloc rfl rfl rfl ?_; intro g14
        refine go_Dqh ?_
        rw [show ((usedM (ms.take k) : Nat) : Int) + ((f.l.length : Nat) : Int) = ((usedM (ms.take (k + 1)) : Nat) : Int) by omega]
        refine go_Dqh ?_
        exact se_round (k + 1, (k : Int)) (by exact has_) (by exact sub_) ⟨hkn, .hit hf⟩ (by show n - (k + 1) < n - k; omega)
      · refine go_Dqh ?_
        refine sl_alloc rfl rfl rfl ?_; intro g14
        refine go_Dqh ?_
        rw [show ((usedM (ms.take k) : Nat) : Int) + ((f.l.length : Nat) : Int) = ((usedM (ms.take (k + 1)) : Nat) : Int) by omega]
        rw [bne_str hs]
        refine go_Dqh ?_
        exact se_round (k + 1, at') (by exact has_) (by exact sub_) ⟨hkn, hat.skip hf hs⟩ (by show n - (k + 1) < n - k; omega)
    · obtain rfl : k = n := by omega
      rw [List.take_of_length_le (by omega)] at hat ⊢
      refine go_Dqh ?_
      exact se_mid at' (by exact has_) (by exact sub_) hat
  intro p hat
  refine go_Dqh ?_
  refine sc_join (fun x : Int => [(5, .pointer (some ⟨g, 0, none⟩)), (6, .int .i64 lim), (7, .slice R n cR), (9, .pointer (some ⟨g9, 0, none⟩)), (10, .string s), (11, .int .i64 p), (12, .int .i64 (usedM ms)), (15, .int .i64 x), (35, .slice (some ad) acts.length cq), (36, .int .i64 acts.length), (37, .int .i64 i)]) (fun _ => [dB g m lim, dM m fs ck, dS fs, mR R n cR ms, G, blk g9 63 a.C, old w]) (fun x => -9223372036854775808 ≤ x ∧ x ≤ 9223372036854775807) ?_ ?_
  · refine sc_if rfl (fun h => ?_) (fun h => ?_)
    · have hwr : 0 ≤ IntKind.u64.wrap a.n := by rw [IntKind.wrap_u64]; omega
      refine go_Dqh ?_
      exact se_mid (IntKind.u64.wrap a.n % 60) (by exact has_) (by exact sub_) (by omega)
    · refine go_Dqh ?_
      exact se_mid a.n (by exact has_) (by exact sub_) ⟨j0, j1⟩
  intro x hx
  refine go_Dqh ?_
  refine sc_join (fun _ : Unit => [(5, .pointer (some ⟨g, 0, none⟩)), (6, .int .i64 lim), (7, .slice R n cR), (9, .pointer (some ⟨g9, 0, none⟩)), (10, .string s), (11, .int .i64 p), (12, .int .i64 (usedM ms)), (15, .int .i64 x), (16, .int .i64 0), (17, .int .i64 (wantOf p)), (35, .slice (some ad) acts.length cq), (36, .int .i64 acts.length), (37, .int .i64 i)]) (fun _ => [dB g m lim, dM m fs ck, dS fs, mR R n cR ms, G, blk g9 63 a.C, old w]) (fun _ => True) ?_ ?_
  · refine sc_if rfl (fun h => ?_) (fun h => ?_)
    · have hw : wantOf p = 19 := if_pos (of_decide_eq_true h)
      refine go_Dqh ?_
      rw [← hw]
      exact se_mid () (by exact has_) (by exact sub_) trivial
    · have hw : wantOf p = 0 := if_neg (of_decide_eq_false h)
      refine go_Dqh ?_
      refine se_mid () ?_ (by exact sub_) trivial
      rw [hw]
      exact has_
  rintro _ -
  have hd : DxOk w lim i n ms fs G a s p x := ⟨hl1, hnm, hmi, by omega, hM, ⟨⟨k0, k1⟩, ⟨n0, n1⟩, ⟨j0, j1⟩, hrd, hab, hac, ham⟩, by omega, hs40, hat, hx⟩
  have hi60 : i ≤ 60 := by omega
  clear h60 h200 h40
  refine go_Dqh ?_
  refine sc_bpart (E := eY g lim (some ad) acts.length cq i) (H := hY w g m lim) (R := rY w lim i) (fun Q' hN hend => ?_) (by (repeat (first | assumption | exact nop_body | refine nop_then ?_ | refine nop_block ?_)); first | done | fail) ?_
  · refine sc_if rfl (fun h => ?_) (fun h => ?_)
    · exact sc_env _ (by exact has_) (pSync hd hN hend)
    refine go_Dqh ?_
    refine sc_if rfl (fun h => ?_) (fun h => ?_)
    · exact sc_env _ (by exact has_) (pCut hd hN hend)
    refine go_Dqh ?_
    refine sc_if rfl (fun h => ?_) (fun h => ?_)
    · exact sc_env _ (by exact has_) (pRead hd hN hend)
    refine go_Dqh ?_
    refine sc_if rfl (fun h => ?_) (fun h => ?_)
    · exact sc_env _ (by exact has_) (pTurn hd hN hend)
    refine go_Dqh ?_
    refine sc_if rfl (fun h => ?_) (fun h => ?_)
    · exact sc_env _ (by exact has_) (pCrash hd hN hend)
    · exact sc_env _ (by exact has_) (pApp hd hN hend)
  rintro ⟨⟨i', R', cR', n', ms', fs', ck', G'⟩, er⟩ ⟨hn', hni', hM'⟩
  dsimp only at hn' hni' hM' ⊢
  refine sc_bpart (E := fun _ : Unit => [(5, .pointer (some ⟨g, 0, none⟩)), (6, .int .i64 lim), (7, .slice R' n' cR'), (35, .slice (some ad) acts.length cq), (36, .int .i64 acts.length), (37, .int .i64 i)]) (H := fun _ => [dB g m lim, dM m fs' ck', dS fs', mR R' n' cR' ms', G', old w]) (R := fun _ => True) (fun Q' hN hend => pLook (er := er) hl1 ⟨hn', hni', hM'⟩ hi60 hN hend) (by (repeat (first | assumption | exact nop_body | refine nop_then ?_ | refine nop_block ?_)); first | done | fail) ?_
  rintro _ -
  refine go_Dqh ?_
  exact hend ⟨i + 1, R', cR', n', ms', fs', ck', G'⟩ ⟨rfl, hn', hni', hi60, hM'⟩ (by exact has_) (by exact sub_)
set_option maxRecDepth 100000 in
set_option maxHeartbeats 16000000 in
theorem lawPlays_ok {w : World} {lim0 : Int} {Q : Option Addr} {cq : Nat} {acts : List Ac} (hv : Reads w 6 Q acts.length (rows Ac.C acts)) (hok : ∀ a ∈ acts, a.ok w) (hal : acts.length ≤ 9223372036854775807) :
    Fn Try.prog 8 #[.int .i64 lim0, .slice Q acts.length cq] [old w] (Ret (fun _ : Unit => True) (fun _ => .bool true) (fun _ => [old w])) := by
  refine fn_enter Try.func8 rfl _ Try.ntmps8 (by simp) [(0, .int .i64 lim0), (1, .slice Q acts.length cq)] (args_of (by simp)) ?_
  have hlm : limL lim0 = if 1048576 < (if lim0 < 0 then 0 else lim0) then 1048576 else (if lim0 < 0 then 0 else lim0) := rfl
  refine go_Dqh ?_
  refine sl_call rfl rfl (by kernel_rfl) rfl Sub.refl awake16 ?_
  rintro _ -
  refine go_Dqh ?_
  refine sl_call rfl rfl (by kernel_rfl) rfl Sub.refl newD_ok ?_
  rintro ⟨g, m⟩ -
  dsimp only
  refine go_Dqh ?_
  rw [← hlm]
  have hl1 := limL_ok lim0
  generalize limL lim0 = lim at hl1 ⊢
  clear hlm
  refine sc_bjoin (fun _ : Unit => []) (fun _ => [old w]) (fun _ => True) ?_ ?_
  rotate_left
  · rintro _ -
    refine go_Dqh ?_
    exact se_ret1 () trivial rfl rfl (by exact sub_)
  refine sc_for (fun p : Dr => [(5, .pointer (some ⟨g, 0, none⟩)), (6, .int .i64 lim), (7, .slice p.R p.n p.cR), (35, .slice Q acts.length cq), (36, .int .i64 acts.length), (37, .int .i64 p.i)]) (fun p => dB g m lim :: dM m p.fs p.ck :: dS p.fs :: mR p.R p.n p.cR p.ms :: p.G :: [old w]) (fun p => p.i ≤ acts.length ∧ p.n = p.ms.length ∧ p.n ≤ p.i ∧ p.i ≤ 61 ∧ MOk w lim p.G p.ms p.fs) (fun p => acts.length - p.i) ⟨0, none, 0, 0, [], [], 0, star []⟩ (by exact has_) ?_ ⟨Nat.zero_le _, rfl, Nat.le_refl _, by show 0 ≤ 61; omega, ⟨rfl, (fun _ h => by cases h), (fun _ h => by cases h), (fun _ h => by cases h), (fun _ h => by cases h), by show ((0 : Nat) : Int) ≤ _; omega⟩⟩ ?_
  · exact .cons .here (.cons .here (.cons .here (Sub.own_nil (.free (fun w => by unfold star; exact (Sep.start w).sub Sub.nil) (fun j hj => by unfold star at hj; exact foot_nil hj) .refl))))
  rintro ⟨i, R, cR, n, ms, fs, ck, G⟩ ⟨hi, hnm, hmi, hi61, hM⟩
  dsimp only at hi hnm hmi hi61 hM ⊢
  by_cases hlt : i < acts.length
  case neg =>
    obtain rfl : i = acts.length := by omega
    refine go_Dqh ?_
    exact se_mid () (by exact has_) (by exact sub_) trivial
  exact pRound hv hok hal hl1 hlt hnm hmi hi61 hM (by (repeat (first | assumption | exact nop_body | refine nop_then ?_ | refine nop_block ?_)); first | done | fail) (fun p _ _ ⟨h1, h2, h3, h4, h5⟩ hl hs => se_round p hl hs ⟨by omega, h2, by omega, by omega, h5⟩ (by omega)) (fun _ _ _ _ hl hs => se_pass (by constructor) (se_blk (by exact .h) (se_mid () hl hs trivial)))
end Go.Proofs.Ytemhhhikopemmaa
