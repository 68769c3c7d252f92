/- Several texts of one claim, one behind the other (Tb9, Tba, Spo, Tbb). -/
import Derived.Test.YtidphdlhghgglaaB12
import Derived.Test.YtidphdlhghgglaaB10
import Derived.Test.YtidphdlhghgglaaB01
import Derived.ChangeArms
import Derived.WalkKit
import Derived.ProofKit
import Derived.SizedLaws
/- StatsTables: a column and its mean. -/
namespace Go.Proofs.Ytidphdlhghgglaa
open Go.RowKit
attribute [local irreducible] Go.Calls Go.Exit.then Go.Exit.inBlock Go.bodyPost Go.Code.wp Go.wpList
theorem nan0 : fnan 0 = false := by rw [fnan_eq]; rfl
theorem sum_ab {ts ms : List TR} (h : ts.map TR.ab = ms.map TR.ab) (i : Nat) : sumL ts i = sumL ms i := by
  have := congrArg (fun l => l.map (fun a : Int × Int × List Nat => (a.2.2.getD i 0, a.2.1))) h
  simpa [sumL, TR.ab, Function.comp_def] using this
theorem many_ab {ts ms : List TR} (h : ts.map TR.ab = ms.map TR.ab) : manyL ts = manyL ms := by
  have := congrArg (fun l => (l.map (fun a : Int × Int × List Nat => a.2.1)).sum) h
  simpa [manyL, TR.ab, Function.comp_def] using this
theorem col_ab {ts ms : List TR} (h : ts.map TR.ab = ms.map TR.ab) (i : Nat) : colV ts i = colV ms i := by
  have := congrArg (fun l => l.map (fun a : Int × Int × List Nat => a.2.2.getD i 0)) h
  simpa [colV, TR.ab, Function.comp_def] using this
abbrev cE (g : Nat) (R2 : Option Addr) (n c2 gi : Nat) : Nat → Env := fun t => [(7, .pointer (some ⟨g, 0, none⟩)), (8, .slice R2 n c2), (222, .slice (some ⟨gi, 0, none⟩) 3 3), (223, .int .i64 3), (224, .int .i64 t)]
abbrev cH (w : World) (g : Nat) (R : Option Addr) (n c : Nat) (ts : List TR) (R2 : Option Addr) (c2 : Nat) (ms : List TR) (gi : Nat) (at' : Int) (G : Fa) : List Fa := [tB g R n c, tO R n c ts, tO R2 n c2 ms, own 3 1 (some ⟨gi, 0, none⟩) 3 3 [.int .i64 at', .int .i64 0, .int .i64 1], G, old w]
theorem nth_Tb9 {φ : Prop} (h : φ := by (first | rfl | first | assumption | exact rows_nth TR.len (by assumption) rfl)) : φ := h
theorem mid_Tb9 {φ : Prop} (h : φ := by (first | first | exact rows_mid TR.len (by assumption) | exact Mid.all | exact Mid.head)) : φ := h
theorem sz_Tb9 {φ : Prop} (h : φ := by (first | rfl | (rfl; first | done | fail))) : φ := h
theorem one_Tb9 {φ : Prop} (h : φ := by (first | assumption | exact first | exact one_bytes _ | exact TR.one _ | exact row_one | (simp only [List.mem_cons, List.not_mem_nil, or_false, forall_eq_or_imp, forall_eq]; decide) | exact one_bytes _)) : φ := h
theorem set_Tb9 {φ : Prop} (h : φ := by (first | (fail) | ((repeat (first | exact SetAt.here | apply SetAt.there)); first | done | fail))) : φ := h
theorem cl_Tb9 {φ : Prop} (h : φ := by first | rfl | exact .t | exact .f | exact .t (by omega) | exact .f (by omega) | exact .u | exact .i (by (first | exact .t (by omega) | exact .f (by omega) | exact .u | exact .i (by omega) | exact .v (by omega) | exact .b (by omega) | exact .w | rfl | omega)) | exact .v (by omega) | exact .b (by omega) | exact .q (by omega) | exact .w | exact .b (by exact at_) rfl (by exact nth_Tb9) | exact .w (by exact at_) rfl rfl (by exact sz_Tb9) | exact .s (by exact at_) (by exact mid_Tb9) rfl rfl (by exact sz_Tb9) | exact .z rfl rfl ⟨by kernel_rfl⟩ | exact .b rfl rfl ⟨by kernel_rfl⟩ | exact .a rfl rfl ⟨by kernel_rfl⟩ | exact .o rfl | exact .s | exact .n | exact .p rfl | exact .q rfl | exact .c rfl | exact .d rfl | exact .n rfl rfl (by omega) | exact .a rfl rfl (by omega) | exact .p rfl rfl (by omega) (by omega) | exact .y rfl rfl (by omega) (by omega) | exact .o (by exact at_) (by omega) rfl (by exact nth_Tb9) | exact .m (by exact at_) (by omega) (by exact mid_Tb9) rfl rfl (by exact sz_Tb9) | exact .mlen (by exact at_) rfl | exact .t (by exact at_) rfl rfl (by first | exact True.intro | rfl) (by assumption) | exact .f (by exact at_) rfl rfl (by first | exact True.intro | rfl) (by assumption) rfl | exact .t1 (by exact at_) rfl rfl (by first | exact True.intro | rfl) (by assumption) | exact .f1 (by exact at_) rfl rfl (by first | exact True.intro | rfl) (by assumption) rfl | exact .r rfl rfl (by omega) (by omega) (by exact nth_Tb9) rfl | exact .s rfl (by omega) (by assumption) | exact at_ | assumption | exact .r rfl rfl | exact .h rfl rfl rfl (by omega) | exact .l rfl rfl rfl (by omega) (by omega) | exact .g rfl rfl rfl rfl (by omega) (by omega) | exact .h rfl rfl (toN_ (by omega)) (by omega) | exact .l rfl rfl (toN_ (by omega)) (by omega) (by omega) | exact .g rfl rfl (toN_ (by omega)) (toN_ (by omega)) (by omega) (by omega) | exact .o (by decide) | exact .f (by decide) | exact .n (by omega) (by first | decide | (show _ ≤ ((64 : Nat) : Int); omega)) | (constructor; (repeat (first | exact .t (by omega) | exact .f (by omega) | exact .u | exact .i (by omega) | exact .v (by omega) | exact .b (by omega) | exact .w | rfl | omega)); first | done | fail) | omega | (show _ ≤ ((64 : Nat) : Int); omega)) : φ := h
theorem pv_Tb9 {φ : Prop} (h : φ := by constructor; (repeat exact cl_Tb9); first | done | fail) : φ := h
theorem su_Tb9 {φ ψ : Prop} (k : ψ) (h : Hide ψ → φ := by (intro k; (first | refine sl_pu (PuI.sep (by exact pv_Tb9)) rfl ?_ | refine sl_yes rfl rfl ?_ | refine sl_no rfl rfl rfl ?_ | refine sl_off rfl rfl rfl ?_ | (first | refine sl_pu (pu_fnn rfl rfl (by assumption)) rfl ?_ | refine sl_pu (pu_ldo (by exact at_) (by omega) rfl (at2 _ _ _) rfl (by exact nth_Tb9)) rfl ?_ | refine sl_pu (pu_ldo (by exact at_) (by omega) rfl (at1 _ _) rfl (by exact nth_Tb9)) rfl ?_ | refine sl_pu (pu_ldo (by exact at_) (by omega) rfl rfl rfl (by exact nth_Tb9)) rfl ?_)); exact k.out)) : φ := h ⟨k⟩
theorem rq_Tb9 {φ ψ : Prop} (k : ψ) (h : Hide ψ → φ := by (intro k; (first | refine wq_pu (PuI.sep (by exact pv_Tb9)) rfl ?_ | refine wq_yes rfl rfl ?_ | refine wq_no rfl rfl rfl ?_ | refine wq_off rfl rfl rfl ?_ | (first | refine wq_pu (pu_ldo (by exact at_) (by omega) rfl (at2 _ _ _) rfl (by exact nth_Tb9)) rfl ?_ | refine wq_pu (pu_ldo (by exact at_) (by omega) rfl (at1 _ _) rfl (by exact nth_Tb9)) rfl ?_ | refine wq_pu (pu_ldo (by exact at_) (by omega) rfl rfl rfl (by exact nth_Tb9)) rfl ?_)); exact k.out)) : φ := h ⟨k⟩
theorem sto_Tb9 {φ ψ : Prop} (k : ψ) (h : Hide ψ → φ := by (intro k; (first | refine sl_store rfl (by exact pick_) rfl rfl (by kernel_rfl) (by exact set_Tb9) ?_ | refine sl_store_whole rfl (by exact pick_) rfl (by exact sz_Tb9) (by exact sz_Tb9) (by exact one_Tb9) ?_); exact k.out)) : φ := h ⟨k⟩
theorem go_Tb9 {φ ψ : Prop} (k : ψ) (h : Hide ψ → φ := by (intro k; (repeat (first | refine su_Tb9 ?_ | refine so_ ?_ | refine sto_Tb9 ?_)); exact k.out)) : φ := h ⟨k⟩
set_option maxRecDepth 100000 in
set_option maxHeartbeats 16000000 in
theorem pCol {w : World} {at' : Int} {g c c2 n gi t : Nat} {R R2 : Option Addr} {ts ms : List TR} {G : Fa} (hM : TOk w G ts ms) (hn : n = ms.length) (hat : -9223372036854775808 ≤ at' ∧ at' ≤ 9223372036854775807) (ht : t < 3) {Q' : Exit → Act → World → Prop} (hN : NoP Q')
    (hend : Ends 332 Q' .normal (cE g R2 n c2 gi) (fun _ => cH w g R n c ts R2 c2 ms gi at' G) (fun k => k = t + 1)) :
    SC Try.prog (cAt [false, false, false, false, false, false, false, false, false, true, false, true, true] (fb Try.f7)) Q' 332 (cE g R2 n c2 gi t) (cH w g R n c ts R2 c2 ms gi at' G) := by
  dsimp only [cE, cH]
  have hnn := hM.n
  have htl := hM.len
  have hnan := nan0
  obtain ⟨kv, hkv, hkb⟩ : ∃ kv : Int, nth [Value.int .i64 at', .int .i64 0, .int .i64 1] (t * 1) = some (.int .i64 kv) ∧ (-9223372036854775808 ≤ kv ∧ kv ≤ 9223372036854775807) := by
    obtain rfl | rfl | rfl : t = 0 ∨ t = 1 ∨ t = 2 := by omega
    · exact ⟨_, rfl, hat⟩
    · exact ⟨_, rfl, by omega⟩
    · exact ⟨_, rfl, by omega⟩
  refine go_Tb9 ?_
  have hno : (kv < 0 ∨ ms = [] ∨ ∃ q, ms[0]? = some q ∧ (q.l.length : Int) ≤ kv) ∨ ∃ i : Nat, kv = i ∧ 0 < ms.length ∧ ∀ q ∈ ms, i < q.l.length := by
    by_cases h0 : kv < 0
    · exact .inl (.inl h0)
    cases hz : ms[0]? with
    | none => exact .inl (.inr (.inl (List.eq_nil_of_length_eq_zero (by have := List.getElem?_eq_none_iff.1 hz; omega))))
    | some q =>
      by_cases h1 : (q.l.length : Int) ≤ kv
      · exact .inl (.inr (.inr ⟨q, rfl, h1⟩))
      · refine .inr ⟨kv.toNat, by omega, (List.getElem?_eq_some_iff.1 hz).1, fun u hu => ?_⟩
        have := hM.q u hu q (List.mem_of_getElem? hz)
        omega
  rcases hno with hno | ⟨i, rfl, hpos, hin⟩
  · have hno' : kv < 0 ∨ ts = [] ∨ ∃ q, ts[0]? = some q ∧ (q.l.length : Int) ≤ kv := by
      rcases hno with h | h | ⟨q, h1, h2⟩
      · exact .inl h
      · refine .inr (.inl (List.eq_nil_of_length_eq_zero ?_))
        rw [htl, h]
        rfl
      · obtain ⟨u, hu, -, -, e⟩ := ab_get hM.ab.symm h1
        exact .inr (.inr ⟨u, hu, by rw [e]; exact h2⟩)
    refine sl_call rfl rfl (by kernel_rfl) rfl Sub.refl (colT_no (R := R) (c := c) (ts := ts) (by exact at_) (by exact at_) (by omega) hno' (by omega)) ?_
    rintro _ -
    refine go_Tb9 ?_
    refine sl_call rfl rfl (by kernel_rfl) rfl Sub.refl (meanT_no (R := R) (c := c) (ts := ts) (by exact at_) (by exact at_) (by omega) hno' (by omega)) ?_
    rintro _ -
    by_cases hz : n = 0
    · subst hz
      refine go_Tb9 ?_
      exact hend (t + 1) rfl (by exact has_) (by exact sub_)
    by_cases h0 : kv < 0
    · refine go_Tb9 ?_
      exact hend (t + 1) rfl (by exact has_) (by exact sub_)
    obtain ⟨q, hq, hqi⟩ : ∃ q, ms[0]? = some q ∧ (q.l.length : Int) ≤ kv := by
      rcases hno with h | h | h
      · exact absurd h h0
      · rw [h] at hn
        exact absurd hn hz
      · exact h
    have hnx : nth (rows TR.C ms) 2 = some (.slice q.A q.l.length q.c) := rows_nth (i := 0) (j := 2) TR.len hq rfl
    refine sl_form (e := 52) (size := 3) (A := R2) (m := n) (c := c2) (xs := rows TR.C ms) (by exact at_) (by omega) ?_
    rintro gR rfl
    refine go_Tb9 ?_
    exact hend (t + 1) rfl (by exact has_) (by exact sub_)
  · have hin' : ∀ r ∈ ts, i < r.l.length := fun r hr => by
      obtain ⟨k, hk⟩ := List.getElem?_of_mem hr
      obtain ⟨q, hq, -, -, e⟩ := ab_get hM.ab hk
      rw [← e]
      exact hin q (List.mem_of_getElem? hq)
    obtain ⟨q, hq⟩ : ∃ q, ms[0]? = some q := ⟨_, List.getElem?_eq_getElem hpos⟩
    have hqi := hin q (List.mem_of_getElem? hq)
    have hql := hM.l q (List.mem_of_getElem? hq)
    refine sl_call rfl rfl (by kernel_rfl) rfl Sub.refl (colT_ok (R := R) (c := c) (ts := ts) (by exact at_) (by exact at_) (by omega) hin' hM.tl (by omega) (by omega) (fun r hr => (hM.tv r hr).mono (by exact sub_))) ?_
    rintro ⟨A1, d1⟩ -
    dsimp only
    rw [col_ab hM.ab]
    refine go_Tb9 ?_
    refine sl_call rfl rfl (by kernel_rfl) rfl Sub.refl (meanT_ok (R := R) (c := c) (ts := ts) (by exact at_) (by exact at_) (by omega) hin' hM.tl hM.tm (by omega) (by omega) (fun r hr => (hM.tv r hr).mono (by exact sub_))) ?_
    rintro x ⟨sx, hsx, hx⟩
    rw [sum_ab hM.ab] at hsx
    rw [many_ab hM.ab] at hx
    have hnx : nth (rows TR.C ms) 2 = some (.slice q.A q.l.length q.c) := rows_nth (i := 0) (j := 2) TR.len hq rfl
    refine sl_form (e := 52) (size := 3) (A := R2) (m := n) (c := c2) (xs := rows TR.C ms) (by exact at_) (by omega) ?_
    rintro gR rfl
    refine go_Tb9 ?_
    clear hnx hq hqi hql hkv
    refine sc_bjoin (fun y : Nat => [(7, .pointer (some ⟨g, 0, none⟩)), (8, .slice (some ⟨gR, 0, none⟩) n c2), (22, .slice A1 n d1), (24, .float .f64 x), (27, .float .f64 y), (28, .int .i64 (manyL ms)), (222, .slice (some ⟨gi, 0, none⟩) 3 3), (223, .int .i64 3), (224, .int .i64 t)]) (fun _ => own 24 1 A1 n d1 ((colV ms i).map fl) :: cH w g R n c ts (some ⟨gR, 0, none⟩) c2 ms gi at' G) (fun y => SumR (sumL ms i) y) ?_ ?_
    · refine sc_for (fun p : Mg => [(7, .pointer (some ⟨g, 0, none⟩)), (8, .slice (some ⟨gR, 0, none⟩) n c2), (21, .int .i64 i), (22, .slice A1 n d1), (24, .float .f64 x), (27, .float .f64 p.x), (28, .int .i64 (manyL (ms.take p.k))), (222, .slice (some ⟨gi, 0, none⟩) 3 3), (223, .int .i64 3), (224, .int .i64 t), (282, .slice (some ⟨gR, 0, none⟩) n c2), (283, .int .i64 n), (284, .int .i64 p.k)]) (fun _ => own 24 1 A1 n d1 ((colV ms i).map fl) :: cH w g R n c ts (some ⟨gR, 0, none⟩) c2 ms gi at' G) (fun p => p.k ≤ n ∧ SumR (sumL (ms.take p.k) i) p.x) (fun p => n - p.k) ⟨0, 0⟩ (by exact has_) (by exact sub_) ⟨Nat.zero_le _, .nil⟩ ?_
      rintro ⟨k, y⟩ ⟨hk, hy⟩
      dsimp only at hk hy ⊢
      by_cases hkn : k < n
      case neg =>
        obtain rfl : k = n := by omega
        rw [List.take_of_length_le (by omega)] at hy ⊢
        refine go_Tb9 ?_
        exact se_mid y (by exact has_) (by exact sub_) hy
      obtain ⟨u, hu⟩ : ∃ u, ms[k]? = some u := ⟨_, List.getElem?_eq_getElem (by omega)⟩
      have hum := List.mem_of_getElem? hu
      have hui := hin u hum
      have hub := hM.b u hum
      have humm := hM.m u hum
      have hur := hM.mv u hum
      have hul := hM.l u hum
      have hmb := many_bound hM.m k
      have hmt := many_take hu
      have hst := sum_take (i := i) hu
      have hcv : nth ((colV ms i).map fl) (k * 1) = some (.float .f64 (u.l.getD i 0)) := by
        rw [nth_eq, Nat.mul_one]
        simp [colV, fl, hu]
      refine sc_form (e := 24) (size := 1) (A := A1) (m := n) (by exact at_) (by omega) ?_
      rintro gA rfl
      obtain ⟨s1, m1, B1, b1, l1⟩ := u
      unfold TR.rd at hur
      dsimp only at hui hub humm hur hul hmt hst hcv
      refine sc_know (vw_form (L := own 24 1 (some ⟨gA, 0, none⟩) n d1 ((colV ms i).map fl) :: cH w g R n c ts (some ⟨gR, 0, none⟩) c2 ms gi at' G) (hur.mono (by exact sub_)) (by omega)) ?_
      rintro ⟨a1, rfl⟩
      have hnv := fl_nth hui
      refine go_Tb9 ?_
      refine sl_alloc rfl rfl rfl ?_; intro g30
      refine go_Tb9 ?_
      refine sd_drawn (S2 ([G, old w]) [own 24 1 (some ⟨gA, 0, none⟩) n d1 ((colV ms i).map fl), blk g30 52 (TR.C ⟨s1, m1, some a1, b1, l1⟩)]) (fun _ => true) (by kernel_rfl) 11 rfl ?_
      refine sd_yes2 0 rfl (by exact gd_) (by kernel_rfl) (by kernel_rfl) (by (repeat (first | assumption | exact nop_body | refine nop_then ?_ | refine nop_block ?_)); first | done | fail) (PuI.all2 (by exact pv_Tb9)) rfl (fun w hw => ⟨hw.sub (by exact sub_), by exact all_ hw⟩) ?_
      refine sd_yes2 1 rfl (by exact gd_) (by kernel_rfl) (by kernel_rfl) (by (repeat (first | assumption | exact nop_body | refine nop_then ?_ | refine nop_block ?_)); first | done | fail) (PuI.all2 (by exact pv_Tb9)) rfl (fun w hw => ⟨hw.sub (by exact sub_), by exact all_ hw⟩) ?_
      refine sd_yes2 2 rfl (by exact gd_) (by kernel_rfl) (by kernel_rfl) (by (repeat (first | assumption | exact nop_body | refine nop_then ?_ | refine nop_block ?_)); first | done | fail) (PuI.all2 (by exact pv_Tb9)) rfl (fun w hw => ⟨hw.sub (by exact sub_), by exact all_ hw⟩) ?_
      refine sd_yes2 3 rfl (by exact gd_) (by kernel_rfl) (by kernel_rfl) (by (repeat (first | assumption | exact nop_body | refine nop_then ?_ | refine nop_block ?_)); first | done | fail) (pu_all2 (pu_ldoA (by exact at_) (by omega) rfl (at1 _ _) rfl hcv)) rfl (fun w hw => ⟨hw.sub (by exact sub_), by exact all_ hw⟩) ?_
      refine sd_yes2 4 rfl (by exact gd_) (by kernel_rfl) (by kernel_rfl) (by (repeat (first | assumption | exact nop_body | refine nop_then ?_ | refine nop_block ?_)); first | done | fail) (PuI.all2 (by exact pv_Tb9)) rfl (fun w hw => ⟨hw.sub (by exact sub_), by exact all_ hw⟩) ?_
      refine sd_yes2 5 rfl (by exact gd_) (by kernel_rfl) (by kernel_rfl) (by (repeat (first | assumption | exact nop_body | refine nop_then ?_ | refine nop_block ?_)); first | done | fail) (PuI.all2 (by exact pv_Tb9)) rfl (fun w hw => ⟨hw.sub (by exact sub_), by exact all_ hw⟩) ?_
      refine sd_yes2 6 rfl (by exact gd_) (by kernel_rfl) (by kernel_rfl) (by (repeat (first | assumption | exact nop_body | refine nop_then ?_ | refine nop_block ?_)); first | done | fail) (PuI.all2 (by exact pv_Tb9)) rfl (fun w hw => ⟨hw.sub (by exact sub_), by exact all_ hw⟩) ?_
      refine sd_yes2 7 rfl (by exact gd_) (by kernel_rfl) (by kernel_rfl) (by (repeat (first | assumption | exact nop_body | refine nop_then ?_ | refine nop_block ?_)); first | done | fail) (PuI.all2 (by exact pv_Tb9)) rfl (fun w hw => ⟨hw.sub (by exact sub_), by exact all_ hw⟩) ?_
      refine sd_yes2 8 rfl (by exact gd_) (by kernel_rfl) (by kernel_rfl) (by (repeat (first | assumption | exact nop_body | refine nop_then ?_ | refine nop_block ?_)); first | done | fail) (pu_sep2 (pu_ldr hur (by omega) rfl rfl hnv)) rfl (fun w hw => ⟨hw.sub (by exact sub_), by exact all_ hw⟩) ?_
      refine sd_one 9 (by kernel_rfl) (sa_sl 9 rfl ?_)
      refine sl_call rfl rfl (by kernel_rfl) rfl Sub.refl (fn_same (just_c _ _ (fl_lt hub) (fl_lt hub))) ?_
      rintro _ -
      rw [just_self]
      refine sl_nil ?_
      refine se_sd (fun _ w hw => ⟨hw.sub (by exact sub_), by exact all_ hw⟩) ?_
      refine sd_yes2 10 rfl (by exact gd_) (by kernel_rfl) (by kernel_rfl) (by (repeat (first | assumption | exact nop_body | refine nop_then ?_ | refine nop_block ?_)); first | done | fail) (PuI.all2 (by exact pv_Tb9)) rfl (fun w hw => ⟨hw.sub (by exact sub_), by exact all_ hw⟩) ?_
      refine sd_done (by kernel_rfl) ?_
      refine go_Tb9 ?_
      refine sd_drawn (S2 ([G, old w]) [blk g30 52 (TR.C ⟨s1, m1, some a1, b1, l1⟩)]) (fun _ => true) (by kernel_rfl) 10 rfl ?_
      refine sd_yes2 0 rfl (by exact gd_) (by kernel_rfl) (by kernel_rfl) (by (repeat (first | assumption | exact nop_body | refine nop_then ?_ | refine nop_block ?_)); first | done | fail) (PuI.all2 (by exact pv_Tb9)) rfl (fun w hw => ⟨hw.sub (by exact sub_), by exact all_ hw⟩) ?_
      refine sd_yes2 1 rfl (by exact gd_) (by kernel_rfl) (by kernel_rfl) (by (repeat (first | assumption | exact nop_body | refine nop_then ?_ | refine nop_block ?_)); first | done | fail) (PuI.all2 (by exact pv_Tb9)) rfl (fun w hw => ⟨hw.sub (by exact sub_), by exact all_ hw⟩) ?_
      refine sd_yes2 2 rfl (by exact gd_) (by kernel_rfl) (by kernel_rfl) (by (repeat (first | assumption | exact nop_body | refine nop_then ?_ | refine nop_block ?_)); first | done | fail) (PuI.all2 (by exact pv_Tb9)) rfl (fun w hw => ⟨hw.sub (by exact sub_), by exact all_ hw⟩) ?_
      refine sd_yes2 3 rfl (by exact gd_) (by kernel_rfl) (by kernel_rfl) (by (repeat (first | assumption | exact nop_body | refine nop_then ?_ | refine nop_block ?_)); first | done | fail) (PuI.all2 (by exact pv_Tb9)) rfl (fun w hw => ⟨hw.sub (by exact sub_), by exact all_ hw⟩) ?_
      refine sd_yes2 4 rfl (by exact gd_) (by kernel_rfl) (by kernel_rfl) (by (repeat (first | assumption | exact nop_body | refine nop_then ?_ | refine nop_block ?_)); first | done | fail) (pu_sep2 (pu_ldr hur (by omega) rfl rfl hnv)) rfl (fun w hw => ⟨hw.sub (by exact sub_), by exact all_ hw⟩) ?_
      refine sd_yes2 5 rfl (by exact gd_) (by kernel_rfl) (by kernel_rfl) (by (repeat (first | assumption | exact nop_body | refine nop_then ?_ | refine nop_block ?_)); first | done | fail) (PuI.all2 (by exact pv_Tb9)) rfl (fun w hw => ⟨hw.sub (by exact sub_), by exact all_ hw⟩) ?_
      refine sd_yes2 6 rfl (by exact gd_) (by kernel_rfl) (by kernel_rfl) (by (repeat (first | assumption | exact nop_body | refine nop_then ?_ | refine nop_block ?_)); first | done | fail) (PuI.all2 (by exact pv_Tb9)) rfl (fun w hw => ⟨hw.sub (by exact sub_), by exact all_ hw⟩) ?_
      refine sd_yes2 7 rfl (by exact gd_) (by kernel_rfl) (by kernel_rfl) (by (repeat (first | assumption | exact nop_body | refine nop_then ?_ | refine nop_block ?_)); first | done | fail) (pu_i2f rfl rfl rfl) rfl (fun w hw => ⟨hw.sub (by exact sub_), by exact all_ hw⟩) ?_
      refine sd_one 8 (by kernel_rfl) (sa_sl 8 rfl ?_)
      refine sl_fop (.inr (.inl rfl)) rfl rfl rfl (fun z hz => ?_)
      refine sl_nil ?_
      refine se_sd (fun _ w hw => ⟨hw.sub (by exact sub_), by exact all_ hw⟩) ?_
      refine sd_yes2 9 rfl (by exact gd_) (by kernel_rfl) (by kernel_rfl) (by (repeat (first | assumption | exact nop_body | refine nop_then ?_ | refine nop_block ?_)); first | done | fail) (PuI.all2 (by exact pv_Tb9)) rfl (fun w hw => ⟨hw.sub (by exact sub_), by exact all_ hw⟩) ?_
      refine sd_done (by kernel_rfl) ?_
      refine go_Tb9 ?_
      refine sl_fop (.inl rfl) rfl rfl rfl (fun z2 hz2 => ?_)
      refine go_Tb9 ?_
      rw [← hmt, IntWalk.i64_in _ (by have := many_bound hM.m (k + 1); omega)]
      refine go_Tb9 ?_
      exact se_round ⟨k + 1, z2⟩ (by exact has_) (by exact sub_) ⟨hkn, by show SumR (sumL (ms.take (k + 1)) i) z2; rw [hst]; exact .snoc hy hz hz2⟩ (by show n - (k + 1) < n - k; omega)
    intro y hy
    refine go_Tb9 ?_
    refine sl_pu (pu_i2f rfl rfl rfl) rfl ?_
    refine go_Tb9 ?_
    refine sl_fop (.inr (.inr rfl)) rfl rfl rfl (fun z hz => ?_)
    refine go_Tb9 ?_
    refine sl_call rfl rfl (by kernel_rfl) rfl Sub.refl (fn_same (just_c _ _ hx.1 hz.1)) ?_
    rintro _ -
    rw [(FOp.jst (.inr (.inr rfl)) (SumR.jst hsx hy) (Jst.refl _) hx hz).just]
    refine go_Tb9 ?_
    exact hend (t + 1) rfl (by exact has_) (by exact sub_)
end Go.Proofs.Ytidphdlhghgglaa
/- StatsTables: its walk. -/
namespace Go.Proofs.Ytidphdlhghgglaa
open Go.RowKit
attribute [local irreducible] Go.Calls Go.Exit.then Go.Exit.inBlock Go.bodyPost Go.Code.wp Go.wpList
theorem nth_Tba {φ : Prop} (h : φ := by (first | rfl | first | assumption | exact rows_nth TR.len (by assumption) rfl)) : φ := h
theorem mid_Tba {φ : Prop} (h : φ := by (first | first | exact rows_mid TR.len (by assumption) | exact Mid.all | exact Mid.head)) : φ := h
theorem sz_Tba {φ : Prop} (h : φ := by (first | rfl | (rfl; first | done | fail))) : φ := h
theorem one_Tba {φ : Prop} (h : φ := by (first | assumption | exact first | exact one_bytes _ | exact TR.one _ | exact row_one | (simp only [List.mem_cons, List.not_mem_nil, or_false, forall_eq_or_imp, forall_eq]; decide) | exact one_bytes _)) : φ := h
theorem set_Tba {φ : Prop} (h : φ := by (first | (fail) | ((repeat (first | exact SetAt.here | apply SetAt.there)); first | done | fail))) : φ := h
theorem cl_Tba {φ : Prop} (h : φ := by first | rfl | exact .t | exact .f | exact .t (by omega) | exact .f (by omega) | exact .u | exact .i (by (first | exact .t (by omega) | exact .f (by omega) | exact .u | exact .i (by omega) | exact .v (by omega) | exact .b (by omega) | exact .w | rfl | omega)) | exact .v (by omega) | exact .b (by omega) | exact .q (by omega) | exact .w | exact .b (by exact at_) rfl (by exact nth_Tba) | exact .w (by exact at_) rfl rfl (by exact sz_Tba) | exact .s (by exact at_) (by exact mid_Tba) rfl rfl (by exact sz_Tba) | exact .z rfl rfl ⟨by kernel_rfl⟩ | exact .b rfl rfl ⟨by kernel_rfl⟩ | exact .a rfl rfl ⟨by kernel_rfl⟩ | exact .o rfl | exact .s | exact .n | exact .p rfl | exact .q rfl | exact .c rfl | exact .d rfl | exact .n rfl rfl (by omega) | exact .a rfl rfl (by omega) | exact .p rfl rfl (by omega) (by omega) | exact .y rfl rfl (by omega) (by omega) | exact .o (by exact at_) (by omega) rfl (by exact nth_Tba) | exact .m (by exact at_) (by omega) (by exact mid_Tba) rfl rfl (by exact sz_Tba) | exact .mlen (by exact at_) rfl | exact .t (by exact at_) rfl rfl (by first | exact True.intro | rfl) (by assumption) | exact .f (by exact at_) rfl rfl (by first | exact True.intro | rfl) (by assumption) rfl | exact .t1 (by exact at_) rfl rfl (by first | exact True.intro | rfl) (by assumption) | exact .f1 (by exact at_) rfl rfl (by first | exact True.intro | rfl) (by assumption) rfl | exact .r rfl rfl (by omega) (by omega) (by exact nth_Tba) rfl | exact .s rfl (by omega) (by assumption) | exact at_ | assumption | exact .r rfl rfl | exact .h rfl rfl rfl (by omega) | exact .l rfl rfl rfl (by omega) (by omega) | exact .g rfl rfl rfl rfl (by omega) (by omega) | exact .h rfl rfl (toN_ (by omega)) (by omega) | exact .l rfl rfl (toN_ (by omega)) (by omega) (by omega) | exact .g rfl rfl (toN_ (by omega)) (toN_ (by omega)) (by omega) (by omega) | exact .o (by decide) | exact .f (by decide) | exact .n (by omega) (by first | decide | (show _ ≤ ((64 : Nat) : Int); omega)) | (constructor; (repeat (first | exact .t (by omega) | exact .f (by omega) | exact .u | exact .i (by omega) | exact .v (by omega) | exact .b (by omega) | exact .w | rfl | omega)); first | done | fail) | omega | (show _ ≤ ((64 : Nat) : Int); omega)) : φ := h
theorem pv_Tba {φ : Prop} (h : φ := by constructor; (repeat exact cl_Tba); first | done | fail) : φ := h
theorem su_Tba {φ ψ : Prop} (k : ψ) (h : Hide ψ → φ := by (intro k; (first | refine sl_pu (PuI.sep (by exact pv_Tba)) rfl ?_ | refine sl_yes rfl rfl ?_ | refine sl_no rfl rfl rfl ?_ | refine sl_off rfl rfl rfl ?_ | (first | refine sl_pu (pu_fnn rfl rfl (by assumption)) rfl ?_ | refine sl_pu (pu_ldo (by exact at_) (by omega) rfl (at2 _ _ _) rfl (by exact nth_Tba)) rfl ?_ | refine sl_pu (pu_ldo (by exact at_) (by omega) rfl (at1 _ _) rfl (by exact nth_Tba)) rfl ?_ | refine sl_pu (pu_ldo (by exact at_) (by omega) rfl rfl rfl (by exact nth_Tba)) rfl ?_)); exact k.out)) : φ := h ⟨k⟩
theorem rq_Tba {φ ψ : Prop} (k : ψ) (h : Hide ψ → φ := by (intro k; (first | refine wq_pu (PuI.sep (by exact pv_Tba)) rfl ?_ | refine wq_yes rfl rfl ?_ | refine wq_no rfl rfl rfl ?_ | refine wq_off rfl rfl rfl ?_ | (first | refine wq_pu (pu_ldo (by exact at_) (by omega) rfl (at2 _ _ _) rfl (by exact nth_Tba)) rfl ?_ | refine wq_pu (pu_ldo (by exact at_) (by omega) rfl (at1 _ _) rfl (by exact nth_Tba)) rfl ?_ | refine wq_pu (pu_ldo (by exact at_) (by omega) rfl rfl rfl (by exact nth_Tba)) rfl ?_)); exact k.out)) : φ := h ⟨k⟩
theorem sto_Tba {φ ψ : Prop} (k : ψ) (h : Hide ψ → φ := by (intro k; (first | refine sl_store rfl (by exact pick_) rfl rfl (by kernel_rfl) (by exact set_Tba) ?_ | refine sl_store_whole rfl (by exact pick_) rfl (by exact sz_Tba) (by exact sz_Tba) (by exact one_Tba) ?_); exact k.out)) : φ := h ⟨k⟩
theorem go_Tba {φ ψ : Prop} (k : ψ) (h : Hide ψ → φ := by (intro k; (repeat (first | refine su_Tba ?_ | refine so_ ?_ | refine sto_Tba ?_)); exact k.out)) : φ := h ⟨k⟩
theorem star_nil {L : List Fa} : Sub L (star [] :: L) := .free (fun w => by unfold star; exact (Sep.start w).sub Sub.nil) (fun j hj => by unfold star at hj; exact foot_nil hj) .refl
set_option maxRecDepth 100000 in
set_option maxHeartbeats 8000000 in
theorem lawTables_ok {w : World} {at' : Int} {wd cq : Nat} {Q : Option Addr} {xs : List TR} (hv : Reads w 3 Q xs.length (rows TR.C xs)) (hin : ∀ r ∈ xs, r.inW w) (hxl : xs.length ≤ 9223372036854775807) (hwd : wd ≤ 255) (hat : -9223372036854775808 ≤ at' ∧ at' ≤ 9223372036854775807) :
    Fn Try.prog 7 #[.slice Q xs.length cq, .int .u8 wd, .int .i64 at'] [old w] (Ret (fun _ : Unit => True) (fun _ => .bool true) (fun _ => [old w])) := by
  refine fn_enter Try.func7 rfl _ Try.ntmps7 (by simp) [(0, .slice Q xs.length cq), (1, .int .u8 wd), (2, .int .i64 at')] (args_of (by simp)) ?_
  refine go_Tba ?_
  refine sl_call rfl rfl (by kernel_rfl) rfl Sub.refl awake30 ?_
  rintro _ -
  by_cases h40 : 40 < xs.length
  · refine go_Tba ?_
    exact se_ret1 () trivial rfl rfl (by exact sub_)
  refine go_Tba ?_
  refine sl_alloc rfl rfl rfl ?_; intro g
  refine go_Tba ?_
  refine sc_bjoin (fun p : Tst => [(2, .int .i64 at'), (7, .pointer (some ⟨g, 0, none⟩)), (8, .slice p.R2 p.n p.c2)]) (tH w g) (fun p => p.n = p.ms.length ∧ TOk w p.G p.ts p.ms) ?_ ?_
  · refine sc_for (tE wd at' g Q xs.length cq) (tH w g) (fun p => p.i ≤ xs.length ∧ p.n = p.ms.length ∧ TOk w p.G p.ts p.ms) (fun p => xs.length - p.i) ⟨0, none, 0, none, 0, 0, [], [], star []⟩ (by exact has_) (.cons .here (Sub.own_nil (Sub.own_nil star_nil))) ⟨Nat.zero_le _, rfl, TOk.nil⟩ ?_
    rintro ⟨i, R, c, R2, c2, n, ts, ms, G⟩ ⟨hi, hn, hM⟩
    dsimp only at hi hn hM
    by_cases hlt : i < xs.length
    · exact pRow hv hin (by omega) hlt hwd hM hn (by exact nop_) (fun p _ _ ⟨h1, h2, h3⟩ hl hs => se_round p hl hs ⟨by omega, h2, h3⟩ (by show xs.length - p.i < xs.length - i; omega)) (fun _ _ _ _ hl hs => se_mono (se_pass (by constructor) (se_blk (by exact .r) (se_pass (by constructor) (se_ret1 () trivial rfl rfl Sub.refl)))) hl hs)
    · dsimp only [tE, tH]
      obtain rfl : i = xs.length := by omega
      refine go_Tba ?_
      exact se_mid ⟨xs.length, R, c, R2, c2, n, ts, ms, G⟩ (by exact has_) (by exact sub_) ⟨hn, hM⟩
  rintro ⟨i, R, c, R2, c2, n, ts, ms, G⟩ ⟨hn, hM⟩
  dsimp only [tH] at hn hM ⊢
  have hnn := hM.n
  have htl := hM.len
  refine go_Tba ?_
  refine sl_call rfl rfl (by kernel_rfl) rfl Sub.refl (rowsT_ok (w0 := w) (R := R) (c := c) (n := n) (ts := ts) (by exact at_) (by exact at_) (by omega) (by omega) hM.tl (fun r hr => (hM.tv r hr).mono (by exact sub_)) (by exact at_)) ?_
  rintro ⟨kk, AR, cR, us, G2⟩ ⟨hus, hur⟩
  dsimp only at hus hur ⊢
  repeat refine su_Tba ?_
  refine sl_nil ?_
  refine se_seq ?_
  refine sc_seq ?_
  refine sc_join (fun _ : Unit => [(2, .int .i64 at'), (7, .pointer (some ⟨g, 0, none⟩)), (8, .slice R2 n c2), (16, .slice AR n cR)]) (fun _ => [tB g R n c, tO R n c ts, tO R2 n c2 ms, tO AR n cR us, G2, G, old w]) (fun _ => True) ?_ ?_
  · refine go_Tba ?_
    exact se_mid () (by exact has_) (by exact sub_) trivial
  rintro _ -
  refine sc_seq ?_
  refine sc_spart (E := fun _ : Unit => [(2, .int .i64 at'), (7, .pointer (some ⟨g, 0, none⟩)), (8, .slice R2 n c2)]) (H := fun _ => [tB g R n c, tO R n c ts, tO R2 n c2 ms, G, old w]) (R := fun _ => True) (fun Q1 hN1 hend1 => pCmp hM hn (hus.trans hM.ab) hur hN1 hend1) (by exact nop_) ?_
  rintro _ -
  refine go_Tba ?_
  refine sl_build (size := 1) (e := 3) (cells := [.int .i64 at', .int .i64 0, .int .i64 1]) rfl (fun W => by kernel_rfl) rfl (by decide) rfl ?_
  intro gi
  refine go_Tba ?_
  refine sc_bjoin (fun _ : Unit => []) (fun _ => [old w]) (fun _ => True) ?_ ?_
  · refine sc_for (cE g R2 n c2 gi) (fun _ => cH w g R n c ts R2 c2 ms gi at' G) (fun t => t ≤ 3) (fun t => 3 - t) 0 (by exact has_) (by exact sub_) (Nat.zero_le _) ?_
    rintro t ht
    by_cases htt : t < 3
    · exact pCol hM hn hat htt (by exact nop_) (fun k _ _ hk hl hs => se_round k hl hs (by omega) (by omega))
    · obtain rfl : t = 3 := by omega
      dsimp only [cE, cH]
      refine go_Tba ?_
      exact se_mid () (by exact has_) (by exact sub_) trivial
  rintro _ -
  refine go_Tba ?_
  exact se_ret1 () trivial rfl rfl (by exact sub_)
end Go.Proofs.Ytidphdlhghgglaa
/- Rows of floats that came in. -/
namespace Go.Proofs.Ytidphdlhghgglaa
open Go.RowKit Go.ChangeShapes Go.WideShapes Go.Deep
section
variable {H : Type} {enc : TypeId × Value → H} {w : World} {base : Nat} {spare : Nat → Bool} {held : Bool} {fuel : Nat} {cs : List Value} {x : DataW H × List MemPlace}
theorem open_f64w (h : DataW.trod enc Try.prog w base spare held fuel 24 cs = some x) : ∃ b, cs = [Value.float .f64 b] ∧ b < 18446744073709551616 := by
  have ht := Try.underlying24
  cases fuel with
  | zero => simp [DataW.trod] at h
  | succ n =>
    unfold DataW.trod at h
    rw [ht] at h
    split at h <;> simp_all
    rename_i k b hk
    obtain ⟨h1, _⟩ := h
    have hw : (Lit.float .f64 b).wf = true := by simp_all
    simpa [Lit.wf] using hw
def FlsW (w : World) (v : Value) : Prop := ∃ (A : Option Addr) (c : Nat) (l : List Nat), v = .slice A l.length c ∧ Reads w 1 A l.length (l.map fl) ∧ (∀ x ∈ l, x < 18446744073709551616) ∧ l.length ≤ c ∧ c ≤ maxLen
theorem flat_flw (l : List Nat) : (l.flatMap fun n => [fl n]) = l.map fl := by
  induction l with
  | nil => rfl
  | cons a r ih =>
    rw [List.flatMap_cons, ih]
    rfl
theorem open_flw (h : DataW.trod enc Try.prog w base spare held fuel 22 cs = some x) : ∃ v, cs = [v] ∧ FlsW w v := by
  obtain ⟨A, n, c, xs, hcs, hl, hr, hk, hc, hm⟩ := open_rows (X := Nat) 1 (fun n => [fl n]) (fun n => n < 18446744073709551616) Try.underlying22 (by kernel_rfl) (fun _ _ _ h => open_f64w h) h
  rw [flat_flw] at hr
  subst hl
  exact ⟨_, hcs, A, c, xs, rfl, hr, fun x hx => (hk x hx).1, hc, hm⟩
theorem open_row0 (h : DataW.trod enc Try.prog w base spare held fuel 52 cs = some x) : ∃ (z0 : Int) (z1 : Int) (z2 : Value), cs = [Value.int .u64 z0] ++ ([Value.int .i64 z1] ++ ([z2] ++ [])) ∧ (0 ≤ z0 ∧ z0 ≤ 18446744073709551615) ∧ (-9223372036854775808 ≤ z1 ∧ z1 ≤ 9223372036854775807) ∧ (FlsW w z2) := by
  obtain ⟨hl, m, hf⟩ := open_struct Try.underlying52 h
  have hl' : cs.length = 3 := hl.trans (by kernel_rfl)
  have n0 : Try.prog.cellsOf 50 = 1 := by kernel_rfl
  have n1 : Try.prog.cellsOf 3 = 1 := by kernel_rfl
  have n2 : Try.prog.cellsOf 22 = 1 := by kernel_rfl
  obtain ⟨y0, e0⟩ := hf 0 _ rfl
  have f0 : DataW.trod enc Try.prog w base spare held m 50 ((cs.drop 0).take (Try.prog.cellsOf 50)) = some y0 := e0
  rw [n0] at f0
  obtain ⟨y1, e1⟩ := hf 1 _ rfl
  have f1 : DataW.trod enc Try.prog w base spare held m 3 ((cs.drop 1).take (Try.prog.cellsOf 3)) = some y1 := e1
  rw [n1] at f1
  obtain ⟨y2, e2⟩ := hf 2 _ rfl
  have f2 : DataW.trod enc Try.prog w base spare held m 22 ((cs.drop 2).take (Try.prog.cellsOf 22)) = some y2 := e2
  rw [n2] at f2
  obtain ⟨z0, g0, _, u0⟩ := DataW.trod_int Try.underlying50 f0
  have b0 : 0 ≤ z0 ∧ z0 ≤ 18446744073709551615 := by simpa [Lit.wf, IntKind.min, IntKind.max, IntKind.signed, IntKind.bits] using u0
  obtain ⟨z1, g1, _, u1⟩ := DataW.trod_int Try.underlying3 f1
  have b1 : -9223372036854775808 ≤ z1 ∧ z1 ≤ 9223372036854775807 := by simpa [Lit.wf, IntKind.min, IntKind.max, IntKind.signed, IntKind.bits] using u1
  obtain ⟨z2, g2, b2⟩ := open_flw f2
  have hp : cs = (cs.drop 0).take 1 ++ ((cs.drop 1).take 1 ++ ((cs.drop 2).take 1 ++ [])) := by
    rw [← piece_end hl', ← piece 2 1 3 rfl, ← piece 1 1 2 rfl, ← piece 0 1 1 rfl, List.drop_zero]
  rw [g0, g1, g2] at hp
  exact ⟨z0, z1, z2, hp, b0, b1, b2⟩
def RowW (w : World) (v : Value) : Prop := ∃ (s m : Int) (z : Value), v = .agg #[.int .u64 s, .int .i64 m, z] ∧ FlsW w z
theorem open_row_v {v : Value} (h : DataW.trod enc Try.prog w base spare held fuel 52 v.cells.toList = some x) (hv : ∃ cs, v = .agg cs) : RowW w v := by
  obtain ⟨cs, rfl⟩ := hv
  obtain ⟨s, m, z, h1, _, _, h2⟩ := open_row0 h
  refine ⟨s, m, z, ?_, h2⟩
  have h3 : cs.toList = [Value.int .u64 s, .int .i64 m, z] := by simpa [Value.cells] using h1
  rw [← h3]
end
end Go.Proofs.Ytidphdlhghgglaa
/- Rows of a table as they come in. -/
namespace Go.Proofs.Ytidphdlhghgglaa
open Go.RowKit Go.ChangeShapes Go.WideShapes Go.Deep
section
variable {H : Type} {enc : TypeId × Value → H} {w : World} {base : Nat} {spare : Nat → Bool} {held : Bool} {fuel : Nat} {cs : List Value} {x : DataW H × List MemPlace}
instance : Inhabited TR := ⟨⟨0, 0, none, 0, []⟩⟩
theorem open_tr (h : DataW.trod enc Try.prog w base spare held fuel 52 cs = some x) : ∃ r : TR, cs = r.C ∧ r.inW w := by
  obtain ⟨s, m, z, hcs, hs, hm, A, c, l, rfl, h1, h2, h3, h4⟩ := open_row0 h
  exact ⟨⟨s, m, A, c, l⟩, hcs, h1, h2, hs, hm, by unfold maxLen at h4; exact Nat.le_trans h3 h4⟩
def TbV (w : World) (v : Value) : Prop := ∃ (R : Option Addr) (c : Nat) (xs : List TR), v = .slice R xs.length c ∧ Reads w 3 R xs.length (rows TR.C xs) ∧ (∀ r ∈ xs, r.inW w) ∧ xs.length ≤ maxLen
theorem open_tbs {v : Value} (h : DataW.trod enc Try.prog w base spare held fuel 47 v.cells.toList = some x) (hv : ∃ A n c, v = .slice A n c) : TbV w v := by
  obtain ⟨A0, n0, c0, rfl⟩ := hv
  obtain ⟨A, n, c, xs, hcs, hl, hr, hk, hc, hm⟩ := open_rows (X := TR) 3 TR.C (fun b => b.inW w) Try.underlying47 (by kernel_rfl) (fun _ _ _ h => open_tr h) h
  subst hl
  have hcs' : Value.slice A0 n0 c0 = .slice A xs.length c := by simpa [Value.cells] using hcs
  exact ⟨A, c, xs, hcs', hr, fun x hx => (hk x hx).1, by omega⟩
end
theorem Tables_v {v : Value} {w : World} {b k : Int} (hb : 0 ≤ b ∧ b ≤ 255) (hk : -9223372036854775808 ≤ k ∧ k ≤ 9223372036854775807) (h : TbV w v) : Calls Try.prog 7 #[v, .int .u8 b, .int .i64 k] w fun e w' => e = .returned (.bool true) ∧ Fr Nil w w' := by
  obtain ⟨wd, rfl⟩ : ∃ n : Nat, b = n := ⟨b.toNat, by omega⟩
  obtain ⟨R, c, xs, rfl, h1, h2, h3⟩ := h
  exact Fn.top (lawTables_ok h1 h2 (by unfold maxLen at h3; omega) (by omega) hk)
end Go.Proofs.Ytidphdlhghgglaa
