/- Several texts of one claim, one behind the other (Tb6, Tb7, Tb8). -/
import Derived.Test.YtidphdlhghgglaaB11
/- StatsTables: what is wanted of Add; the row put in its place. -/
namespace Go.Proofs.Ytidphdlhghgglaa
open Go.RowKit
attribute [local irreducible] Go.Calls Go.Exit.then Go.Exit.inBlock Go.bodyPost Go.Code.wp Go.wpList
/-- What Add is to answer. -/
def wantR (ms : List TR) (r : TR) : Int := if addW ms r.m r.l.length ≠ 0 then addW ms r.m r.l.length else if hasR ms r.s then 29 else 0
theorem vw_cut {L : List Fa} {sz n cap k : Nat} {A : Option Addr} {xs : List Value} (h : Vw L (fun w => Reads w sz A n xs)) (hk : k ≤ n) (hc : n ≤ cap) : Vw L (fun w => Reads w sz (cutA A cap k sz) (n - k) (xs.drop (k * sz))) := fun w hw => (h w hw).cut hk hc
theorem nth_Tb6 {φ : Prop} (h : φ := by (first | rfl | first | assumption | exact rows_nth TR.len (by assumption) rfl)) : φ := h
theorem mid_Tb6 {φ : Prop} (h : φ := by (first | first | exact rows_mid TR.len (by assumption) | exact Mid.all | exact Mid.head)) : φ := h
theorem sz_Tb6 {φ : Prop} (h : φ := by (first | rfl | (rfl; first | done | fail))) : φ := h
theorem one_Tb6 {φ : Prop} (h : φ := by (first | assumption | exact first | exact one_bytes _ | exact TR.one _ | exact row_one | (simp only [List.mem_cons, List.not_mem_nil, or_false, forall_eq_or_imp, forall_eq]; decide) | exact one_bytes _)) : φ := h
theorem set_Tb6 {φ : Prop} (h : φ := by (first | (fail) | ((repeat (first | exact SetAt.here | apply SetAt.there)); first | done | fail))) : φ := h
theorem cl_Tb6 {φ : Prop} (h : φ := by first | rfl | exact .t | exact .f | exact .t (by omega) | exact .f (by omega) | exact .u | exact .i (by (first | exact .t (by omega) | exact .f (by omega) | exact .u | exact .i (by omega) | exact .v (by omega) | exact .b (by omega) | exact .w | rfl | omega)) | exact .v (by omega) | exact .b (by omega) | exact .q (by omega) | exact .w | exact .b (by exact at_) rfl (by exact nth_Tb6) | exact .w (by exact at_) rfl rfl (by exact sz_Tb6) | exact .s (by exact at_) (by exact mid_Tb6) rfl rfl (by exact sz_Tb6) | exact .z rfl rfl ⟨by kernel_rfl⟩ | exact .b rfl rfl ⟨by kernel_rfl⟩ | exact .a rfl rfl ⟨by kernel_rfl⟩ | exact .o rfl | exact .s | exact .n | exact .p rfl | exact .q rfl | exact .c rfl | exact .d rfl | exact .n rfl rfl (by omega) | exact .a rfl rfl (by omega) | exact .p rfl rfl (by omega) (by omega) | exact .y rfl rfl (by omega) (by omega) | exact .o (by exact at_) (by omega) rfl (by exact nth_Tb6) | exact .m (by exact at_) (by omega) (by exact mid_Tb6) rfl rfl (by exact sz_Tb6) | exact .mlen (by exact at_) rfl | exact .t (by exact at_) rfl rfl (by first | exact True.intro | rfl) (by assumption) | exact .f (by exact at_) rfl rfl (by first | exact True.intro | rfl) (by assumption) rfl | exact .t1 (by exact at_) rfl rfl (by first | exact True.intro | rfl) (by assumption) | exact .f1 (by exact at_) rfl rfl (by first | exact True.intro | rfl) (by assumption) rfl | exact .r rfl rfl (by omega) (by omega) (by exact nth_Tb6) rfl | exact .s rfl (by omega) (by assumption) | exact at_ | assumption | exact .r rfl rfl | exact .h rfl rfl rfl (by omega) | exact .l rfl rfl rfl (by omega) (by omega) | exact .g rfl rfl rfl rfl (by omega) (by omega) | exact .h rfl rfl (toN_ (by omega)) (by omega) | exact .l rfl rfl (toN_ (by omega)) (by omega) (by omega) | exact .g rfl rfl (toN_ (by omega)) (toN_ (by omega)) (by omega) (by omega) | exact .o (by decide) | exact .f (by decide) | exact .n (by omega) (by first | decide | (show _ ≤ ((64 : Nat) : Int); omega)) | (constructor; (repeat (first | exact .t (by omega) | exact .f (by omega) | exact .u | exact .i (by omega) | exact .v (by omega) | exact .b (by omega) | exact .w | rfl | omega)); first | done | fail) | omega | (show _ ≤ ((64 : Nat) : Int); omega)) : φ := h
theorem pv_Tb6 {φ : Prop} (h : φ := by constructor; (repeat exact cl_Tb6); first | done | fail) : φ := h
theorem su_Tb6 {φ ψ : Prop} (k : ψ) (h : Hide ψ → φ := by (intro k; (first | refine sl_pu (PuI.sep (by exact pv_Tb6)) rfl ?_ | refine sl_yes rfl rfl ?_ | refine sl_no rfl rfl rfl ?_ | refine sl_off rfl rfl rfl ?_ | (first | refine sl_pu (pu_ldo (by exact at_) (by omega) rfl (at2 _ _ _) rfl (by exact nth_Tb6)) rfl ?_ | refine sl_pu (pu_ldo (by exact at_) (by omega) rfl (at1 _ _) rfl (by exact nth_Tb6)) rfl ?_ | refine sl_pu (pu_ldo (by exact at_) (by omega) rfl rfl rfl (by exact nth_Tb6)) rfl ?_)); exact k.out)) : φ := h ⟨k⟩
theorem rq_Tb6 {φ ψ : Prop} (k : ψ) (h : Hide ψ → φ := by (intro k; (first | refine wq_pu (PuI.sep (by exact pv_Tb6)) rfl ?_ | refine wq_yes rfl rfl ?_ | refine wq_no rfl rfl rfl ?_ | refine wq_off rfl rfl rfl ?_ | (first | refine wq_pu (pu_ldo (by exact at_) (by omega) rfl (at2 _ _ _) rfl (by exact nth_Tb6)) rfl ?_ | refine wq_pu (pu_ldo (by exact at_) (by omega) rfl (at1 _ _) rfl (by exact nth_Tb6)) rfl ?_ | refine wq_pu (pu_ldo (by exact at_) (by omega) rfl rfl rfl (by exact nth_Tb6)) rfl ?_)); exact k.out)) : φ := h ⟨k⟩
theorem sto_Tb6 {φ ψ : Prop} (k : ψ) (h : Hide ψ → φ := by (intro k; (first | refine sl_store rfl (by exact pick_) rfl rfl (by kernel_rfl) (by exact set_Tb6) ?_ | refine sl_store_whole rfl (by exact pick_) rfl (by exact sz_Tb6) (by exact sz_Tb6) (by exact one_Tb6) ?_); exact k.out)) : φ := h ⟨k⟩
theorem go_Tb6 {φ ψ : Prop} (k : ψ) (h : Hide ψ → φ := by (intro k; (repeat (first | refine su_Tb6 ?_ | refine so_ ?_ | refine sto_Tb6 ?_)); exact k.out)) : φ := h ⟨k⟩
set_option maxRecDepth 100000 in
set_option maxHeartbeats 8000000 in
theorem pWant {w : World} {at' : Int} {g g10 wd L cq i c c2 n : Nat} {Q R R2 : Option Addr} {ts ms : List TR} {G : Fa} {r : TR} (hr : r.ok w G) (hM : TOk w G ts ms) (hn : n = ms.length) {Q' : Exit → Act → World → Prop} (hN : NoP Q')
    (hend : Ends 332 Q' .normal (fun _ : Unit => [(1, .int .u8 wd), (2, .int .i64 at'), (7, .pointer (some ⟨g, 0, none⟩)), (8, .slice R2 n c2), (10, .pointer (some ⟨g10, 0, none⟩)), (11, .int .i64 (wantR ms r)), (37, .slice Q L cq), (38, .int .i64 L), (39, .int .i64 i)]) (fun _ => [tB g R n c, tO R n c ts, tO R2 n c2 ms, G, blk g10 52 r.C, old w]) (fun _ => True)) :
    SC Try.prog (cAt [false, false, false, false, false, true, false, true, true, false, false, true, true, false, false, false, false, false, false, true, true] (fb Try.f7)) Q' 332 [(1, .int .u8 wd), (2, .int .i64 at'), (7, .pointer (some ⟨g, 0, none⟩)), (8, .slice R2 n c2), (10, .pointer (some ⟨g10, 0, none⟩)), (11, .int .i64 0), (12, .bool (hasR ms r.s)), (37, .slice Q L cq), (38, .int .i64 L), (39, .int .i64 i)] [tB g R n c, tO R n c ts, tO R2 n c2 ms, G, blk g10 52 r.C, old w] := by
  obtain ⟨hrd, hb, hs, hm, hl⟩ := hr
  have hnn := hM.n
  by_cases h17 : r.m < 1 ∨ 256 < r.m
  · have hw : wantR ms r = 17 := by
      unfold wantR
      rw [show addW ms r.m r.l.length = 17 from if_pos h17]
      rfl
    by_cases h1 : r.m < 1
    · refine go_Tb6 ?_
      refine hend () trivial ?_ (by exact sub_)
      rw [hw]
      exact has_
    · have h2 : 256 < r.m := by omega
      refine go_Tb6 ?_
      refine hend () trivial ?_ (by exact sub_)
      rw [hw]
      exact has_
  by_cases h5 : 64 < r.l.length ∨ ms.length = 32
  · have hw : wantR ms r = 5 := by
      unfold wantR
      rw [show addW ms r.m r.l.length = 5 by unfold addW; rw [if_neg h17, if_pos h5]]
      rfl
    by_cases h1 : 64 < r.l.length
    · refine go_Tb6 ?_
      refine hend () trivial ?_ (by exact sub_)
      rw [hw]
      exact has_
    · have h2 : n = 32 := by omega
      subst h2
      refine go_Tb6 ?_
      refine hend () trivial ?_ (by exact sub_)
      rw [hw]
      exact has_
  have h32 : n ≠ 32 := by omega
  have hlast : neq0 ms r.l.length = false → wantR ms r = if hasR ms r.s then 29 else 0 := fun hb0 => by
    have : addW ms r.m r.l.length = 0 := by
      unfold addW
      rw [if_neg h17, if_neg h5, hb0]
      rfl
    unfold wantR
    rw [this]
    rfl
  by_cases hz : n = 0
  · have hw := hlast (by
      have : ms = [] := List.eq_nil_of_length_eq_zero (by omega)
      rw [this]
      rfl)
    subst hz
    cases hh : hasR ms r.s with
    | true =>
      rw [hh] at hw
      refine go_Tb6 ?_
      ((refine sq_region (by kernel_rfl) (by kernel_rfl) ?_; (repeat refine rq_Tb6 ?_); refine sq_end ?_))
      refine go_Tb6 ?_
      refine hend () trivial ?_ (by exact sub_)
      rw [hw]
      exact has_
    | false =>
      rw [hh] at hw
      refine go_Tb6 ?_
      ((refine sq_region (by kernel_rfl) (by kernel_rfl) ?_; (repeat refine rq_Tb6 ?_); refine sq_end ?_))
      refine go_Tb6 ?_
      refine hend () trivial ?_ (by exact sub_)
      rw [hw]
      exact has_
  obtain ⟨q0, h0⟩ : ∃ q0, ms[0]? = some q0 := ⟨_, List.getElem?_eq_getElem (by omega)⟩
  have hq0l := hM.l q0 (List.mem_of_getElem? h0)
  have hnx : nth (rows TR.C ms) 2 = some (.slice q0.A q0.l.length q0.c) := rows_nth (i := 0) (j := 2) TR.len h0 rfl
  refine sc_form (e := 52) (size := 3) (A := R2) (m := n) (c := c2) (xs := rows TR.C ms) (by exact at_) (by omega) ?_
  rintro gR rfl
  by_cases h9 : (q0.l.length : Int) = r.l.length
  · have hw := hlast (by rw [neq0_eq h0]; exact decide_eq_false (by omega))
    cases hh : hasR ms r.s with
    | true =>
      rw [hh] at hw
      refine go_Tb6 ?_
      ((refine sq_region (by kernel_rfl) (by kernel_rfl) ?_; (repeat refine rq_Tb6 ?_); refine sq_end ?_))
      refine go_Tb6 ?_
      refine hend () trivial ?_ (by exact sub_)
      rw [hw]
      exact has_
    | false =>
      rw [hh] at hw
      refine go_Tb6 ?_
      ((refine sq_region (by kernel_rfl) (by kernel_rfl) ?_; (repeat refine rq_Tb6 ?_); refine sq_end ?_))
      refine go_Tb6 ?_
      refine hend () trivial ?_ (by exact sub_)
      rw [hw]
      exact has_
  · have hw : wantR ms r = 9 := by
      unfold wantR
      rw [show addW ms r.m r.l.length = 9 by unfold addW; rw [if_neg h17, if_neg h5, neq0_eq h0, if_pos (decide_eq_true (by omega))]]
      rfl
    refine go_Tb6 ?_
    ((refine sq_region (by kernel_rfl) (by kernel_rfl) ?_; (repeat refine rq_Tb6 ?_); refine sq_end ?_))
    refine go_Tb6 ?_
    refine hend () trivial ?_ (by exact sub_)
    rw [hw]
    exact has_
set_option maxRecDepth 100000 in
set_option maxHeartbeats 8000000 in
theorem pIns {w : World} {at' : Int} {g g10 wd L cq i c c2 n p : Nat} {Q R R2 : Option Addr} {ms : List TR} {T : Fa} {G : Fa} {r : TR} (hn : n = ms.length) (hn32 : n ≤ 32) (hp : p ≤ ms.length) (h1 : ∀ k q, k < p → ms[k]? = some q → q.s < r.s) (h2 : ∀ k q, p ≤ k → ms[k]? = some q → r.s < q.s) {Q' : Exit → Act → World → Prop} (hN : NoP Q')
    (hend : Ends 332 Q' .normal (fun q : Option Addr × Nat => [(1, .int .u8 wd), (2, .int .i64 at'), (7, .pointer (some ⟨g, 0, none⟩)), (8, .slice q.1 (n + 1) q.2), (37, .slice Q L cq), (38, .int .i64 L), (39, .int .i64 i)]) (fun q => [tB g R (n + 1) c, T, tO q.1 (n + 1) q.2 (ms.take p ++ r :: ms.drop p), G, old w]) (fun _ => True)) :
    SC Try.prog (cAt [false, false, false, false, false, true, false, true, true, false, false, true, true, false, false, false, false, false, false, false, false, false, true] (fb Try.f7)) Q' 332 [(1, .int .u8 wd), (2, .int .i64 at'), (7, .pointer (some ⟨g, 0, none⟩)), (8, .slice R2 n c2), (10, .pointer (some ⟨g10, 0, none⟩)), (37, .slice Q L cq), (38, .int .i64 L), (39, .int .i64 i)] [tB g R (n + 1) c, T, tO R2 n c2 ms, G, blk g10 52 r.C, old w] := by
  refine go_Tb6 ?_
  refine sc_bjoin (fun _ : Unit => [(1, .int .u8 wd), (2, .int .i64 at'), (7, .pointer (some ⟨g, 0, none⟩)), (8, .slice R2 n c2), (10, .pointer (some ⟨g10, 0, none⟩)), (15, .int .i64 p), (37, .slice Q L cq), (38, .int .i64 L), (39, .int .i64 i)]) (fun _ => [tB g R (n + 1) c, T, tO R2 n c2 ms, G, blk g10 52 r.C, old w]) (fun _ => True) ?_ ?_
  · refine sc_for (fun k : Nat => [(1, .int .u8 wd), (2, .int .i64 at'), (7, .pointer (some ⟨g, 0, none⟩)), (8, .slice R2 n c2), (10, .pointer (some ⟨g10, 0, none⟩)), (15, .int .i64 k), (37, .slice Q L cq), (38, .int .i64 L), (39, .int .i64 i)]) (fun _ => [tB g R (n + 1) c, T, tO R2 n c2 ms, G, blk g10 52 r.C, old w]) (fun k => k ≤ p) (fun k => p - k) 0 (by exact has_) (by exact sub_) (Nat.zero_le _) ?_
    rintro k hk
    by_cases hkn : k < n
    · obtain ⟨q, hq⟩ : ∃ q, ms[k]? = some q := ⟨_, List.getElem?_eq_getElem (by omega)⟩
      refine sc_form (e := 52) (size := 3) (A := R2) (m := n) (c := c2) (xs := rows TR.C ms) (by exact at_) (by omega) ?_
      rintro gR rfl
      have hnx : nth (rows TR.C ms) (k * 3 + 0) = some (.int .u64 q.s) := rows_nth (j := 0) TR.len hq rfl
      by_cases hkp : k < p
      · have hlt := h1 k q hkp hq
        refine go_Tb6 ?_
        ((refine sq_region (by kernel_rfl) (by kernel_rfl) ?_; (repeat refine rq_Tb6 ?_); refine sq_end ?_))
        refine go_Tb6 ?_
        exact se_round (k + 1) (by exact has_) (by exact sub_) hkp (by omega)
      · obtain rfl : k = p := by omega
        have hlt := h2 k q (Nat.le_refl _) hq
        refine go_Tb6 ?_
        ((refine sq_region (by kernel_rfl) (by kernel_rfl) ?_; (repeat refine rq_Tb6 ?_); refine sq_end ?_))
        refine go_Tb6 ?_
        exact se_mid () (by exact has_) (by exact sub_) trivial
    · obtain rfl : k = p := by omega
      refine go_Tb6 ?_
      ((refine sq_region (by kernel_rfl) (by kernel_rfl) ?_; (repeat refine rq_Tb6 ?_); refine sq_end ?_))
      refine go_Tb6 ?_
      exact se_mid () (by exact has_) (by exact sub_) trivial
  rintro _ -
  refine sc_know (fun w hw => (own_len (e := 52) (size := 3) (A := R2) (c := c2) (xs := rows TR.C ms) hw (by exact at_)).2) ?_
  rintro ⟨l1, -⟩
  have hv0 : Vw [tO R2 n c2 ms] (fun w => Reads w 3 R2 n (rows TR.C ms)) := Vw.of_own .here
  have hv1 : Vw [tO R2 n c2 ms] (fun w => Reads w 3 R2 p (rows TR.C (ms.take p))) := fun w hw => by
    have h := (hv0 w hw).take (k := p) (by omega)
    rwa [rows_take TR.len] at h
  have hv2 : Vw [tO R2 n c2 ms] (fun w => Reads w 3 (cutA R2 c2 p 3) (n - p) (rows TR.C (ms.drop p))) := by
    have h := vw_cut (cap := c2) (k := p) hv0 (by omega) l1
    rwa [rows_drop TR.len] at h
  refine sd_drawn (fun W => AllP W [blk g10 52 r.C]) (fun _ => true) (by kernel_rfl) 13 rfl ?_
  refine sd_yes2 1 rfl (by exact gd_) (by kernel_rfl) (by kernel_rfl) (by (repeat (first | assumption | exact nop_body | refine nop_then ?_ | refine nop_block ?_)); first | done | fail) (PuI.all (by exact pv_Tb6)) rfl (fun w hw => all_ hw) ?_
  refine sd_yes2 2 rfl (by exact gd_) (by kernel_rfl) (by kernel_rfl) (by (repeat (first | assumption | exact nop_body | refine nop_then ?_ | refine nop_block ?_)); first | done | fail) (PuI.all (by exact pv_Tb6)) rfl (fun w hw => all_ hw) ?_
  refine sd_yes2 3 rfl (by exact gd_) (by kernel_rfl) (by kernel_rfl) (by (repeat (first | assumption | exact nop_body | refine nop_then ?_ | refine nop_block ?_)); first | done | fail) (PuI.all (by exact pv_Tb6)) rfl (fun w hw => all_ hw) ?_
  refine sd_yes2 5 rfl (by exact gd_) (by kernel_rfl) (by kernel_rfl) (by (repeat (first | assumption | exact nop_body | refine nop_then ?_ | refine nop_block ?_)); first | done | fail) (PuI.all (by exact pv_Tb6)) rfl (fun w hw => all_ hw) ?_
  refine sd_yes2 8 rfl (by exact gd_) (by kernel_rfl) (by kernel_rfl) (by (repeat (first | assumption | exact nop_body | refine nop_then ?_ | refine nop_block ?_)); first | done | fail) (PuI.all (by exact pv_Tb6)) rfl (fun w hw => all_ hw) ?_
  refine sd_yes2 9 rfl (by exact gd_) (by kernel_rfl) (by kernel_rfl) (by (repeat (first | assumption | exact nop_body | refine nop_then ?_ | refine nop_block ?_)); first | done | fail) (PuI.all (by exact pv_Tb6)) rfl (fun w hw => all_ hw) ?_
  refine sd_yes2 10 rfl (by exact gd_) (by kernel_rfl) (by kernel_rfl) (by (repeat (first | assumption | exact nop_body | refine nop_then ?_ | refine nop_block ?_)); first | done | fail) (PuI.all (by exact pv_Tb6)) rfl (fun w hw => all_ hw) ?_
  refine sd_two 0 6 (by kernel_rfl) (sa_sl 0 rfl ?_) (sa_sl 6 rfl ?_)
  · refine sl_build0 (e := 52) (size := 3) rfl (fun W => by kernel_rfl) rfl ?_
    intro g0
    refine sl_nil ?_
    refine se_sd (fun _ w hw => all_ hw) ?_
    refine sd_two 4 6 (by kernel_rfl) (sa_sl 4 rfl ?_) (sa_sl 6 rfl ?_)
    · refine sl_app (A := some ⟨g0, 0, none⟩) (k := 0) (xs := []) rfl (by exact pick_) rfl (hv1.mono (by exact sub_)) (rows_one_cell TR.one _) rfl infoTR (by decide) (by decide) rfl (by unfold maxLen; omega) (by omega) ?_
      intro A4 d4
      rw [Nat.zero_add, List.nil_append]
      refine sl_nil ?_
      refine se_sd (fun _ w hw => all_ hw) ?_
      refine sd_one 6 (by kernel_rfl) (sa_sl 6 rfl ?_)
      refine sl_build (size := 3) (e := 52) (cells := r.C) rfl (fun W => by kernel_rfl) rfl (by decide) rfl ?_
      intro gb
      refine sl_nil ?_
      refine se_sd (fun _ w hw => all_ hw) ?_
      refine sd_one 7 (by kernel_rfl) (sa_sl 7 rfl ?_)
      refine sl_app (A := A4) (k := p) (c := d4) rfl (by exact pick_) rfl (Vw.of_own (e := 52) (A := some ⟨gb, 0, none⟩) (c := 1) (by exact at_)) (TR.one _) rfl infoTR (by decide) (by decide) rfl (by unfold maxLen; omega) (by omega) ?_
      intro A5 d5
      refine sl_nil ?_
      refine se_sd (fun _ w hw => all_ hw) ?_
      refine sd_one 11 (by kernel_rfl) (sa_sl 11 rfl ?_)
      refine sl_app (A := A5) (k := p + 1) (c := d5) rfl (by exact pick_) rfl (hv2.mono (by exact sub_)) (rows_one_cell TR.one _) rfl infoTR (by decide) (by decide) rfl (by unfold maxLen; omega) (by omega) ?_
      intro A6 d6
      rw [show p + 1 + (n - p) = n + 1 by omega, List.append_assoc, ← rows_cons, ← rows_app]
      refine sl_nil ?_
      refine se_sd (fun _ w hw => all_ hw) ?_
      refine sd_yes2 12 rfl (by exact gd_) (by kernel_rfl) (by kernel_rfl) (by (repeat (first | assumption | exact nop_body | refine nop_then ?_ | refine nop_block ?_)); first | done | fail) (PuI.all (by exact pv_Tb6)) rfl (fun w hw => all_ hw) ?_
      refine sd_done (by kernel_rfl) ?_
      refine go_Tb6 ?_
      exact hend (A6, d6) trivial (by exact has_) (by exact sub_)
    · refine sl_build (size := 3) (e := 52) (cells := r.C) rfl (fun W => by kernel_rfl) rfl (by decide) rfl ?_
      intro gb
      refine sl_nil ?_
      refine se_sd (fun _ w hw => all_ hw) ?_
      refine sd_one 4 (by kernel_rfl) (sa_sl 4 rfl ?_)
      refine sl_app (A := some ⟨g0, 0, none⟩) (k := 0) (xs := []) rfl (by exact pick_) rfl (hv1.mono (by exact sub_)) (rows_one_cell TR.one _) rfl infoTR (by decide) (by decide) rfl (by unfold maxLen; omega) (by omega) ?_
      intro A4 d4
      rw [Nat.zero_add, List.nil_append]
      refine sl_nil ?_
      refine se_sd (fun _ w hw => all_ hw) ?_
      refine sd_one 7 (by kernel_rfl) (sa_sl 7 rfl ?_)
      refine sl_app (A := A4) (k := p) (c := d4) rfl (by exact pick_) rfl (Vw.of_own (e := 52) (A := some ⟨gb, 0, none⟩) (c := 1) (by exact at_)) (TR.one _) rfl infoTR (by decide) (by decide) rfl (by unfold maxLen; omega) (by omega) ?_
      intro A5 d5
      refine sl_nil ?_
      refine se_sd (fun _ w hw => all_ hw) ?_
      refine sd_one 11 (by kernel_rfl) (sa_sl 11 rfl ?_)
      refine sl_app (A := A5) (k := p + 1) (c := d5) rfl (by exact pick_) rfl (hv2.mono (by exact sub_)) (rows_one_cell TR.one _) rfl infoTR (by decide) (by decide) rfl (by unfold maxLen; omega) (by omega) ?_
      intro A6 d6
      rw [show p + 1 + (n - p) = n + 1 by omega, List.append_assoc, ← rows_cons, ← rows_app]
      refine sl_nil ?_
      refine se_sd (fun _ w hw => all_ hw) ?_
      refine sd_yes2 12 rfl (by exact gd_) (by kernel_rfl) (by kernel_rfl) (by (repeat (first | assumption | exact nop_body | refine nop_then ?_ | refine nop_block ?_)); first | done | fail) (PuI.all (by exact pv_Tb6)) rfl (fun w hw => all_ hw) ?_
      refine sd_done (by kernel_rfl) ?_
      refine go_Tb6 ?_
      exact hend (A6, d6) trivial (by exact has_) (by exact sub_)
  · refine sl_build (size := 3) (e := 52) (cells := r.C) rfl (fun W => by kernel_rfl) rfl (by decide) rfl ?_
    intro gb
    refine sl_nil ?_
    refine se_sd (fun _ w hw => all_ hw) ?_
    refine sd_one 0 (by kernel_rfl) (sa_sl 0 rfl ?_)
    refine sl_build0 (e := 52) (size := 3) rfl (fun W => by kernel_rfl) rfl ?_
    intro g0
    refine sl_nil ?_
    refine se_sd (fun _ w hw => all_ hw) ?_
    refine sd_one 4 (by kernel_rfl) (sa_sl 4 rfl ?_)
    refine sl_app (A := some ⟨g0, 0, none⟩) (k := 0) (xs := []) rfl (by exact pick_) rfl (hv1.mono (by exact sub_)) (rows_one_cell TR.one _) rfl infoTR (by decide) (by decide) rfl (by unfold maxLen; omega) (by omega) ?_
    intro A4 d4
    rw [Nat.zero_add, List.nil_append]
    refine sl_nil ?_
    refine se_sd (fun _ w hw => all_ hw) ?_
    refine sd_one 7 (by kernel_rfl) (sa_sl 7 rfl ?_)
    refine sl_app (A := A4) (k := p) (c := d4) rfl (by exact pick_) rfl (Vw.of_own (e := 52) (A := some ⟨gb, 0, none⟩) (c := 1) (by exact at_)) (TR.one _) rfl infoTR (by decide) (by decide) rfl (by unfold maxLen; omega) (by omega) ?_
    intro A5 d5
    refine sl_nil ?_
    refine se_sd (fun _ w hw => all_ hw) ?_
    refine sd_one 11 (by kernel_rfl) (sa_sl 11 rfl ?_)
    refine sl_app (A := A5) (k := p + 1) (c := d5) rfl (by exact pick_) rfl (hv2.mono (by exact sub_)) (rows_one_cell TR.one _) rfl infoTR (by decide) (by decide) rfl (by unfold maxLen; omega) (by omega) ?_
    intro A6 d6
    rw [show p + 1 + (n - p) = n + 1 by omega, List.append_assoc, ← rows_cons, ← rows_app]
    refine sl_nil ?_
    refine se_sd (fun _ w hw => all_ hw) ?_
    refine sd_yes2 12 rfl (by exact gd_) (by kernel_rfl) (by kernel_rfl) (by (repeat (first | assumption | exact nop_body | refine nop_then ?_ | refine nop_block ?_)); first | done | fail) (PuI.all (by exact pv_Tb6)) rfl (fun w hw => all_ hw) ?_
    refine sd_done (by kernel_rfl) ?_
    refine go_Tb6 ?_
    exact hend (A6, d6) trivial (by exact has_) (by exact sub_)
end Go.Proofs.Ytidphdlhghgglaa
/- StatsTables: a row added. -/
namespace Go.Proofs.Ytidphdlhghgglaa
open Go.RowKit
attribute [local irreducible] Go.Calls Go.Exit.then Go.Exit.inBlock Go.bodyPost Go.Code.wp Go.wpList
theorem TOk.more {w : World} {G G' : Fa} {ts ms : List TR} (h : TOk w G ts ms) (hG : Ent_ [G', old w] [G, old w]) : TOk w G' ts ms := ⟨h.ab, fun r hr w' hw' => h.tv r hr w' (hG w' hw'), fun r hr w' hw' => h.mv r hr w' (hG w' hw'), h.m, h.l, h.b, h.q, h.s, h.n⟩
theorem nth_Tb7 {φ : Prop} (h : φ := by (first | rfl | first | assumption | exact rows_nth TR.len (by assumption) rfl)) : φ := h
theorem mid_Tb7 {φ : Prop} (h : φ := by (first | first | exact rows_mid TR.len (by assumption) | exact Mid.all | exact Mid.head)) : φ := h
theorem sz_Tb7 {φ : Prop} (h : φ := by (first | rfl | (rfl; first | done | fail))) : φ := h
theorem one_Tb7 {φ : Prop} (h : φ := by (first | assumption | exact first | exact one_bytes _ | exact TR.one _ | exact row_one | (simp only [List.mem_cons, List.not_mem_nil, or_false, forall_eq_or_imp, forall_eq]; decide) | exact one_bytes _)) : φ := h
theorem set_Tb7 {φ : Prop} (h : φ := by (first | (fail) | ((repeat (first | exact SetAt.here | apply SetAt.there)); first | done | fail))) : φ := h
theorem cl_Tb7 {φ : Prop} (h : φ := by first | rfl | exact .t | exact .f | exact .t (by omega) | exact .f (by omega) | exact .u | exact .i (by (first | exact .t (by omega) | exact .f (by omega) | exact .u | exact .i (by omega) | exact .v (by omega) | exact .b (by omega) | exact .w | rfl | omega)) | exact .v (by omega) | exact .b (by omega) | exact .q (by omega) | exact .w | exact .b (by exact at_) rfl (by exact nth_Tb7) | exact .w (by exact at_) rfl rfl (by exact sz_Tb7) | exact .s (by exact at_) (by exact mid_Tb7) rfl rfl (by exact sz_Tb7) | exact .z rfl rfl ⟨by kernel_rfl⟩ | exact .b rfl rfl ⟨by kernel_rfl⟩ | exact .a rfl rfl ⟨by kernel_rfl⟩ | exact .o rfl | exact .s | exact .n | exact .p rfl | exact .q rfl | exact .c rfl | exact .d rfl | exact .n rfl rfl (by omega) | exact .a rfl rfl (by omega) | exact .p rfl rfl (by omega) (by omega) | exact .y rfl rfl (by omega) (by omega) | exact .o (by exact at_) (by omega) rfl (by exact nth_Tb7) | exact .m (by exact at_) (by omega) (by exact mid_Tb7) rfl rfl (by exact sz_Tb7) | exact .mlen (by exact at_) rfl | exact .t (by exact at_) rfl rfl (by first | exact True.intro | rfl) (by assumption) | exact .f (by exact at_) rfl rfl (by first | exact True.intro | rfl) (by assumption) rfl | exact .t1 (by exact at_) rfl rfl (by first | exact True.intro | rfl) (by assumption) | exact .f1 (by exact at_) rfl rfl (by first | exact True.intro | rfl) (by assumption) rfl | exact .r rfl rfl (by omega) (by omega) (by exact nth_Tb7) rfl | exact .s rfl (by omega) (by assumption) | exact at_ | assumption | exact .r rfl rfl | exact .h rfl rfl rfl (by omega) | exact .l rfl rfl rfl (by omega) (by omega) | exact .g rfl rfl rfl rfl (by omega) (by omega) | exact .h rfl rfl (toN_ (by omega)) (by omega) | exact .l rfl rfl (toN_ (by omega)) (by omega) (by omega) | exact .g rfl rfl (toN_ (by omega)) (toN_ (by omega)) (by omega) (by omega) | exact .o (by decide) | exact .f (by decide) | exact .n (by omega) (by first | decide | (show _ ≤ ((64 : Nat) : Int); omega)) | (constructor; (repeat (first | exact .t (by omega) | exact .f (by omega) | exact .u | exact .i (by omega) | exact .v (by omega) | exact .b (by omega) | exact .w | rfl | omega)); first | done | fail) | omega | (show _ ≤ ((64 : Nat) : Int); omega)) : φ := h
theorem pv_Tb7 {φ : Prop} (h : φ := by constructor; (repeat exact cl_Tb7); first | done | fail) : φ := h
theorem su_Tb7 {φ ψ : Prop} (k : ψ) (h : Hide ψ → φ := by (intro k; (first | refine sl_pu (PuI.sep (by exact pv_Tb7)) rfl ?_ | refine sl_yes rfl rfl ?_ | refine sl_no rfl rfl rfl ?_ | refine sl_off rfl rfl rfl ?_ | (first | refine sl_pu (pu_ldo (by exact at_) (by omega) rfl (at2 _ _ _) rfl (by exact nth_Tb7)) rfl ?_ | refine sl_pu (pu_ldo (by exact at_) (by omega) rfl (at1 _ _) rfl (by exact nth_Tb7)) rfl ?_ | refine sl_pu (pu_ldo (by exact at_) (by omega) rfl rfl rfl (by exact nth_Tb7)) rfl ?_)); exact k.out)) : φ := h ⟨k⟩
theorem rq_Tb7 {φ ψ : Prop} (k : ψ) (h : Hide ψ → φ := by (intro k; (first | refine wq_pu (PuI.sep (by exact pv_Tb7)) rfl ?_ | refine wq_yes rfl rfl ?_ | refine wq_no rfl rfl rfl ?_ | refine wq_off rfl rfl rfl ?_ | (first | refine wq_pu (pu_ldo (by exact at_) (by omega) rfl (at2 _ _ _) rfl (by exact nth_Tb7)) rfl ?_ | refine wq_pu (pu_ldo (by exact at_) (by omega) rfl (at1 _ _) rfl (by exact nth_Tb7)) rfl ?_ | refine wq_pu (pu_ldo (by exact at_) (by omega) rfl rfl rfl (by exact nth_Tb7)) rfl ?_)); exact k.out)) : φ := h ⟨k⟩
theorem sto_Tb7 {φ ψ : Prop} (k : ψ) (h : Hide ψ → φ := by (intro k; (first | refine sl_store rfl (by exact pick_) rfl rfl (by kernel_rfl) (by exact set_Tb7) ?_ | refine sl_store_whole rfl (by exact pick_) rfl (by exact sz_Tb7) (by exact sz_Tb7) (by exact one_Tb7) ?_); exact k.out)) : φ := h ⟨k⟩
theorem go_Tb7 {φ ψ : Prop} (k : ψ) (h : Hide ψ → φ := by (intro k; (repeat (first | refine su_Tb7 ?_ | refine so_ ?_ | refine sto_Tb7 ?_)); exact k.out)) : φ := h ⟨k⟩
set_option maxRecDepth 100000 in
set_option maxHeartbeats 16000000 in
theorem pRow {w : World} {at' : Int} {g wd cq i c c2 n : Nat} {Q R R2 : Option Addr} {ts ms xs : List TR} {G : Fa} (hv : Reads w 3 Q xs.length (rows TR.C xs)) (hin : ∀ r ∈ xs, r.inW w) (hxl : xs.length ≤ 40) (hlt : i < xs.length) (hwd : wd ≤ 255) (hM : TOk w G ts ms) (hn : n = ms.length) {Q' : Exit → Act → World → Prop} (hN : NoP Q')
    (hend : Ends 332 Q' .normal (tE wd at' g Q xs.length cq) (tH w g) (fun p => p.i = i + 1 ∧ p.n = p.ms.length ∧ TOk w p.G p.ts p.ms)) (hret : Ends 332 Q' .ret (fun _ : Unit => [(6, .bool true)]) (fun _ => [old w]) (fun _ => True)) :
    SC Try.prog (cAt [false, false, false, false, false, true, false, true, true] (fb Try.f7)) Q' 332 (tE wd at' g Q xs.length cq ⟨i, R, c, R2, c2, n, ts, ms, G⟩) (tH w g ⟨i, R, c, R2, c2, n, ts, ms, G⟩) := by
  dsimp only [tE, tH]
  have hxi : xs[i]? = some xs[i] := List.getElem?_eq_getElem hlt
  have ha := hin _ (List.getElem_mem hlt)
  generalize xs[i] = r0 at hxi ha
  have hnn := hM.n
  have hvw : Vw [tB g R n c, tO R n c ts, tO R2 n c2 ms, G, old w] (fun w => Reads w 3 Q xs.length (rows TR.C xs)) := Vw.of_old (by exact at_) hv
  refine sc_know (vw_form hvw (by omega)) ?_
  rintro ⟨ad, rfl⟩
  refine go_Tb7 ?_
  refine sl_pu (pu_ldrs hvw (by omega) rfl (rows_mid TR.len hxi) rfl rfl rfl) rfl ?_
  refine sl_alloc rfl rfl rfl ?_; intro g10
  have hl63 := ha.l
  by_cases h70 : 70 < r0.l.length
  · refine go_Tb7 ?_
    exact hret () trivial (by exact has_) (by exact sub_)
  refine go_Tb7 ?_
  refine sc_spart (E := fun _ : TR × Fa => [(1, .int .u8 wd), (2, .int .i64 at'), (7, .pointer (some ⟨g, 0, none⟩)), (8, .slice R2 n c2), (10, .pointer (some ⟨g10, 0, none⟩)), (37, .slice (some ad) xs.length cq), (38, .int .i64 xs.length), (39, .int .i64 i)]) (H := fun p : TR × Fa => [tB g R n c, tO R n c ts, tO R2 n c2 ms, p.2, blk g10 52 p.1.C, old w]) (R := fun p : TR × Fa => p.1.ok w p.2 ∧ Ent_ [p.2, old w] [G, old w]) (fun Q1 hN1 hend1 => sc_sub (L' := [tB g R n c, tO R n c ts, tO R2 n c2 ms, G, blk g10 52 r0.C, old w]) (by exact sub_) (sc_env _ (by exact has_) (pTurnR ⟨Vw.of_old (by exact at_) ha.rd, ha.b, ha.s, ha.m, by omega⟩ hwd hN1 hend1))) (by (repeat (first | assumption | exact nop_body | refine nop_then ?_ | refine nop_block ?_)); first | done | fail) ?_
  rintro ⟨r, G1⟩ ⟨hr, hG1⟩
  dsimp only at hr hG1 ⊢
  have hM1 := hM.more hG1
  clear hM hvw
  have hrs := hr.s
  refine go_Tb7 ?_
  refine sc_bjoin (fun _ : Unit => [(1, .int .u8 wd), (2, .int .i64 at'), (7, .pointer (some ⟨g, 0, none⟩)), (8, .slice R2 n c2), (10, .pointer (some ⟨g10, 0, none⟩)), (11, .int .i64 0), (12, .bool (hasR ms r.s)), (37, .slice (some ad) xs.length cq), (38, .int .i64 xs.length), (39, .int .i64 i)]) (fun _ => [tB g R n c, tO R n c ts, tO R2 n c2 ms, G1, blk g10 52 r.C, old w]) (fun _ => True) ?_ ?_
  · refine sc_for (fun k : Nat => [(1, .int .u8 wd), (2, .int .i64 at'), (7, .pointer (some ⟨g, 0, none⟩)), (8, .slice R2 n c2), (10, .pointer (some ⟨g10, 0, none⟩)), (11, .int .i64 0), (12, .bool (hasR (ms.take k) r.s)), (37, .slice (some ad) xs.length cq), (38, .int .i64 xs.length), (39, .int .i64 i), (69, .slice R2 n c2), (70, .int .i64 n), (71, .int .i64 k)]) (fun _ => [tB g R n c, tO R n c ts, tO R2 n c2 ms, G1, blk g10 52 r.C, old w]) (fun k => k ≤ n) (fun k => n - k) 0 (by exact has_) (by exact sub_) (Nat.zero_le _) ?_
    rintro k hk
    by_cases hkn : k < n
    · obtain ⟨q, hq⟩ : ∃ q, ms[k]? = some q := ⟨_, List.getElem?_eq_getElem (by omega)⟩
      have hht := has_take (s := r.s) hq
      refine sc_form (e := 52) (size := 3) (A := R2) (m := n) (c := c2) (xs := rows TR.C ms) (by exact at_) (by omega) ?_
      rintro gR rfl
      cases hh : hasR (ms.take k) r.s with
      | true =>
        rw [hh, Bool.true_or] at hht
        refine go_Tb7 ?_
        refine sl_alloc rfl rfl rfl ?_; intro g14
        refine go_Tb7 ?_
        refine se_round (k + 1) ?_ (by exact sub_) hkn (by omega)
        rw [hht]
        exact has_
      | false =>
        rw [hh, Bool.false_or] at hht
        by_cases hqs : q.s = r.s
        · rw [beq_iff_eq.2 hqs] at hht
          refine go_Tb7 ?_
          refine sl_alloc rfl rfl rfl ?_; intro g14
          refine go_Tb7 ?_
          refine se_round (k + 1) ?_ (by exact sub_) hkn (by omega)
          rw [hht]
          exact has_
        · rw [beq_eq_false_iff_ne.2 hqs] at hht
          refine go_Tb7 ?_
          refine sl_alloc rfl rfl rfl ?_; intro g14
          refine go_Tb7 ?_
          refine se_round (k + 1) ?_ (by exact sub_) hkn (by omega)
          rw [hht]
          exact has_
    · obtain rfl : k = n := by omega
      rw [List.take_of_length_le (by omega)]
      refine go_Tb7 ?_
      exact se_mid () (by exact has_) (by exact sub_) trivial
  rintro _ -
  refine sc_seq ?_
  refine sc_block ?_
  refine sc_bpart (E := fun _ : Unit => [(1, .int .u8 wd), (2, .int .i64 at'), (7, .pointer (some ⟨g, 0, none⟩)), (8, .slice R2 n c2), (10, .pointer (some ⟨g10, 0, none⟩)), (11, .int .i64 (wantR ms r)), (37, .slice (some ad) xs.length cq), (38, .int .i64 xs.length), (39, .int .i64 i)]) (H := fun _ => [tB g R n c, tO R n c ts, tO R2 n c2 ms, G1, blk g10 52 r.C, old w]) (R := fun _ => True) (fun Q1 hN1 hend1 => pWant hr hM1 hn hN1 hend1) (by (repeat (first | assumption | exact nop_body | refine nop_then ?_ | refine nop_block ?_)); first | done | fail) ?_
  rintro _ -
  have hrl := hr.l
  have htl := hM1.len
  obtain ⟨p, hp, hp1, hp2⟩ := pos_ex (s := r.s) hM1.s
  have hp1' : ∀ k q, k < p → ts[k]? = some q → q.s < r.s := fun k q hk hq => by
    obtain ⟨q', hq', e, -, -⟩ := ab_get hM1.ab hq
    rw [← e]
    exact hp1 k q' hk hq'
  have hp2' : ∀ k q, p ≤ k → ts[k]? = some q → r.s ≤ q.s := fun k q hk hq => by
    obtain ⟨q', hq', e, -, -⟩ := ab_get hM1.ab hq
    rw [← e]
    exact hp2 k q' hk hq'
  refine sc_seq ?_
  refine sc_join (fun q : Option Addr × Nat × Nat × List TR × Fa => [(1, .int .u8 wd), (2, .int .i64 at'), (7, .pointer (some ⟨g, 0, none⟩)), (8, .slice R2 n c2), (10, .pointer (some ⟨g10, 0, none⟩)), (11, .int .i64 (wantR ms r)), (37, .slice (some ad) xs.length cq), (38, .int .i64 xs.length), (39, .int .i64 i)]) (fun q => [tB g q.1 q.2.2.1 q.2.1, tO q.1 q.2.2.1 q.2.1 q.2.2.2.1, tO R2 n c2 ms, q.2.2.2.2, blk g10 52 r.C, old w]) (fun q => (wantR ms r ≠ 0 ∧ q.2.2.1 = n ∧ TOk w q.2.2.2.2 q.2.2.2.1 ms) ∨ (wantR ms r = 0 ∧ q.2.2.1 = n + 1 ∧ (∀ k q, p ≤ k → ms[k]? = some q → r.s < q.s) ∧ TOk w q.2.2.2.2 q.2.2.2.1 (ms.take p ++ r :: ms.drop p))) ?_ ?_
  · by_cases hW : addW ms r.m r.l.length ≠ 0
    · have hwr : wantR ms r = addW ms r.m r.l.length := if_pos hW
      refine go_Tb7 ?_
      refine sl_call rfl rfl (by kernel_rfl) rfl Sub.refl (addT_bad (R := R) (c := c) (ts := ts) (by exact at_) (by exact at_) (by omega) (by omega) (by rw [hM1.addW]; exact hW)) ?_
      rintro _ -
      rw [hM1.addW, ← hwr]
      have hne : wantR ms r ≠ 0 := by rw [hwr]; exact hW
      refine go_Tb7 ?_
      exact se_mid (R, c, n, ts, G1) (by exact has_) (by exact sub_) (.inl ⟨hne, rfl, hM1⟩)
    · replace hW := Classical.not_not.1 hW
      cases hh : hasR ms r.s with
      | true =>
        have hwr : wantR ms r = 29 := by
          unfold wantR
          rw [hW, hh]
          rfl
        obtain ⟨q, hqm, hqs⟩ := has_yes hh
        obtain ⟨j, hj⟩ := List.getElem?_of_mem hqm
        have hpj : p ≤ j := by
          by_cases h : j < p
          · have := hp1 j q h hj
            omega
          · omega
        have hjl := (List.getElem?_eq_some_iff.1 hj).1
        obtain ⟨u, hu⟩ : ∃ u, ms[p]? = some u := ⟨_, List.getElem?_eq_getElem (by omega)⟩
        have hus : u.s = r.s := by
          have e1 := hp2 p u (Nat.le_refl _) hu
          by_cases hpe : p = j
          · subst hpe
            rw [hu] at hj
            injection hj with hj
            rw [hj, hqs]
          · obtain ⟨a1, a2⟩ := List.getElem?_eq_some_iff.1 hu
            obtain ⟨b1, b2⟩ := List.getElem?_eq_some_iff.1 hj
            have := List.pairwise_iff_getElem.1 hM1.s p j a1 b1 (by omega)
            rw [a2, b2] at this
            omega
        obtain ⟨u', hu', e1, -, -⟩ := ab_get hM1.ab.symm hu
        refine go_Tb7 ?_
        refine sl_call rfl rfl (by kernel_rfl) rfl Sub.refl (addT_is (R := R) (c := c) (ts := ts) (p := p) (q := u') (by exact at_) (by exact at_) (by omega) (by omega) (by rw [hM1.addW]; exact hW) (by omega) hp1' hp2' hu' (by rw [e1, hus])) ?_
        rintro _ -
        rw [hwr]
        refine go_Tb7 ?_
        exact se_mid (R, c, n, ts, G1) (by exact has_) (by exact sub_) (.inl ⟨by decide, rfl, hM1⟩)
      | false =>
        have hwr : wantR ms r = 0 := by
          unfold wantR
          rw [hW, hh]
          rfl
        have hno := has_no hh
        have hp3 : ∀ k q, p ≤ k → ms[k]? = some q → r.s < q.s := fun k q hk hq => by
          have e1 := hp2 k q hk hq
          have e2 := hno q (List.mem_of_getElem? hq)
          omega
        have hp3' : ∀ k q, p ≤ k → ts[k]? = some q → r.s < q.s := fun k q hk hq => by
          obtain ⟨q', hq', e, -, -⟩ := ab_get hM1.ab hq
          rw [← e]
          exact hp3 k q' hk hq'
        refine go_Tb7 ?_
        refine sl_call rfl rfl (by kernel_rfl) rfl Sub.refl (addT_new (R := R) (c := c) (ts := ts) (p := p) (r := r) (by omega) (by omega) (by rw [hM1.addW]; exact hW) (by omega) hp1' hp3' (hr.rd.mono (by exact sub_))) ?_
        rintro ⟨A9, c9, B9, d9⟩ -
        dsimp only
        rw [hwr]
        refine go_Tb7 ?_
        have hbr : (TR.mk r.s r.m B9 d9 r.l).rd [star [own 24 1 B9 r.l.length d9 (r.l.map fl), G1], old w] := rd_new (r := ⟨r.s, r.m, B9, d9, r.l⟩)
        refine se_ent (L' := star [own 24 1 B9 r.l.length d9 (r.l.map fl), G1] :: [tB g A9 (n + 1) c9, tO A9 (n + 1) c9 (ts.take p ++ ⟨r.s, r.m, B9, d9, r.l⟩ :: ts.drop p), tO R2 n c2 ms, blk g10 52 r.C, old w]) (fun w hw => star2 w (hw.sub (by exact sub_))) ?_
        exact se_mid (A9, c9, n + 1, ts.take p ++ ⟨r.s, r.m, B9, d9, r.l⟩ :: ts.drop p, star [own 24 1 B9 r.l.length d9 (r.l.map fl), G1]) (by exact has_) (by exact sub_) (.inr ⟨rfl, rfl, hp3, hM1.ins star2_out (rd_star hr.rd _) hbr hr.b hW hp hp1 hp3⟩)
  rintro ⟨R', c', n', ts', G'⟩ hq
  dsimp only at hq ⊢
  rcases hq with ⟨hne, rfl, hM2⟩ | ⟨hwr, rfl, hp3, hM2⟩
  · refine go_Tb7 ?_
    exact hend ⟨i + 1, R', c', R2, c2, n', ts', ms, G'⟩ ⟨rfl, hn, hM2⟩ (by exact has_) (by exact sub_)
  · refine sc_seq ?_
    refine sc_region ?_
    repeat refine su_Tb7 ?_
    refine sl_nil ?_
    refine se_seq ?_
    refine sc_cond rfl (by constructor) ?_
    refine sc_bpart (E := fun q : Option Addr × Nat => [(1, .int .u8 wd), (2, .int .i64 at'), (7, .pointer (some ⟨g, 0, none⟩)), (8, .slice q.1 (n + 1) q.2), (37, .slice (some ad) xs.length cq), (38, .int .i64 xs.length), (39, .int .i64 i)]) (H := fun q => [tB g R' (n + 1) c', tO R' (n + 1) c' ts', tO q.1 (n + 1) q.2 (ms.take p ++ r :: ms.drop p), G', old w]) (R := fun _ => True) (fun Q1 hN1 hend1 => sc_env _ (by exact has_) (pIns hn (by omega) hp hp1 hp3 hN1 hend1)) (by (repeat (first | assumption | exact nop_body | refine nop_then ?_ | refine nop_block ?_)); first | done | fail) ?_
    rintro ⟨A5, c5⟩ -
    refine go_Tb7 ?_
    exact hend ⟨i + 1, R', c', A5, c5, n + 1, ts', ms.take p ++ r :: ms.drop p, G'⟩ ⟨rfl, by show n + 1 = (ms.take p ++ r :: ms.drop p).length; rw [List.length_append, List.length_cons, List.length_take, List.length_drop]; omega, hM2⟩ (by exact has_) (by exact sub_)
end Go.Proofs.Ytidphdlhghgglaa
/- StatsTables: the rows compared. -/
namespace Go.Proofs.Ytidphdlhghgglaa
open Go.RowKit
attribute [local irreducible] Go.Calls Go.Exit.then Go.Exit.inBlock Go.bodyPost Go.Code.wp Go.wpList
theorem pu_all2 {P : Program} {K L0 : List Fa} {n : Nat} {l : Env} {op : Op} {ty : TypeId} {v : Value} (h : Pu P (fun W => AllP W L0) n l op ty v) : Pu P (S2 K L0) n l op ty v := by
  unfold Pu at h ⊢
  exact fun a b c d e W hs hW => h a b c d e W hs hW.2
theorem pu_sep2 {P : Program} {K L0 : List Fa} {n : Nat} {l : Env} {op : Op} {ty : TypeId} {v : Value} (h : Pu P (In K) n l op ty v) : Pu P (S2 K L0) n l op ty v := by
  unfold Pu at h ⊢
  exact fun a b c d e W hs hW => h a b c d e W hs hW.1
theorem fl_nth {l : List Nat} {j : Nat} (h : j < l.length) : nth (l.map fl) (j * 1) = some (.float .f64 (l.getD j 0)) := by
  rw [nth_eq, Nat.mul_one]
  simp [fl, List.getD, h]
theorem fl_lt {l : List Nat} {j : Nat} (hb : ∀ x ∈ l, x < 18446744073709551616) : l.getD j 0 < 18446744073709551616 := by
  unfold List.getD
  cases h : l[j]? with
  | none => decide
  | some x => exact hb x (List.mem_of_getElem? h)
theorem nth_Tb8 {φ : Prop} (h : φ := by (first | rfl | first | assumption | exact rows_nth TR.len (by assumption) rfl)) : φ := h
theorem mid_Tb8 {φ : Prop} (h : φ := by (first | first | exact rows_mid TR.len (by assumption) | exact Mid.all | exact Mid.head)) : φ := h
theorem sz_Tb8 {φ : Prop} (h : φ := by (first | rfl | (rfl; first | done | fail))) : φ := h
theorem one_Tb8 {φ : Prop} (h : φ := by (first | assumption | exact first | exact one_bytes _ | exact TR.one _ | exact row_one | (simp only [List.mem_cons, List.not_mem_nil, or_false, forall_eq_or_imp, forall_eq]; decide) | exact one_bytes _)) : φ := h
theorem set_Tb8 {φ : Prop} (h : φ := by (first | (fail) | ((repeat (first | exact SetAt.here | apply SetAt.there)); first | done | fail))) : φ := h
theorem cl_Tb8 {φ : Prop} (h : φ := by first | rfl | exact .t | exact .f | exact .t (by omega) | exact .f (by omega) | exact .u | exact .i (by (first | exact .t (by omega) | exact .f (by omega) | exact .u | exact .i (by omega) | exact .v (by omega) | exact .b (by omega) | exact .w | rfl | omega)) | exact .v (by omega) | exact .b (by omega) | exact .q (by omega) | exact .w | exact .b (by exact at_) rfl (by exact nth_Tb8) | exact .w (by exact at_) rfl rfl (by exact sz_Tb8) | exact .s (by exact at_) (by exact mid_Tb8) rfl rfl (by exact sz_Tb8) | exact .z rfl rfl ⟨by kernel_rfl⟩ | exact .b rfl rfl ⟨by kernel_rfl⟩ | exact .a rfl rfl ⟨by kernel_rfl⟩ | exact .o rfl | exact .s | exact .n | exact .p rfl | exact .q rfl | exact .c rfl | exact .d rfl | exact .n rfl rfl (by omega) | exact .a rfl rfl (by omega) | exact .p rfl rfl (by omega) (by omega) | exact .y rfl rfl (by omega) (by omega) | exact .o (by exact at_) (by omega) rfl (by exact nth_Tb8) | exact .m (by exact at_) (by omega) (by exact mid_Tb8) rfl rfl (by exact sz_Tb8) | exact .mlen (by exact at_) rfl | exact .t (by exact at_) rfl rfl (by first | exact True.intro | rfl) (by assumption) | exact .f (by exact at_) rfl rfl (by first | exact True.intro | rfl) (by assumption) rfl | exact .t1 (by exact at_) rfl rfl (by first | exact True.intro | rfl) (by assumption) | exact .f1 (by exact at_) rfl rfl (by first | exact True.intro | rfl) (by assumption) rfl | exact .r rfl rfl (by omega) (by omega) (by exact nth_Tb8) rfl | exact .s rfl (by omega) (by assumption) | exact at_ | assumption | exact .r rfl rfl | exact .h rfl rfl rfl (by omega) | exact .l rfl rfl rfl (by omega) (by omega) | exact .g rfl rfl rfl rfl (by omega) (by omega) | exact .h rfl rfl (toN_ (by omega)) (by omega) | exact .l rfl rfl (toN_ (by omega)) (by omega) (by omega) | exact .g rfl rfl (toN_ (by omega)) (toN_ (by omega)) (by omega) (by omega) | exact .o (by decide) | exact .f (by decide) | exact .n (by omega) (by first | decide | (show _ ≤ ((64 : Nat) : Int); omega)) | (constructor; (repeat (first | exact .t (by omega) | exact .f (by omega) | exact .u | exact .i (by omega) | exact .v (by omega) | exact .b (by omega) | exact .w | rfl | omega)); first | done | fail) | omega | (show _ ≤ ((64 : Nat) : Int); omega)) : φ := h
theorem pv_Tb8 {φ : Prop} (h : φ := by constructor; (repeat exact cl_Tb8); first | done | fail) : φ := h
theorem su_Tb8 {φ ψ : Prop} (k : ψ) (h : Hide ψ → φ := by (intro k; (first | refine sl_pu (PuI.sep (by exact pv_Tb8)) rfl ?_ | refine sl_yes rfl rfl ?_ | refine sl_no rfl rfl rfl ?_ | refine sl_off rfl rfl rfl ?_ | (first | refine sl_pu (pu_ldo (by exact at_) (by omega) rfl (at2 _ _ _) rfl (by exact nth_Tb8)) rfl ?_ | refine sl_pu (pu_ldo (by exact at_) (by omega) rfl (at1 _ _) rfl (by exact nth_Tb8)) rfl ?_ | refine sl_pu (pu_ldo (by exact at_) (by omega) rfl rfl rfl (by exact nth_Tb8)) rfl ?_)); exact k.out)) : φ := h ⟨k⟩
theorem rq_Tb8 {φ ψ : Prop} (k : ψ) (h : Hide ψ → φ := by (intro k; (first | refine wq_pu (PuI.sep (by exact pv_Tb8)) rfl ?_ | refine wq_yes rfl rfl ?_ | refine wq_no rfl rfl rfl ?_ | refine wq_off rfl rfl rfl ?_ | (first | refine wq_pu (pu_ldo (by exact at_) (by omega) rfl (at2 _ _ _) rfl (by exact nth_Tb8)) rfl ?_ | refine wq_pu (pu_ldo (by exact at_) (by omega) rfl (at1 _ _) rfl (by exact nth_Tb8)) rfl ?_ | refine wq_pu (pu_ldo (by exact at_) (by omega) rfl rfl rfl (by exact nth_Tb8)) rfl ?_)); exact k.out)) : φ := h ⟨k⟩
theorem sto_Tb8 {φ ψ : Prop} (k : ψ) (h : Hide ψ → φ := by (intro k; (first | refine sl_store rfl (by exact pick_) rfl rfl (by kernel_rfl) (by exact set_Tb8) ?_ | refine sl_store_whole rfl (by exact pick_) rfl (by exact sz_Tb8) (by exact sz_Tb8) (by exact one_Tb8) ?_); exact k.out)) : φ := h ⟨k⟩
theorem go_Tb8 {φ ψ : Prop} (k : ψ) (h : Hide ψ → φ := by (intro k; (repeat (first | refine su_Tb8 ?_ | refine so_ ?_ | refine sto_Tb8 ?_)); exact k.out)) : φ := h ⟨k⟩
set_option maxRecDepth 100000 in
set_option maxHeartbeats 8000000 in
theorem pCmp {w : World} {at' : Int} {g c c2 cR n : Nat} {R R2 AR : Option Addr} {ts ms us : List TR} {G G2 : Fa} (hM : TOk w G ts ms) (hn : n = ms.length) (hus : us.map TR.ab = ms.map TR.ab) (hur : ∀ r ∈ us, r.rd [G2, old w]) {Q' : Exit → Act → World → Prop} (hN : NoP Q')
    (hend : Ends 332 Q' .normal (fun _ : Unit => [(2, .int .i64 at'), (7, .pointer (some ⟨g, 0, none⟩)), (8, .slice R2 n c2)]) (fun _ => [tB g R n c, tO R n c ts, tO R2 n c2 ms, G, old w]) (fun _ => True)) :
    SC Try.prog (cAt [false, false, false, false, false, false, false, false, true] (fb Try.f7)) Q' 332 [(2, .int .i64 at'), (7, .pointer (some ⟨g, 0, none⟩)), (8, .slice R2 n c2), (16, .slice AR n cR)] [tB g R n c, tO R n c ts, tO R2 n c2 ms, tO AR n cR us, G2, G, old w] := by
  have hnn := hM.n
  refine go_Tb8 ?_
  refine sc_for (fun k : Nat => [(2, .int .i64 at'), (7, .pointer (some ⟨g, 0, none⟩)), (8, .slice R2 n c2), (16, .slice AR n cR), (161, .slice R2 n c2), (162, .int .i64 n), (163, .int .i64 k)]) (fun _ => [tB g R n c, tO R n c ts, tO R2 n c2 ms, tO AR n cR us, G2, G, old w]) (fun k => k ≤ n) (fun k => n - k) 0 (by exact has_) (by exact sub_) (Nat.zero_le _) ?_
  rintro k hk
  by_cases hkn : k < n
  case neg =>
    obtain rfl : k = n := by omega
    refine go_Tb8 ?_
    exact hend () trivial (by exact has_) (by exact sub_)
  obtain ⟨q, hq⟩ : ∃ q, ms[k]? = some q := ⟨_, List.getElem?_eq_getElem (by omega)⟩
  have hqm := List.mem_of_getElem? hq
  have hql := hM.l q hqm
  have hqb := hM.b q hqm
  have hqr := hM.mv q hqm
  obtain ⟨u, hu, e1, e2, e3⟩ := ab_get hus.symm hq
  have hur' := hur u (List.mem_of_getElem? hu)
  have e4 : u.l.length = q.l.length := by rw [e3]
  refine sc_form (e := 52) (size := 3) (A := R2) (m := n) (c := c2) (xs := rows TR.C ms) (by exact at_) (by omega) ?_
  rintro gR rfl
  refine sc_form (e := 52) (size := 3) (A := AR) (m := n) (c := cR) (xs := rows TR.C us) (by exact at_) (by omega) ?_
  rintro gA rfl
  refine go_Tb8 ?_
  refine sl_alloc rfl rfl rfl ?_; intro g18
  refine go_Tb8 ?_
  ((refine sq_region (by kernel_rfl) (by kernel_rfl) ?_; (repeat refine rq_Tb8 ?_); refine sq_end ?_))
  refine go_Tb8 ?_
  refine sc_for (fun j : Nat => [(2, .int .i64 at'), (7, .pointer (some ⟨g, 0, none⟩)), (8, .slice (some ⟨gR, 0, none⟩) n c2), (16, .slice (some ⟨gA, 0, none⟩) n cR), (17, .int .i64 k), (18, .pointer (some ⟨g18, 0, none⟩)), (161, .slice (some ⟨gR, 0, none⟩) n c2), (162, .int .i64 n), (163, .int .i64 k), (200, .int .i64 q.l.length), (201, .int .i64 j)]) (fun _ => [blk g18 52 q.C, tB g R n c, tO R n c ts, tO (some ⟨gR, 0, none⟩) n c2 ms, tO (some ⟨gA, 0, none⟩) n cR us, G2, G, old w]) (fun j => j ≤ q.l.length) (fun j => q.l.length - j) 0 (by exact has_) (by exact sub_) (Nat.zero_le _) ?_
  rintro j hj
  by_cases hjl : j < q.l.length
  case neg =>
    obtain rfl : j = q.l.length := by omega
    refine go_Tb8 ?_
    exact se_round (k + 1) (by exact has_) (by exact sub_) hkn (by omega)
  obtain ⟨s1, m1, A1, c1, l1⟩ := u
  obtain ⟨s2, m2, A2, c2', l2⟩ := q
  dsimp only at e1 e2 e3 e4 hjl hj hql hqb ⊢
  subst e3
  unfold TR.rd at hur' hqr
  dsimp only at hur' hqr
  refine sc_know (vw_form (L := [blk g18 52 (TR.C ⟨s2, m2, A2, c2', l1⟩), tB g R n c, tO R n c ts, tO (some ⟨gR, 0, none⟩) n c2 ms, tO (some ⟨gA, 0, none⟩) n cR us, G2, G, old w]) (hur'.mono (by exact sub_)) (by omega)) ?_
  rintro ⟨a1, rfl⟩
  refine sc_know (vw_form (L := [blk g18 52 (TR.C ⟨s2, m2, A2, c2', l1⟩), tB g R n c, tO R n c ts, tO (some ⟨gR, 0, none⟩) n c2 ms, tO (some ⟨gA, 0, none⟩) n cR us, G2, G, old w]) (hqr.mono (by exact sub_)) (by omega)) ?_
  rintro ⟨a2, rfl⟩
  have hnv := fl_nth hjl
  refine go_Tb8 ?_
  refine sd_drawn (S2 ([G2, G, old w]) [tO (some ⟨gA, 0, none⟩) n cR us, blk g18 52 (TR.C ⟨s2, m2, some a2, c2', l1⟩)]) (fun _ => true) (by kernel_rfl) 15 rfl ?_
  refine sd_yes2 0 rfl (by exact gd_) (by kernel_rfl) (by kernel_rfl) (by (repeat (first | assumption | exact nop_body | refine nop_then ?_ | refine nop_block ?_)); first | done | fail) (PuI.all2 (by exact pv_Tb8)) rfl (fun w hw => ⟨hw.sub (by exact sub_), by exact all_ hw⟩) ?_
  refine sd_yes2 1 rfl (by exact gd_) (by kernel_rfl) (by kernel_rfl) (by (repeat (first | assumption | exact nop_body | refine nop_then ?_ | refine nop_block ?_)); first | done | fail) (PuI.all2 (by exact pv_Tb8)) rfl (fun w hw => ⟨hw.sub (by exact sub_), by exact all_ hw⟩) ?_
  refine sd_yes2 2 rfl (by exact gd_) (by kernel_rfl) (by kernel_rfl) (by (repeat (first | assumption | exact nop_body | refine nop_then ?_ | refine nop_block ?_)); first | done | fail) (PuI.all2 (by exact pv_Tb8)) rfl (fun w hw => ⟨hw.sub (by exact sub_), by exact all_ hw⟩) ?_
  refine sd_yes2 3 rfl (by exact gd_) (by kernel_rfl) (by kernel_rfl) (by (repeat (first | assumption | exact nop_body | refine nop_then ?_ | refine nop_block ?_)); first | done | fail) (PuI.all2 (by exact pv_Tb8)) rfl (fun w hw => ⟨hw.sub (by exact sub_), by exact all_ hw⟩) ?_
  refine sd_yes2 4 rfl (by exact gd_) (by kernel_rfl) (by kernel_rfl) (by (repeat (first | assumption | exact nop_body | refine nop_then ?_ | refine nop_block ?_)); first | done | fail) (pu_all2 (pu_ldoA (v := .slice (some a1) l1.length c1) (by exact at_) (by omega) rfl (at2 _ _ _) rfl (rows_nth (j := 2) TR.len hu rfl))) rfl (fun w hw => ⟨hw.sub (by exact sub_), by exact all_ hw⟩) ?_
  refine sd_yes2 5 rfl (by exact gd_) (by kernel_rfl) (by kernel_rfl) (by (repeat (first | assumption | exact nop_body | refine nop_then ?_ | refine nop_block ?_)); first | done | fail) (PuI.all2 (by exact pv_Tb8)) rfl (fun w hw => ⟨hw.sub (by exact sub_), by exact all_ hw⟩) ?_
  refine sd_yes2 6 rfl (by exact gd_) (by kernel_rfl) (by kernel_rfl) (by (repeat (first | assumption | exact nop_body | refine nop_then ?_ | refine nop_block ?_)); first | done | fail) (PuI.all2 (by exact pv_Tb8)) rfl (fun w hw => ⟨hw.sub (by exact sub_), by exact all_ hw⟩) ?_
  refine sd_yes2 7 rfl (by exact gd_) (by kernel_rfl) (by kernel_rfl) (by (repeat (first | assumption | exact nop_body | refine nop_then ?_ | refine nop_block ?_)); first | done | fail) (pu_sep2 (pu_ldr (hur'.mono (by exact sub_)) (by omega) rfl rfl hnv)) rfl (fun w hw => ⟨hw.sub (by exact sub_), by exact all_ hw⟩) ?_
  refine sd_yes2 8 rfl (by exact gd_) (by kernel_rfl) (by kernel_rfl) (by (repeat (first | assumption | exact nop_body | refine nop_then ?_ | refine nop_block ?_)); first | done | fail) (PuI.all2 (by exact pv_Tb8)) rfl (fun w hw => ⟨hw.sub (by exact sub_), by exact all_ hw⟩) ?_
  refine sd_yes2 9 rfl (by exact gd_) (by kernel_rfl) (by kernel_rfl) (by (repeat (first | assumption | exact nop_body | refine nop_then ?_ | refine nop_block ?_)); first | done | fail) (PuI.all2 (by exact pv_Tb8)) rfl (fun w hw => ⟨hw.sub (by exact sub_), by exact all_ hw⟩) ?_
  refine sd_yes2 10 rfl (by exact gd_) (by kernel_rfl) (by kernel_rfl) (by (repeat (first | assumption | exact nop_body | refine nop_then ?_ | refine nop_block ?_)); first | done | fail) (PuI.all2 (by exact pv_Tb8)) rfl (fun w hw => ⟨hw.sub (by exact sub_), by exact all_ hw⟩) ?_
  refine sd_yes2 11 rfl (by exact gd_) (by kernel_rfl) (by kernel_rfl) (by (repeat (first | assumption | exact nop_body | refine nop_then ?_ | refine nop_block ?_)); first | done | fail) (PuI.all2 (by exact pv_Tb8)) rfl (fun w hw => ⟨hw.sub (by exact sub_), by exact all_ hw⟩) ?_
  refine sd_yes2 12 rfl (by exact gd_) (by kernel_rfl) (by kernel_rfl) (by (repeat (first | assumption | exact nop_body | refine nop_then ?_ | refine nop_block ?_)); first | done | fail) (pu_sep2 (pu_ldr (hqr.mono (by exact sub_)) (by omega) rfl rfl hnv)) rfl (fun w hw => ⟨hw.sub (by exact sub_), by exact all_ hw⟩) ?_
  refine sd_one 13 (by kernel_rfl) (sa_sl 13 rfl ?_)
  refine sl_call rfl rfl (by kernel_rfl) rfl Sub.refl (fn_same (just_c _ _ (fl_lt hqb) (fl_lt hqb))) ?_
  rintro _ -
  rw [just_self]
  refine sl_nil ?_
  refine se_sd (fun _ w hw => ⟨hw.sub (by exact sub_), by exact all_ hw⟩) ?_
  refine sd_yes2 14 rfl (by exact gd_) (by kernel_rfl) (by kernel_rfl) (by (repeat (first | assumption | exact nop_body | refine nop_then ?_ | refine nop_block ?_)); first | done | fail) (PuI.all2 (by exact pv_Tb8)) rfl (fun w hw => ⟨hw.sub (by exact sub_), by exact all_ hw⟩) ?_
  refine sd_done (by kernel_rfl) ?_
  refine go_Tb8 ?_
  exact se_round (j + 1) (by exact has_) (by exact sub_) hjl (by show l1.length - (j + 1) < l1.length - j; omega)
end Go.Proofs.Ytidphdlhghgglaa
