/- Several texts of one claim, one behind the other (Hi, Hj). -/
import Derived.Test.YtidphdlhghgglaaB09
set_option linter.unusedVariables false
/- StatsHistograms: its walk, where the ends can be. -/
namespace Go.Proofs.Ytidphdlhghgglaa
open Go.RowKit
attribute [local irreducible] Go.Calls Go.Exit.then Go.Exit.inBlock Go.bodyPost Go.Code.wp Go.wpList
theorem le_one2 {a b : Nat} : ∀ u ∈ [Value.float .f64 a, .float .f64 b], u.oneCell' = true := by
  intro u hu
  simp only [List.mem_cons, List.not_mem_nil, or_false] at hu
  rcases hu with rfl | rfl <;> rfl
abbrev hE (A : Option Addr) (n c : Nat) (p3 : Int) (g10 gT gk j i : Nat) : Env := [(0, .slice A n c), (3, .int .i64 p3), (10, .pointer (some ⟨g10, 0, none⟩)), (39, .slice (some ⟨gT, 0, none⟩) 4 4), (40, .int .i64 4), (41, .int .i64 j), (46, .slice (some ⟨gk, 0, none⟩) 4 4), (47, .int .i64 4), (48, .int .i64 i)]
theorem sobi_ {φ ψ : Prop} (k : ψ) (h : Hide ψ → φ := by (intro k; (first | refine sc_seq ?_ | refine sc_region ?_ | refine sl_nil ?_ | refine se_seq ?_ | refine sc_cond rfl (by constructor) ?_ | refine sc_skip ?_ | refine se_blk (by first | exact .n | exact .h | exact .m rfl | exact .r | exact .p) ?_ | refine sc_exit ?_ | refine se_pass (by constructor) ?_ | refine sc_ret ?_); exact k.out)) : φ := h ⟨k⟩
/-- A piece that stands as a block's body with its own block's way out. -/
theorem sc_bpart0 {P : Program} {Q : Exit → Act → World → Prop} {n : Nat} {l : Env} {L : List Fa} {x y : Code} {α : Type} {E : α → Env} {H : α → List Fa} {R : α → Prop} {id : Nat} (hp : ∀ Q', Ends n Q' .normal E H R → SC P x (Exit.inBlock id Q') n l L) (hy : ∀ p, R p → SC P y Q n (E p) (H p)) : SC P x (Exit.inBlock id (Exit.then (fun a w => y.wp P Q a w) Q)) n l L :=
  hp _ fun p _ _ hR hl hs => se_mono (se_seq (hy p hR)) hl hs
theorem nth_Hi {φ : Prop} (h : φ := by (first | rfl | assumption)) : φ := h
theorem mid_Hi {φ : Prop} (h : φ := by (first | exact Mid.all | exact Mid.all | exact Mid.head)) : φ := h
theorem sz_Hi {φ : Prop} (h : φ := by (first | rfl | (rfl; first | done | fail))) : φ := h
theorem one_Hi {φ : Prop} (h : φ := by (first | assumption | exact first | exact one_bytes _ | exact le_one2 | (simp only [List.mem_cons, List.not_mem_nil, or_false, forall_eq_or_imp, forall_eq]; decide) | exact one_bytes _)) : φ := h
theorem set_Hi {φ : Prop} (h : φ := by (first | (fail) | ((repeat (first | exact SetAt.here | apply SetAt.there)); first | done | fail))) : φ := h
theorem cl_Hi {φ : Prop} (h : φ := by first | rfl | exact .t | exact .f | exact .t (by omega) | exact .f (by omega) | exact .u | exact .i (by (first | exact .t (by omega) | exact .f (by omega) | exact .u | exact .i (by omega) | exact .v (by omega) | exact .b (by omega) | exact .w | rfl | omega)) | exact .v (by omega) | exact .b (by omega) | exact .q (by omega) | exact .w | exact .b (by exact at_) rfl (by exact nth_Hi) | exact .w (by exact at_) rfl rfl (by exact sz_Hi) | exact .s (by exact at_) (by exact mid_Hi) rfl rfl (by exact sz_Hi) | exact .z rfl rfl ⟨by kernel_rfl⟩ | exact .b rfl rfl ⟨by kernel_rfl⟩ | exact .a rfl rfl ⟨by kernel_rfl⟩ | exact .o rfl | exact .s | exact .n | exact .p rfl | exact .q rfl | exact .c rfl | exact .d rfl | exact .n rfl rfl (by omega) | exact .a rfl rfl (by omega) | exact .p rfl rfl (by omega) (by omega) | exact .y rfl rfl (by omega) (by omega) | exact .o (by exact at_) (by omega) rfl (by exact nth_Hi) | exact .m (by exact at_) (by omega) (by exact mid_Hi) rfl rfl (by exact sz_Hi) | exact .mlen (by exact at_) rfl | exact .t (by exact at_) rfl rfl (by first | exact True.intro | rfl) (by assumption) | exact .f (by exact at_) rfl rfl (by first | exact True.intro | rfl) (by assumption) rfl | exact .t1 (by exact at_) rfl rfl (by first | exact True.intro | rfl) (by assumption) | exact .f1 (by exact at_) rfl rfl (by first | exact True.intro | rfl) (by assumption) rfl | exact .r rfl rfl (by omega) (by omega) (by exact nth_Hi) rfl | exact .s rfl (by omega) (by assumption) | exact at_ | assumption | exact .r rfl rfl | exact .h rfl rfl rfl (by omega) | exact .l rfl rfl rfl (by omega) (by omega) | exact .g rfl rfl rfl rfl (by omega) (by omega) | exact .h rfl rfl (toN_ (by omega)) (by omega) | exact .l rfl rfl (toN_ (by omega)) (by omega) (by omega) | exact .g rfl rfl (toN_ (by omega)) (toN_ (by omega)) (by omega) (by omega) | exact .o (by decide) | exact .f (by decide) | exact .n (by omega) (by first | decide | (show _ ≤ ((64 : Nat) : Int); omega)) | (constructor; (repeat (first | exact .t (by omega) | exact .f (by omega) | exact .u | exact .i (by omega) | exact .v (by omega) | exact .b (by omega) | exact .w | rfl | omega)); first | done | fail) | omega | (show _ ≤ ((64 : Nat) : Int); omega)) : φ := h
theorem pv_Hi {φ : Prop} (h : φ := by constructor; (repeat exact cl_Hi); first | done | fail) : φ := h
theorem su_Hi {φ ψ : Prop} (k : ψ) (h : Hide ψ → φ := by (intro k; (first | refine sl_pu (PuI.sep (by exact pv_Hi)) rfl ?_ | refine sl_yes rfl rfl ?_ | refine sl_no rfl rfl rfl ?_ | refine sl_off rfl rfl rfl ?_ | (first | refine sl_pu (pu_fnn rfl rfl (by with_reducible assumption)) rfl ?_ | refine sl_pu (pu_fsub rfl rfl (by with_reducible assumption)) rfl ?_ | refine sl_pu (pu_fmul rfl rfl (by with_reducible assumption)) rfl ?_ | refine sl_pu (pu_fdiv rfl rfl (by with_reducible assumption)) rfl ?_ | refine sl_pu (pu_fge rfl rfl (by with_reducible assumption)) rfl ?_ | refine sl_pu (pu_i2f rfl rfl rfl) rfl ?_)); exact k.out)) : φ := h ⟨k⟩
theorem rq_Hi {φ ψ : Prop} (k : ψ) (h : Hide ψ → φ := by (intro k; (first | refine wq_pu (PuI.sep (by exact pv_Hi)) rfl ?_ | refine wq_yes rfl rfl ?_ | refine wq_no rfl rfl rfl ?_ | refine wq_off rfl rfl rfl ?_ | (fail)); exact k.out)) : φ := h ⟨k⟩
theorem sto_Hi {φ ψ : Prop} (k : ψ) (h : Hide ψ → φ := by (intro k; (first | refine sl_store rfl (by exact pick_) rfl rfl (by kernel_rfl) (by exact set_Hi) ?_ | refine sl_store_whole rfl (by exact pick_) rfl (by exact sz_Hi) (by exact sz_Hi) (by exact one_Hi) ?_); exact k.out)) : φ := h ⟨k⟩
theorem go_Hi {φ ψ : Prop} (k : ψ) (h : Hide ψ → φ := by (intro k; (repeat (first | refine su_Hi ?_ | refine so_ ?_ | refine sto_Hi ?_)); exact k.out)) : φ := h ⟨k⟩
set_option maxRecDepth 100000 in
set_option maxHeartbeats 8000000 in
theorem pSlot {L0 : List Fa} {k y : Nat} {v0 v3 v10 v13 v14 v39 v40 v41 v46 v47 v48 v17 v18 v19 v123 v124 v125 : Value} (hk : 0 < k ∧ k < 65) (hy : fnan y = false) {Q' : Exit → Act → World → Prop}
    (hend : Ends 190 Q' .normal (fun a : Nat => [(12, .int .i64 k), (17, v17), (18, v18), (19, v19), (24, .int .i64 a), (123, v123), (124, v124), (125, v125), (0, v0), (3, v3), (10, v10), (13, v13), (14, v14), (39, v39), (40, v40), (41, v41), (46, v46), (47, v47), (48, v48)]) (fun _ => L0) (fun a => a < k ∧ slotN (fv y) k = a)) :
    SC Try.prog (cAt [false, false, false, true, false, true, true, false, false, true, true, false, false, true, true, false, false, true, true, false, false, false, false, false, false, false, false, true, false, true, true, false, false, true, true, false, false, false, false, false, true, true] (fb Try.f5)) (Exit.inBlock 7 Q') 190 [(12, .int .i64 k), (17, v17), (18, v18), (19, v19), (23, .float .f64 y), (24, .int .i64 0), (123, v123), (124, v124), (125, v125), (0, v0), (3, v3), (10, v10), (13, v13), (14, v14), (39, v39), (40, v40), (41, v41), (46, v46), (47, v47), (48, v48)] L0 := by
  refine sc_for (fun a : Nat => [(12, .int .i64 k), (17, v17), (18, v18), (19, v19), (23, .float .f64 y), (24, .int .i64 a), (123, v123), (124, v124), (125, v125), (0, v0), (3, v3), (10, v10), (13, v13), (14, v14), (39, v39), (40, v40), (41, v41), (46, v46), (47, v47), (48, v48)]) (fun _ => L0) (fun a => a < k ∧ (a = 0 ∨ (a * uN : Nat) ≤ fv y)) (fun a => k - a) 0 (by exact has_) (by exact sub_) ⟨hk.1, .inl rfl⟩ ?_
  rintro a ⟨hak, ha⟩
  by_cases hal : a + 1 < k
  · obtain ⟨f1, f2⟩ := fiN_all (a + 1) (by omega)
    have hge : (fLt (floatOfInt .f64 ((a : Int) + 1)) y || fEq y (floatOfInt .f64 ((a : Int) + 1))) = decide (((a + 1) * uN : Nat) ≤ fv y) := by
      rw [show (a : Int) + 1 = ((a + 1 : Nat) : Int) from rfl, i2f_fiN, fGe_of hy (nan_pos f2), f1]
    clear f1 f2
    by_cases hup : ((a + 1) * uN : Nat) ≤ fv y
    · have hge2 := hge.trans (decide_eq_true hup)
      clear hge
      obtain ⟨R, hR⟩ : ∃ R, R = (((a + 1) * uN : Nat) ≤ fv y) := ⟨_, rfl⟩
      rw [← hR] at hup
      clear ha
      refine go_Hi ?_
      exact se_round (a + 1) (by exact has_) (by exact sub_) ⟨hal, .inr (hR ▸ hup)⟩ (by omega)
    · have hge2 := hge.trans (decide_eq_false hup)
      clear hge
      have hsl := slot_eq hk.1 hak ha (.inr (by omega))
      clear ha hup
      refine go_Hi ?_
      exact hend a ⟨hak, hsl⟩ (by exact has_) (by exact sub_)
  · have hsl := slot_eq hk.1 hak ha (.inl (by omega))
    clear ha
    refine go_Hi ?_
    exact hend a ⟨hak, hsl⟩ (by exact has_) (by exact sub_)
set_option maxRecDepth 100000 in
set_option maxHeartbeats 16000000 in
theorem pCnt {L0 : List Fa} {lo hi k wd : Nat} {A : Option Addr} {c g17 g10 : Nat} {v3 v13 v14 v39 v40 v41 v46 v47 v48 : Value} {xs : List Nat} (hr : Vw L0 (fun w => Reads w 1 A xs.length (xs.map fl))) (hb : ∀ x ∈ xs, x < 18446744073709551616) (hn : xs.length ≤ 100) (hg10 : At (blk g10 39 [.float .f64 lo, .float .f64 hi]) L0)
    {sl tw : Bool} {ml nw : Nat} {il jw : Int} (hrl : Ieee.double.read lo = .number sl ml il) (hrw : Ieee.double.read wd = .number tw nw jw) (hnw : nw ≠ 0) (hk3 : 0 < k ∧ k < 65) {Q' : Exit → Act → World → Prop}
    (hend : Ends 190 Q' .normal (fun _ : Unit => [(12, .int .i64 k), (17, .slice (some ⟨g17, 0, none⟩) k k), (18, .int .i64 (histF lo wd k xs).2), (0, .slice A xs.length c), (3, v3), (10, .pointer (some ⟨g10, 0, none⟩)), (13, v13), (14, v14), (39, v39), (40, v40), (41, v41), (46, v46), (47, v47), (48, v48)]) (fun _ => own 3 1 (some ⟨g17, 0, none⟩) k k ((histF lo wd k xs).1.map iv) :: L0) (fun _ => True)) :
    SC Try.prog (cAt [false, false, false, true, false, true, true, false, false, true, true, false, false, true, true, false, false, true, true, false, false, false, false, false, false, false, false, true, false, true] (fb Try.f5)) (Exit.inBlock 5 Q') 190 [(12, .int .i64 k), (17, .slice (some ⟨g17, 0, none⟩) k k), (18, .int .i64 0), (19, .float .f64 wd), (123, .slice A xs.length c), (124, .int .i64 xs.length), (125, .int .i64 0), (0, .slice A xs.length c), (3, v3), (10, .pointer (some ⟨g10, 0, none⟩)), (13, v13), (14, v14), (39, v39), (40, v40), (41, v41), (46, v46), (47, v47), (48, v48)] (own 3 1 (some ⟨g17, 0, none⟩) k k (((List.replicate k 0)).map iv) :: L0) := by
  refine sc_for (fun j : Nat => [(12, .int .i64 k), (17, .slice (some ⟨g17, 0, none⟩) k k), (18, .int .i64 (histF lo wd k (xs.take j)).2), (19, .float .f64 wd), (123, .slice A xs.length c), (124, .int .i64 xs.length), (125, .int .i64 j), (0, .slice A xs.length c), (3, v3), (10, .pointer (some ⟨g10, 0, none⟩)), (13, v13), (14, v14), (39, v39), (40, v40), (41, v41), (46, v46), (47, v47), (48, v48)]) (fun j => own 3 1 (some ⟨g17, 0, none⟩) k k ((histF lo wd k (xs.take j)).1.map iv) :: L0) (fun j => j ≤ xs.length) (fun j => xs.length - j) 0 (by exact has_) (by exact sub_) (Nat.zero_le _) ?_
  rintro j hj
  by_cases hlt : j < xs.length
  case neg =>
    obtain rfl : j = xs.length := by omega
    rw [List.take_length]
    refine go_Hi ?_
    exact hend () trivial (by exact has_) (by exact sub_)
  have htk : xs.take (j + 1) = xs.take j ++ [xs[j]] := List.take_succ_eq_append_getElem hlt
  have hxb := hb _ (List.getElem_mem hlt)
  have hnx : nth (xs.map fl) (j * 1) = some (.float .f64 xs[j]) := by
    rw [nth_eq, Nat.mul_one, List.getElem?_map, List.getElem?_eq_getElem hlt]
    rfl
  obtain ⟨i1, i2, i3⟩ := hist_inv lo wd k _ (xs.take j) rfl
  rw [List.length_take, Nat.min_eq_left hj] at i2 i3
  have hsn := hist_snoc lo wd k (xs.take j) xs[j]
  rw [← htk] at hsn
  generalize hH : histF lo wd k (xs.take j) = H at i1 i2 i3 hsn ⊢
  obtain ⟨cs, m⟩ := H
  dsimp only at i1 i2 i3 hsn ⊢
  refine sc_know (vw_form (L := own 3 1 (some ⟨g17, 0, none⟩) k k (cs.map iv) :: L0) (hr.mono (by exact sub_)) (by omega)) ?_
  rintro ⟨ad, rfl⟩
  refine go_Hi ?_
  refine sl_pu (pu_ldr (hr.mono (by exact sub_)) (by omega) rfl rfl hnx) rfl ?_
  cases hx : fnan xs[j] with
  | true =>
    have hnew : histF lo wd k (xs.take (j + 1)) = (cs, m + 1) := by
      rw [hsn]
      unfold hStep
      rw [hx]
      rfl
    refine go_Hi ?_
    refine se_round (j + 1) (by rw [hnew]; exact has_) (by rw [hnew]; exact sub_) hlt (by omega)
  | false =>
    obtain ⟨d, q, e1, e2, e3, w3⟩ := y_ok ⟨hxb, hx⟩ hrl hrw hnw hk3.1 hk3.2
    have hnew : histF lo wd k (xs.take (j + 1)) = (cs.set (slotN (fv (yOf lo wd k xs[j])) k) (cs.getD (slotN (fv (yOf lo wd k xs[j])) k) 0 + 1), m) := by
      rw [hsn]
      unfold hStep
      rw [hx]
      rfl
    have hget : ∀ s, cs.getD s 0 ≤ j := fun s => by
      unfold List.getD
      cases hz : cs[s]? with
      | none => exact Nat.zero_le _
      | some c => exact i2 c (List.mem_of_getElem? hz)
    rw [← i2f_fiN] at e3
    generalize hy : yOf lo wd k xs[j] = y at e3 w3 hnew ⊢
    clear hrl hrw hnw hsn hxb htk hH i2 i3 hb
    repeat (first | refine su_Hi ?_ | refine sobi_ ?_)
    refine sc_block ?_
    refine sc_bpart0 (fun Q1 hend1 => sc_env _ (by exact has_) (pSlot (v0 := .slice (some ad) xs.length c) (v10 := .pointer (some ⟨g10, 0, none⟩)) (v17 := .slice (some ⟨g17, 0, none⟩) k k) (v18 := .int .i64 m) (v19 := .float .f64 wd) (v123 := .slice (some ad) xs.length c) (v124 := .int .i64 xs.length) (v125 := .int .i64 j) (v3 := v3) (v13 := v13) (v14 := v14) (v39 := v39) (v40 := v40) (v41 := v41) (v46 := v46) (v47 := v47) (v48 := v48) hk3 w3.nn hend1)) ?_
    rintro a ⟨hak, ha⟩
    have hnc := iv_nth (l := cs) (j := a) (by omega)
    have hgc := hget a
    rw [ha] at hnew
    clear e1 e2 e3 w3 ha hy
    refine go_Hi ?_
    refine sl_sto2 rfl (at1 _ _) (by exact pick_) rfl rfl rfl (by omega) ?_
    rw [show ((cs.getD a 0 : Nat) : Int) + 1 = ((cs.getD a 0 + 1 : Nat) : Int) by omega, iv_set]
    refine go_Hi ?_
    exact se_round (j + 1) (by rw [hnew]; exact has_) (by rw [hnew]; exact sub_) hlt (by omega)
set_option maxRecDepth 100000 in
set_option maxHeartbeats 8000000 in
theorem pOk {K : List Fa} {lo hi k wd : Nat} {A : Option Addr} {c g g10 gT gk j0 i0 : Nat} {p3 : Int} {xs : List Nat} {G1 G2 : Fa} (hr : Vw K (fun w => Reads w 1 A xs.length (xs.map fl))) (hb : ∀ x ∈ xs, x < 18446744073709551616) (hn : xs.length ≤ 100)
    (hl : lo < 18446744073709551616) (hh : hi < 18446744073709551616) (hc : hCode lo hi k = 0) (hwd : subF hi lo = some wd) {Q' : Exit → Act → World → Prop} (hN : NoP Q')
    (hend : Ends 190 Q' .normal (fun _ : Unit => hE A xs.length c p3 g10 gT gk j0 i0) (fun _ => blk g10 39 [.float .f64 lo, .float .f64 hi] :: G1 :: G2 :: K) (fun _ => True)) :
    SC Try.prog (cAt [false, false, false, true, false, true, true, false, false, true, true, false, false, true, true, false, false, true, true, false, false, false, false, false, false] (fb Try.f5)) Q' 190 ((12, .int .i64 k) :: (13, .slice (some ⟨g, 0, none⟩) k k) :: (14, .int .i64 (histF lo wd k xs).2) :: hE A xs.length c p3 g10 gT gk j0 i0) (own 3 1 (some ⟨g, 0, none⟩) k k ((histF lo wd k xs).1.map iv) :: blk g10 39 [.float .f64 lo, .float .f64 hi] :: G1 :: G2 :: K) := by
  dsimp only [hE]
  obtain ⟨h1, h2, h3, ⟨hk1, hk2⟩, wd', hwd', hwl, hmx, ⟨sl, ml, il, hrl⟩, tw, nw, jw, hrw, hnw⟩ := hCode_0 hl hh hc
  obtain rfl : wd = wd' := by
    rw [hwd] at hwd'
    exact Option.some.inj hwd'
  clear hwd' hc
  have hk3 : 0 < k ∧ k < 65 := by omega
  refine go_Hi ?_
  refine sl_make (lo := .tmp 116) (i := default) (k := k) (c := k) (bytes := 8) (size := 1) (z := .int .i64 0) (e := 3) rfl rfl rfl infoI (Nat.le_refl _) (by omega) (by unfold maxLen; omega) rfl ?_
  intro g17
  rw [made_i]
  repeat (first | refine su_Hi ?_ | refine sobi_ ?_)
  refine sc_block ?_
  refine sc_bpart0 (E := fun _ : Unit => (12, .int .i64 k) :: (13, .slice (some ⟨g, 0, none⟩) k k) :: (14, .int .i64 (histF lo wd k xs).2) :: (17, .slice (some ⟨g17, 0, none⟩) k k) :: (18, .int .i64 (histF lo wd k xs).2) :: hE A xs.length c p3 g10 gT gk j0 i0) (H := fun _ => own 3 1 (some ⟨g17, 0, none⟩) k k ((histF lo wd k xs).1.map iv) :: own 3 1 (some ⟨g, 0, none⟩) k k ((histF lo wd k xs).1.map iv) :: blk g10 39 [.float .f64 lo, .float .f64 hi] :: G1 :: G2 :: K) (R := fun _ => True) (fun Q1 hend1 => sc_env _ (by exact has_) (pCnt (hi := hi) (L0 := own 3 1 (some ⟨g, 0, none⟩) k k ((histF lo wd k xs).1.map iv) :: blk g10 39 [.float .f64 lo, .float .f64 hi] :: G1 :: G2 :: K) (v3 := .int .i64 p3) (v13 := .slice (some ⟨g, 0, none⟩) k k) (v14 := .int .i64 (histF lo wd k xs).2) (v39 := .slice (some ⟨gT, 0, none⟩) 4 4) (v40 := .int .i64 4) (v41 := .int .i64 j0) (v46 := .slice (some ⟨gk, 0, none⟩) 4 4) (v47 := .int .i64 4) (v48 := .int .i64 i0) (hr.mono (by exact sub_)) hb hn (by exact at_) hrl hrw hnw hk3 (fun _ l L _ hl hs => se_mono (hend1 () trivial (by exact has_) (by exact sub_)) hl hs))) ?_
  rintro _ -
  dsimp only [hE]
  obtain ⟨i1, i2, i3⟩ := hist_inv lo wd k _ xs rfl
  generalize hHx : histF lo wd k xs = Hx at i1 i2 i3 ⊢
  obtain ⟨dsx, mx⟩ := Hx
  dsimp only at i1 i2 i3 ⊢
  refine go_Hi ?_
  refine sc_for (fun j : Nat => (13, .slice (some ⟨g, 0, none⟩) k k) :: (17, .slice (some ⟨g17, 0, none⟩) k k) :: (174, .int .i64 k) :: (175, .int .i64 j) :: hE A xs.length c p3 g10 gT gk j0 i0) (fun _ => own 3 1 (some ⟨g17, 0, none⟩) k k (dsx.map iv) :: own 3 1 (some ⟨g, 0, none⟩) k k (dsx.map iv) :: blk g10 39 [.float .f64 lo, .float .f64 hi] :: G1 :: G2 :: K) (fun j => j ≤ k) (fun j => k - j) 0 (by exact has_) (by exact sub_) (Nat.zero_le _) ?_
  rintro j hj
  dsimp only [hE]
  by_cases hlt : j < k
  case neg =>
    obtain rfl : j = k := by omega
    refine go_Hi ?_
    exact hend () trivial (by exact has_) (by exact sub_)
  have hnc := iv_nth (l := dsx) (j := j) (by omega)
  refine go_Hi ?_
  ((refine sq_region (by kernel_rfl) (by kernel_rfl) ?_; (repeat refine rq_Hi ?_); refine sq_end ?_))
  refine go_Hi ?_
  exact se_round (j + 1) (by exact has_) (by exact sub_) hlt (by omega)
end Go.Proofs.Ytidphdlhghgglaa
/- StatsHistograms: its walk. -/
namespace Go.Proofs.Ytidphdlhghgglaa
open Go.RowKit
attribute [local irreducible] Go.Calls Go.Exit.then Go.Exit.inBlock Go.bodyPost Go.Code.wp Go.wpList
theorem sobh_ {φ ψ : Prop} (k : ψ) (h : Hide ψ → φ := by (intro k; (first | refine sc_seq ?_ | refine sc_region ?_ | refine sl_nil ?_ | refine se_seq ?_ | refine sc_cond rfl (by constructor) ?_ | refine sc_skip ?_ | refine se_blk (by first | exact .n | exact .h | exact .m rfl | exact .r | exact .p) ?_ | refine sc_exit ?_ | refine se_pass (by constructor) ?_ | refine sc_ret ?_); exact k.out)) : φ := h ⟨k⟩
theorem neq_nan (x : Nat) : (!fEq x x) = fnan x := rfl
abbrev hE2 (A : Option Addr) (n c : Nat) (p3 : Int) (g10 gT gk j i : Nat) (k : Int) (B : Option Addr) (m c2 : Nat) (asd co : Int) : Env := (12, .int .i64 k) :: (13, .slice B m c2) :: (14, .int .i64 asd) :: (15, .int .i64 co) :: hE A n c p3 g10 gT gk j i
structure Pr where
  a : Nat
  b : Nat
def Pr.cells (p : Pr) : List Value := [.float .f64 p.a, .float .f64 p.b]
theorem Pr.len (p : Pr) : p.cells.length = 2 := rfl
def ii (n : Int) : Value := .int .i64 n
theorem nth_Hj {φ : Prop} (h : φ := by (first | rfl | assumption)) : φ := h
theorem mid_Hj {φ : Prop} (h : φ := by (first | assumption | exact Mid.all | exact Mid.head)) : φ := h
theorem sz_Hj {φ : Prop} (h : φ := by (first | rfl | (rfl; first | done | fail))) : φ := h
theorem one_Hj {φ : Prop} (h : φ := by (first | assumption | exact first | exact one_bytes _ | exact le_one2 | (simp only [List.mem_cons, List.not_mem_nil, or_false, forall_eq_or_imp, forall_eq]; decide) | exact one_bytes _)) : φ := h
theorem set_Hj {φ : Prop} (h : φ := by (first | (fail) | ((repeat (first | exact SetAt.here | apply SetAt.there)); first | done | fail))) : φ := h
theorem cl_Hj {φ : Prop} (h : φ := by first | rfl | exact .t | exact .f | exact .t (by omega) | exact .f (by omega) | exact .u | exact .i (by (first | exact .t (by omega) | exact .f (by omega) | exact .u | exact .i (by omega) | exact .v (by omega) | exact .b (by omega) | exact .w | rfl | omega)) | exact .v (by omega) | exact .b (by omega) | exact .q (by omega) | exact .w | exact .b (by exact at_) rfl (by exact nth_Hj) | exact .w (by exact at_) rfl rfl (by exact sz_Hj) | exact .s (by exact at_) (by exact mid_Hj) rfl rfl (by exact sz_Hj) | exact .z rfl rfl ⟨by kernel_rfl⟩ | exact .b rfl rfl ⟨by kernel_rfl⟩ | exact .a rfl rfl ⟨by kernel_rfl⟩ | exact .o rfl | exact .s | exact .n | exact .p rfl | exact .q rfl | exact .c rfl | exact .d rfl | exact .n rfl rfl (by omega) | exact .a rfl rfl (by omega) | exact .p rfl rfl (by omega) (by omega) | exact .y rfl rfl (by omega) (by omega) | exact .o (by exact at_) (by omega) rfl (by exact nth_Hj) | exact .m (by exact at_) (by omega) (by exact mid_Hj) rfl rfl (by exact sz_Hj) | exact .mlen (by exact at_) rfl | exact .t (by exact at_) rfl rfl (by first | exact True.intro | rfl) (by assumption) | exact .f (by exact at_) rfl rfl (by first | exact True.intro | rfl) (by assumption) rfl | exact .t1 (by exact at_) rfl rfl (by first | exact True.intro | rfl) (by assumption) | exact .f1 (by exact at_) rfl rfl (by first | exact True.intro | rfl) (by assumption) rfl | exact .r rfl rfl (by omega) (by omega) (by exact nth_Hj) rfl | exact .s rfl (by omega) (by assumption) | exact at_ | assumption | exact .r rfl rfl | exact .h rfl rfl rfl (by omega) | exact .l rfl rfl rfl (by omega) (by omega) | exact .g rfl rfl rfl rfl (by omega) (by omega) | exact .h rfl rfl (toN_ (by omega)) (by omega) | exact .l rfl rfl (toN_ (by omega)) (by omega) (by omega) | exact .g rfl rfl (toN_ (by omega)) (toN_ (by omega)) (by omega) (by omega) | exact .o (by decide) | exact .f (by decide) | exact .n (by omega) (by first | decide | (show _ ≤ ((64 : Nat) : Int); omega)) | (constructor; (repeat (first | exact .t (by omega) | exact .f (by omega) | exact .u | exact .i (by omega) | exact .v (by omega) | exact .b (by omega) | exact .w | rfl | omega)); first | done | fail) | omega | (show _ ≤ ((64 : Nat) : Int); omega)) : φ := h
theorem pv_Hj {φ : Prop} (h : φ := by constructor; (repeat exact cl_Hj); first | done | fail) : φ := h
theorem su_Hj {φ ψ : Prop} (k : ψ) (h : Hide ψ → φ := by (intro k; (first | refine sl_pu (PuI.sep (by exact pv_Hj)) rfl ?_ | refine sl_yes rfl rfl ?_ | refine sl_no rfl rfl rfl ?_ | refine sl_off rfl rfl rfl ?_ | (first | refine sl_pu (pu_fnn rfl rfl (by with_reducible assumption)) rfl ?_ | refine sl_pu (pu_fls rfl rfl (by with_reducible assumption)) rfl ?_ | refine sl_pu (pu_fsub rfl rfl (by with_reducible assumption)) rfl ?_ | refine sl_pu (pu_fgt rfl rfl (by with_reducible assumption)) rfl ?_)); exact k.out)) : φ := h ⟨k⟩
theorem rq_Hj {φ ψ : Prop} (k : ψ) (h : Hide ψ → φ := by (intro k; (first | refine wq_pu (PuI.sep (by exact pv_Hj)) rfl ?_ | refine wq_yes rfl rfl ?_ | refine wq_no rfl rfl rfl ?_ | refine wq_off rfl rfl rfl ?_ | (fail)); exact k.out)) : φ := h ⟨k⟩
theorem sto_Hj {φ ψ : Prop} (k : ψ) (h : Hide ψ → φ := by (intro k; (first | refine sl_store rfl (by exact pick_) rfl rfl (by kernel_rfl) (by exact set_Hj) ?_ | refine sl_store_whole rfl (by exact pick_) rfl (by exact sz_Hj) (by exact sz_Hj) (by exact one_Hj) ?_); exact k.out)) : φ := h ⟨k⟩
theorem go_Hj {φ ψ : Prop} (k : ψ) (h : Hide ψ → φ := by (intro k; (repeat (first | refine su_Hj ?_ | refine so_ ?_ | refine sto_Hj ?_)); exact k.out)) : φ := h ⟨k⟩
set_option maxRecDepth 100000 in
set_option maxHeartbeats 8000000 in
theorem pWant {L0 : List Fa} {lo hi : Nat} {k : Int} {A B : Option Addr} {n c g10 gT gk j i m c2 : Nat} {p3 asd co : Int} (hl : lo < 18446744073709551616) (hh : hi < 18446744073709551616) {Q' : Exit → Act → World → Prop} (hN : NoP Q')
    (hend : Ends 190 Q' .normal (fun _ : Unit => (16, .int .i64 (hCode lo hi k)) :: hE2 A n c p3 g10 gT gk j i k B m c2 asd co) (fun _ => blk g10 39 [.float .f64 lo, .float .f64 hi] :: L0) (fun _ => True)) :
    SC Try.prog (cAt [false, false, false, true, false, true, true, false, false, true, true, false, false, true, true, false, false, true, true, false, false, false, true, true] (fb Try.f5)) Q' 190 ((16, .int .i64 0) :: hE2 A n c p3 g10 gT gk j i k B m c2 asd co) (blk g10 39 [.float .f64 lo, .float .f64 hi] :: L0) := by
  dsimp only [hE2, hE]
  cases h1 : fnan lo with
  | true =>
    have hq : hCode lo hi k = 28 := by simp [hCode, h1]
    rw [hq] at hend
    refine go_Hj ?_
    exact hend () trivial (by exact has_) (by exact sub_)
  | false =>
  cases h2 : fnan hi with
  | true =>
    have hq : hCode lo hi k = 28 := by simp [hCode, h2]
    rw [hq] at hend
    refine go_Hj ?_
    exact hend () trivial (by exact has_) (by exact sub_)
  | false =>
  cases h3 : fLt lo hi with
  | false =>
    have hq : hCode lo hi k = 6 := by simp [hCode, h1, h2, h3]
    rw [hq] at hend
    refine go_Hj ?_
    exact hend () trivial (by exact has_) (by exact sub_)
  | true =>
  obtain ⟨wd, hwd, hwl⟩ := sub_lt2 ⟨hl, h1⟩ ⟨hh, h2⟩ h3
  cases h4 : fLt maxF wd with
  | true =>
    have hq : hCode lo hi k = 6 := by simp [hCode, h1, h2, h3, h4, hwd]
    rw [hq] at hend
    unfold maxF at h4
    refine go_Hj ?_
    exact hend () trivial (by exact has_) (by exact sub_)
  | false =>
  by_cases h5 : k < 1 ∨ 64 < k
  · have hq : hCode lo hi k = 9 := by simp [hCode, h1, h2, h3, h4, hwd, h5]
    rw [hq] at hend
    unfold maxF at h4
    by_cases h6 : k < 1
    · refine go_Hj ?_
      exact hend () trivial (by exact has_) (by exact sub_)
    · refine go_Hj ?_
      exact hend () trivial (by exact has_) (by exact sub_)
  · have hq : hCode lo hi k = 0 := by simp [hCode, h1, h2, h3, h4, hwd, h5]
    rw [hq] at hend
    unfold maxF at h4
    refine go_Hj ?_
    exact hend () trivial (by exact has_) (by exact sub_)
set_option maxRecDepth 100000 in
set_option maxHeartbeats 8000000 in
theorem lawHist_ok {K : List Fa} {A : Option Addr} {c lo hi : Nat} {p3 : Int} {xs : List Nat} (hr : Vw K (fun w => Reads w 1 A xs.length (xs.map fl))) (hb : ∀ x ∈ xs, x < 18446744073709551616) (hn : xs.length ≤ 9223372036854775807) (hl : lo < 18446744073709551616) (hh : hi < 18446744073709551616) (hp : -9223372036854775808 ≤ p3 ∧ p3 ≤ 9223372036854775807) :
    Fn Try.prog 5 #[.slice A xs.length c, .float .f64 lo, .float .f64 hi, .int .i64 p3] K (Ret (fun _ : Unit => True) (fun _ => .bool true) (fun _ => K)) := by
  refine fn_enter Try.func5 rfl _ Try.ntmps5 (by simp) [(0, .slice A xs.length c), (1, .float .f64 lo), (2, .float .f64 hi), (3, .int .i64 p3)] (args_of (by simp)) ?_
  refine go_Hj ?_
  refine sl_call rfl rfl (by kernel_rfl) rfl Sub.refl awake30 ?_
  rintro _ -
  by_cases h100 : 100 < xs.length
  · refine go_Hj ?_
    exact se_ret1 () trivial rfl rfl (by exact sub_)
  refine go_Hj ?_
  refine sl_pu (pu_build (v := .agg #[.float .f64 lo, .float .f64 hi]) rfl (fun W => by kernel_rfl)) rfl ?_
  refine sl_pu (pu_build (v := .agg #[.float .f64 0, .float .f64 4620693217682128896]) rfl (fun W => by kernel_rfl)) rfl ?_
  refine sl_pu (pu_build (v := .agg #[.float .f64 13839561654909534208, .float .f64 4616189618054758400]) rfl (fun W => by kernel_rfl)) rfl ?_
  refine go_Hj ?_
  refine sl_pu (pu_build (v := .agg #[.float .f64 hi, .float .f64 lo]) rfl (fun W => by kernel_rfl)) rfl ?_
  obtain ⟨T, hT, hT4, hTb⟩ : ∃ T : List Pr, T = [⟨lo, hi⟩, ⟨0, 4620693217682128896⟩, ⟨13839561654909534208, 4616189618054758400⟩, ⟨hi, lo⟩] ∧ T.length = 4 ∧ ∀ p ∈ T, p.a < 18446744073709551616 ∧ p.b < 18446744073709551616 := by
    refine ⟨_, rfl, rfl, fun p hp => ?_⟩
    simp only [List.mem_cons, List.not_mem_nil, or_false] at hp
    rcases hp with rfl | rfl | rfl | rfl <;> refine ⟨?_, ?_⟩ <;> dsimp only <;> first | assumption | decide
  refine sl_build (size := 2) (e := 39) (cells := rows Pr.cells [⟨lo, hi⟩, ⟨0, 4620693217682128896⟩, ⟨13839561654909534208, 4616189618054758400⟩, ⟨hi, lo⟩]) rfl (fun W => by kernel_rfl) rfl (by decide) rfl ?_
  intro gT
  rw [← hT]
  clear hT
  refine go_Hj ?_
  refine sc_for (fun j : Nat => [(0, .slice A xs.length c), (3, .int .i64 p3), (39, .slice (some ⟨gT, 0, none⟩) 4 4), (40, .int .i64 4), (41, .int .i64 j)]) (fun _ => own 39 2 (some ⟨gT, 0, none⟩) 4 4 (rows Pr.cells T) :: K) (fun j => j ≤ 4) (fun j => 4 - j) 0 (by exact has_) (by exact sub_) (by omega) ?_
  intro j hj
  by_cases hlt : j < 4
  case neg =>
    refine go_Hj ?_
    exact se_ret1 () trivial rfl rfl (by exact sub_)
  obtain ⟨p, hp'⟩ : ∃ p, T[j]? = some p := ⟨_, List.getElem?_eq_getElem (by omega)⟩
  obtain ⟨ha, hb'⟩ := hTb p (List.mem_of_getElem? hp')
  have hmid := rows_mid Pr.len hp'
  obtain ⟨p0, p1⟩ := p
  unfold Pr.cells at hmid
  dsimp only at ha hb' hmid
  refine go_Hj ?_
  refine sl_alloc rfl rfl rfl ?_; intro g10
  refine sl_store_whole (cl := [.float .f64 p0, .float .f64 p1]) rfl (by exact pick_) rfl rfl (by rfl) le_one2 ?_
  refine go_Hj ?_
  obtain ⟨ks, hks, hk4⟩ : ∃ ks : List Int, ks = [p3, 8, 1, 64] ∧ ks.length = 4 := ⟨_, rfl, rfl⟩
  refine sl_build (size := 1) (e := 3) (cells := [p3, 8, 1, 64].map ii) rfl (fun W => by kernel_rfl) rfl (by decide) rfl ?_
  intro gk
  have hkb : ∀ k ∈ ks, -9223372036854775808 ≤ k ∧ k ≤ 9223372036854775807 := fun k hk => by
    rw [hks] at hk
    simp only [List.mem_cons, List.not_mem_nil, or_false] at hk
    rcases hk with rfl | rfl | rfl | rfl <;> omega
  rw [← hks]
  clear hks
  refine go_Hj ?_
  refine sc_for (fun i : Nat => hE A xs.length c p3 g10 gT gk j i) (fun _ => blk g10 39 [.float .f64 p0, .float .f64 p1] :: own 39 2 (some ⟨gT, 0, none⟩) 4 4 (rows Pr.cells T) :: own 3 1 (some ⟨gk, 0, none⟩) 4 4 (ks.map ii) :: K) (fun i => i ≤ 4) (fun i => 4 - i) 0 (by exact has_) (by exact sub_) (by omega) ?_
  intro i hi4
  dsimp only [hE]
  by_cases hil : i < 4
  case neg =>
    refine go_Hj ?_
    exact se_round (j + 1) (by exact has_) (by exact sub_) hlt (by omega)
  obtain ⟨kv, hkv, hkv2⟩ : ∃ kv, nth (ks.map ii) (i * 1) = some (.int .i64 kv) ∧ (-9223372036854775808 ≤ kv ∧ kv ≤ 9223372036854775807) := ⟨ks[i], by
    rw [nth_eq, Nat.mul_one, List.getElem?_map, List.getElem?_eq_getElem (by omega)]
    rfl, hkb _ (List.getElem_mem _)⟩
  refine go_Hj ?_
  by_cases hc : hCode p0 p1 kv = 0
  · obtain ⟨-, -, -, ⟨q1, q2⟩, wd, hwd, -⟩ := hCode_0 ha hb' hc
    obtain ⟨k, rfl⟩ : ∃ k : Nat, kv = k := ⟨kv.toNat, by omega⟩
    refine sl_call rfl rfl (by kernel_rfl) rfl Sub.refl (hist_ok (hr.mono (by exact sub_)) hb (by omega) ha hb' hc hwd) ?_
    rintro g -
    repeat (first | refine su_Hj ?_ | refine sobh_ ?_)
    refine sc_block ?_
    refine sc_bpart (E := fun _ : Unit => (16, .int .i64 (hCode p0 p1 k)) :: hE2 A xs.length c p3 g10 gT gk j i k (some ⟨g, 0, none⟩) k k (histF p0 wd k xs).2 0) (H := fun _ => blk g10 39 [.float .f64 p0, .float .f64 p1] :: own 3 1 (some ⟨g, 0, none⟩) k k ((histF p0 wd k xs).1.map iv) :: own 39 2 (some ⟨gT, 0, none⟩) 4 4 (rows Pr.cells T) :: own 3 1 (some ⟨gk, 0, none⟩) 4 4 (ks.map ii) :: K) (R := fun _ => True) (fun Q1 hN1 hend1 => sc_env _ (by exact has_) (sc_sub (by exact sub_) (pWant ha hb' hN1 hend1))) (by (repeat (first | assumption | exact nop_body | refine nop_then ?_ | refine nop_block ?_)); first | done | fail) ?_
    rintro _ -
    dsimp only [hE2, hE]
    rw [hc]
    refine sc_seq ?_
    refine sc_seq ?_
    refine sc_region ?_
    repeat refine su_Hj ?_
    refine sl_nil ?_
    refine se_seq ?_
    refine sc_cond rfl (by constructor) ?_
    refine sc_skip ?_
    refine se_seq ?_
    refine sc_seq ?_
    refine sc_seq ?_
    refine sc_region ?_
    repeat refine su_Hj ?_
    refine sl_nil ?_
    refine se_seq ?_
    refine sc_cond rfl (by constructor) ?_
    refine sc_skip ?_
    refine se_seq ?_
    refine sc_bpart (E := fun _ : Unit => hE A xs.length c p3 g10 gT gk j i) (H := fun _ => blk g10 39 [.float .f64 p0, .float .f64 p1] :: own 39 2 (some ⟨gT, 0, none⟩) 4 4 (rows Pr.cells T) :: own 3 1 (some ⟨gk, 0, none⟩) 4 4 (ks.map ii) :: K) (R := fun _ => True) (fun Q1 hN1 hend1 => sc_env _ (by exact has_) (sc_sub (by exact sub_) (pOk hr hb (by omega) ha hb' hc hwd hN1 hend1))) (by (repeat (first | assumption | exact nop_body | refine nop_then ?_ | refine nop_block ?_)); first | done | fail) ?_
    rintro _ -
    dsimp only [hE]
    refine go_Hj ?_
    exact se_round (i + 1) (by exact has_) (by exact sub_) hil (by omega)
  · refine sl_call rfl rfl (by kernel_rfl) rfl Sub.refl (hist_bad ha hb' hc) ?_
    rintro _ -
    repeat (first | refine su_Hj ?_ | refine sobh_ ?_)
    refine sc_block ?_
    refine sc_bpart (E := fun _ : Unit => (16, .int .i64 (hCode p0 p1 kv)) :: hE2 A xs.length c p3 g10 gT gk j i kv none 0 0 0 (hCode p0 p1 kv)) (H := fun _ => blk g10 39 [.float .f64 p0, .float .f64 p1] :: own 39 2 (some ⟨gT, 0, none⟩) 4 4 (rows Pr.cells T) :: own 3 1 (some ⟨gk, 0, none⟩) 4 4 (ks.map ii) :: K) (R := fun _ => True) (fun Q1 hN1 hend1 => sc_env _ (by exact has_) (sc_sub (by exact sub_) (pWant ha hb' hN1 hend1))) (by (repeat (first | assumption | exact nop_body | refine nop_then ?_ | refine nop_block ?_)); first | done | fail) ?_
    rintro _ -
    dsimp only [hE2, hE]
    refine go_Hj ?_
    exact se_round (i + 1) (by exact has_) (by exact sub_) hil (by omega)
end Go.Proofs.Ytidphdlhghgglaa
