/- Several texts of one claim, one behind the other (Jw). -/
import Derived.Test.YtemhhhikopemmaaB17
/- JournalLays. -/
namespace Go.Proofs.Ytemhhhikopemmaa
open Go.RowKit
attribute [local irreducible] Go.Calls Go.Exit.then Go.Exit.inBlock Go.bodyPost Go.Code.wp Go.wpList takeL recordL hashL recL allL
theorem own_P {e : TypeId} {size n c : Nat} {A : Option Addr} {xs : List Value} {w : World} (h : (own e size A n c xs).P w) : w.ownsRow 0 e size (.slice A n c) n xs := by
  unfold own at h
  exact h
theorem LyA_ok {K : List Fa} {k : Nat} {bs : List Int} (h : k < 1048576) (hb : bs.length ≤ 65536) : LyA K k bs = Ret (fun _ : Option Addr × Nat => True) (fun q => .tuple #[.slice q.1 (recL k bs).length q.2, .int .i64 0]) (fun q => u8o q.1 q.2 (recL k bs) :: K) := by
  unfold LyA
  rw [if_neg (by omega), if_neg (by omega), Int.toNat_natCast]
theorem Lay_code {K : List Fa} {A : Option Addr} {n c : Nat} {number : Int} {bs : List Int} (h : Rd K A n c bs) (hnb : -9223372036854775808 ≤ number ∧ number ≤ 9223372036854775807) (hn : bs.length ≤ 65536) :
    Fn Try.prog 13 #[.int .i64 number, .slice A n c] K (Ret (fun _ : Option Addr × Nat × Nat => True) (fun q => .tuple #[.slice q.1 q.2.1 q.2.2, .int .i64 (if number < 0 ∨ 1048576 ≤ number then 6 else 0)]) (fun _ => K)) := by
  have h1 := Lay_ok h hnb
  unfold LyA at h1
  by_cases hc : number < 0 ∨ 1048576 ≤ number
  · rw [if_pos hc] at h1 ⊢
    exact h1.say fun _ w _ hw => ⟨(none, 0, 0), trivial, rfl, hw⟩
  · rw [if_neg hc, if_neg (by omega)] at h1
    rw [if_neg hc]
    exact h1.say fun q w _ hw => ⟨(q.1, (recL number.toNat bs).length, q.2), trivial, rfl, hw.tl⟩
theorem nth_Jw {φ : Prop} (h : φ := by (first | rfl | rfl)) : φ := h
theorem mid_Jw {φ : Prop} (h : φ := by (first | exact Mid.all | exact Mid.all | exact Mid.head)) : φ := h
theorem sz_Jw {φ : Prop} (h : φ := by (first | rfl | (rfl; first | done | fail))) : φ := h
theorem one_Jw {φ : Prop} (h : φ := by (first | assumption | exact one_bytes _ | (simp only [List.mem_cons, List.not_mem_nil, or_false, forall_eq_or_imp, forall_eq]; decide) | exact one_bytes _)) : φ := h
theorem set_Jw {φ : Prop} (h : φ := by (first | (fail) | ((repeat (first | exact SetAt.here | apply SetAt.there)); first | done | fail))) : φ := h
theorem cl_Jw {φ : Prop} (h : φ := by first | rfl | exact .t | exact .f | exact .t (by omega) | exact .f (by omega) | exact .u | exact .i (by (first | exact .t (by omega) | exact .f (by omega) | exact .u | exact .i (by omega) | exact .v (by omega) | exact .b (by omega) | exact .w | rfl | omega)) | exact .v (by omega) | exact .b (by omega) | exact .q (by omega) | exact .w | exact .b (by exact at_) rfl (by exact nth_Jw) | exact .w (by exact at_) rfl rfl (by exact sz_Jw) | exact .s (by exact at_) (by exact mid_Jw) rfl rfl (by exact sz_Jw) | exact .z rfl rfl ⟨by kernel_rfl⟩ | exact .b rfl rfl ⟨by kernel_rfl⟩ | exact .a rfl rfl ⟨by kernel_rfl⟩ | exact .o rfl | exact .s | exact .n | exact .p rfl | exact .q rfl | exact .c rfl | exact .d rfl | exact .n rfl rfl (by omega) | exact .a rfl rfl (by omega) | exact .p rfl rfl (by omega) (by omega) | exact .y rfl rfl (by omega) (by omega) | exact .o (by exact at_) (by omega) rfl (by exact nth_Jw) | exact .m (by exact at_) (by omega) (by exact mid_Jw) rfl rfl (by exact sz_Jw) | exact .mlen (by exact at_) rfl | exact .t (by exact at_) rfl rfl (by first | exact True.intro | rfl) (by assumption) | exact .f (by exact at_) rfl rfl (by first | exact True.intro | rfl) (by assumption) rfl | exact .t1 (by exact at_) rfl rfl (by first | exact True.intro | rfl) (by assumption) | exact .f1 (by exact at_) rfl rfl (by first | exact True.intro | rfl) (by assumption) rfl | exact .r rfl rfl (by omega) (by omega) (by exact nth_Jw) rfl | exact .s rfl (by omega) (by assumption) | exact at_ | assumption | exact .r rfl rfl | exact .h rfl rfl rfl (by omega) | exact .l rfl rfl rfl (by omega) (by omega) | exact .g rfl rfl rfl rfl (by omega) (by omega) | exact .h rfl rfl (toN_ (by omega)) (by omega) | exact .l rfl rfl (toN_ (by omega)) (by omega) (by omega) | exact .g rfl rfl (toN_ (by omega)) (toN_ (by omega)) (by omega) (by omega) | exact .o (by decide) | exact .f (by decide) | exact .n (by omega) (by first | decide | (show _ ≤ ((64 : Nat) : Int); omega)) | (constructor; (repeat (first | exact .t (by omega) | exact .f (by omega) | exact .u | exact .i (by omega) | exact .v (by omega) | exact .b (by omega) | exact .w | rfl | omega)); first | done | fail) | omega | (show _ ≤ ((64 : Nat) : Int); omega)) : φ := h
theorem pv_Jw {φ : Prop} (h : φ := by constructor; (repeat exact cl_Jw); first | done | fail) : φ := h
theorem su_Jw {φ ψ : Prop} (k : ψ) (h : Hide ψ → φ := by (intro k; (first | refine sl_pu (PuI.sep (by exact pv_Jw)) rfl ?_ | refine sl_yes rfl rfl ?_ | refine sl_no rfl rfl rfl ?_ | refine sl_off rfl rfl rfl ?_ | (fail)); exact k.out)) : φ := h ⟨k⟩
theorem rq_Jw {φ ψ : Prop} (k : ψ) (h : Hide ψ → φ := by (intro k; (first | refine wq_pu (PuI.sep (by exact pv_Jw)) rfl ?_ | refine wq_yes rfl rfl ?_ | refine wq_no rfl rfl rfl ?_ | refine wq_off rfl rfl rfl ?_ | (fail)); exact k.out)) : φ := h ⟨k⟩
theorem sto_Jw {φ ψ : Prop} (k : ψ) (h : Hide ψ → φ := by (intro k; (first | refine sl_store rfl (by exact pick_) rfl rfl (by kernel_rfl) (by exact set_Jw) ?_ | refine sl_store_whole rfl (by exact pick_) rfl (by exact sz_Jw) (by exact sz_Jw) (by exact one_Jw) ?_); exact k.out)) : φ := h ⟨k⟩
theorem go_Jw {φ ψ : Prop} (k : ψ) (h : Hide ψ → φ := by (intro k; (repeat (first | refine su_Jw ?_ | refine so_ ?_ | refine sto_Jw ?_)); exact k.out)) : φ := h ⟨k⟩
set_option maxRecDepth 100000 in
set_option maxHeartbeats 1000000 in
theorem awake17 {K : List Fa} : Fn Try.prog 12 #[] K (Ret (fun _ : Unit => True) (fun _ => .bool true) (fun _ => K)) := by
  refine fn_enter Try.func12 rfl _ Try.ntmps12 (by simp) [] (args_of (by simp)) ?_
  refine go_Jw ?_
  refine sl_make (lo := .tmp 0) (i := default) (k := 49) (c := 49) (bytes := 1) (size := 1) (z := .int .u8 0) (e := 5) rfl rfl rfl (by kernel_rfl) (by decide) (by decide) (by decide) rfl ?_
  intro gz
  rw [made_u8 49 49 (by decide)]
  have h1 := Lay_ok (K := own 5 1 (some ⟨gz, 0, none⟩) 49 49 (bytes (zs 49)) :: K) (A := some ⟨gz, 0, none⟩) (n := 49) (c := 49) (number := ((0 : Nat) : Int)) (bs := zs 49) ⟨Vw.of_own (e := 5) .here, Nat.le_refl _, by decide, by decide, zs_len, zs_bytes⟩ (by decide)
  rw [LyA_ok (by decide) (by rw [zs_len]; decide), recL_len, zs_len] at h1
  refine sl_call rfl rfl (by kernel_rfl) rfl Sub.refl h1 ?_
  rintro ⟨A1, c1⟩ -
  rw [show manyL 49 * 64 = 128 from rfl]
  refine go_Jw ?_
  exact se_ret1 () trivial rfl rfl (by exact sub_)
set_option maxRecDepth 100000 in
set_option maxHeartbeats 8000000 in
theorem lawLays_ok {w : World} {R P : Option Addr} {cr cp : Nat} {number : Int} {xs : List Bx} {raw : List Int} (hx : LsW w R xs) (hxm : xs.length ≤ maxLen) (hp : Bx.ok w ⟨P, cp, raw⟩) (hnb : -9223372036854775808 ≤ number ∧ number ≤ 9223372036854775807) :
    Fn Try.prog 3 #[.slice R xs.length cr, .int .i64 number, .slice P raw.length cp] [old w] (Ret (fun _ : Unit => True) (fun _ => .bool true) (fun _ => [old w])) := by
  refine fn_enter Try.func3 rfl _ Try.ntmps3 (by simp) [(0, .slice R xs.length cr), (1, .int .i64 number), (2, .slice P raw.length cp)] (args_of (by simp)) ?_
  unfold maxLen at hxm
  have hrl : raw.length ≤ 9223372036854775807 := by
    have h1 := hp.2.2.1
    have h2 := hp.2.2.2
    unfold maxLen at h2
    exact Nat.le_trans h1 h2
  refine go_Jw ?_
  refine sl_call rfl rfl (by kernel_rfl) rfl (by exact sub_) awake17 ?_
  rintro _ -
  by_cases h12 : 12 < xs.length
  · refine go_Jw ?_
    exact se_ret1 () trivial rfl rfl (by exact sub_)
  by_cases h300 : 300 < raw.length
  · refine go_Jw ?_
    exact se_ret1 () trivial rfl rfl (by exact sub_)
  refine go_Jw ?_
  refine sc_bjoin (fun _ : Unit => [(0, .slice R xs.length cr), (1, .int .i64 number), (2, .slice P raw.length cp)]) (fun _ => [old w]) (fun _ => ∀ x ∈ xs, x.l.length ≤ 400) ?_ ?_
  · refine sc_for (fun i : Nat => [(0, .slice R xs.length cr), (1, .int .i64 number), (2, .slice P raw.length cp), (29, .slice R xs.length cr), (30, .int .i64 xs.length), (31, .int .i64 i)]) (fun _ => [old w]) (fun i => i ≤ xs.length ∧ ∀ x ∈ xs.take i, x.l.length ≤ 400) (fun i => xs.length - i) 0 (by exact has_) (by exact sub_) ⟨Nat.zero_le _, fun x hx => by simp at hx⟩ ?_
    rintro i ⟨hi, hall⟩
    by_cases hlt : i < xs.length
    · have hv : Vw [old w] (fun w => Reads w 1 R xs.length (xs.map Bx.v)) := Vw.of_old .here hx.vw
      have hxl : xs[i].l.length ≤ 9223372036854775807 := by
        have h1 := (hx.el _ (List.getElem_mem hlt)).2.2
        have h2 := h1.2
        unfold maxLen at h2
        exact Nat.le_trans h1.1 h2
      refine sc_know (vw_form hv (by omega)) ?_
      rintro ⟨ad, rfl⟩
      refine go_Jw ?_
      refine sl_pu (pu_ldr hv (by omega) rfl rfl (bx_nth hlt)) rfl ?_
      by_cases h400 : 400 < xs[i].l.length
      · refine go_Jw ?_
        exact se_ret1 () trivial rfl rfl (by exact sub_)
      · refine go_Jw ?_
        refine se_round (i + 1) (by exact has_) (by exact sub_) ⟨hlt, fun x hx => ?_⟩ (by omega)
        rw [List.take_succ_eq_append_getElem hlt] at hx
        rcases List.mem_append.1 hx with hx | hx
        · exact hall x hx
        · rw [List.mem_singleton] at hx
          subst hx
          omega
    · obtain rfl : i = xs.length := by omega
      rw [List.take_length] at hall
      refine go_Jw ?_
      exact se_mid () (by exact has_) (by exact sub_) hall
  rintro _ hall
  have hls := hx.to (fun x hx => by have := hall x hx; omega)
  have hrd := hp.rd (by show raw.length ≤ _; omega)
  replace hrd : Rd [old w] P raw.length cp raw := hrd
  obtain ⟨u, hu⟩ : ∃ u, IntKind.u64.wrap number = u := ⟨_, rfl⟩
  have hu0 : 0 ≤ u ∧ u ≤ 18446744073709551615 := by rw [← hu, IntKind.wrap_u64]; omega
  obtain ⟨k, hk⟩ : ∃ k : Nat, u % 1048576 = k := ⟨(u % 1048576).toNat, by omega⟩
  have hk2 : k < 1048576 := by omega
  refine go_Jw ?_
  rw [hu]
  refine go_Jw ?_
  rw [hk]
  refine go_Jw ?_
  have hlay := Lay_ok hrd (number := (k : Int)) (by omega)
  rw [LyA_ok hk2 (by omega)] at hlay
  refine sl_call rfl rfl (by kernel_rfl) rfl Sub.refl hlay ?_
  rintro ⟨A1, c1⟩ -
  dsimp only
  refine go_Jw ?_
  refine sl_call rfl rfl (by kernel_rfl) rfl Sub.refl (Lay_code (hrd.mono (by exact sub_)) hnb (by omega)) ?_
  rintro ⟨A2, n2, c2⟩ -
  refine go_Jw ?_
  refine sl_call rfl rfl (by kernel_rfl) rfl Sub.refl (all_ok (hls.mono (by exact sub_)) (by omega) (fun x hx => by have := hall x hx; omega)) ?_
  rintro ⟨⟨A3, c3⟩, ⟨A4, c4⟩⟩ -
  dsimp only
  have hll : ∀ y ∈ xs.map Bx.l, y.length ≤ 400 := fun y hy => by
    obtain ⟨z, hz, rfl⟩ := List.mem_map.1 hy
    exact hall z hz
  have hca : cellsA (xs.map Bx.l) ≤ 12 * 401 := by
    have h1 := cellsA_le hll
    have h2 : (xs.map Bx.l).length * (400 + 1) ≤ 12 * (400 + 1) := Nat.mul_le_mul_right _ (by simp; omega)
    omega
  obtain ⟨hs1, hs2, hs3⟩ := scan_all (ls := xs.map Bx.l) (fun y hy => by have := hll y hy; omega) (by omega)
  have hal := allL_len (xs.map Bx.l)
  have hab := allL_bytes (xs.map Bx.l) (fun y hy => by
    obtain ⟨z, hz, rfl⟩ := List.mem_map.1 hy
    exact (hx.el z hz).2.1)
  generalize hce : cellsA (xs.map Bx.l) = ca at hca hs1 hs2 hs3 hal ⊢
  generalize allL (xs.map Bx.l) = al at hs1 hs2 hs3 hal hab ⊢
  refine sl_know (fun w hw => (own_len (e := 5) (size := 1) (A := A3) hw (by exact at_)).2) ?_
  rintro ⟨l1, l2⟩
  refine go_Jw ?_
  have hsc := scan_ok (K := own 5 1 A3 (ca * 64) c3 (bytes al) :: own 3 1 A4 xs.length c4 (isv (endsI (xs.map Bx.l) xs.length)) :: u8o A1 c1 (recL k raw) :: [old w]) (A := A3) (n := ca * 64) (c := c3) ⟨Vw.of_own .here, l1, by omega, l2, hal, hab⟩ (by omega) hs1 hs2
  rw [hs3, ScA_yes] at hsc
  refine sl_call rfl rfl (by kernel_rfl) rfl (by exact sub_) hsc ?_
  rintro ⟨qx, qR, qc⟩ ⟨hq1, hq2⟩
  replace hq1 : qx.map Sx.l = xs.map Bx.l := hq1
  replace hq2 : ∀ x ∈ qx, x.ok := hq2
  have hql : qx.length = xs.length := by
    have := congrArg List.length hq1
    simpa using this
  have hgl : LsV [own 23 1 qR qx.length qc (sxV qx), star (sxO qx)] qR (qx.map Sx.bx) := SRow.ls (q := ⟨qx, qR, qc⟩) .here (.there .here) hq2
  have hsm : decide ((qx.map Sx.bx).map Bx.l = xs.map Bx.l) = true := decide_eq_true (by rw [SRow.ls_l (q := ⟨qx, qR, qc⟩)]; exact hq1)
  have hsame : ∀ L : List Fa, Sub L [own 23 1 qR qx.length qc (sxV qx), star (sxO qx)] → Sub L [old w] → Fn Try.prog 17 #[.slice qR qx.length qc, .slice R xs.length cr] L (Ret (fun _ : Unit => True) (fun _ => .bool true) (fun _ => L)) := fun L h1 h2 => by
    have h3 := same_ok (c := qc) (d := cr) (hgl.mono h1) (hls.mono h2) (by rw [List.length_map, hql]; omega)
    rw [hsm, List.length_map] at h3
    exact h3
  dsimp only [SRow.row, SRow.st]
  by_cases hc : number < 0 ∨ 1048576 ≤ number
  · rw [if_pos hc]
    by_cases hc0 : number < 0
    · refine go_Jw ?_
      refine sd_drawn (fun W => AllP W [own 5 1 A1 (recL k raw).length c1 (bytes (recL k raw))]) (fun _ => true) (by kernel_rfl) 47 rfl ?_
      refine sd_yes2 0 rfl (by exact gd_) (by kernel_rfl) (by kernel_rfl) (by exact nop_) (PuI.all (by exact pv_Jw)) rfl (fun w hw => all_ hw) ?_
      refine sd_yes2 1 rfl (by exact gd_) (by kernel_rfl) (by kernel_rfl) (by exact nop_) (PuI.all (by exact pv_Jw)) rfl (fun w hw => all_ hw) ?_
      refine sd_yes2 2 rfl (by exact gd_) (by kernel_rfl) (by kernel_rfl) (by exact nop_) (PuI.all (by exact pv_Jw)) rfl (fun w hw => all_ hw) ?_
      first | refine sd_yes2 3 rfl (by exact gd_) (by kernel_rfl) (by kernel_rfl) (by exact nop_) (PuI.all (by exact pv_Jw)) rfl (fun w hw => all_ hw) ?_ | refine sd_off2 3 rfl (by exact gd_) (by kernel_rfl) (by kernel_rfl) (by exact nop_) rfl (fun w hw => all_ hw) ?_ | refine sd_off3 3 rfl rfl rfl (by kernel_rfl) (by kernel_rfl) (by exact nop_) rfl (fun w hw => all_ hw) ?_
      first | refine sd_yes2 4 rfl (by exact gd_) (by kernel_rfl) (by kernel_rfl) (by exact nop_) (pu_str (bs := recL k raw) rfl rfl rfl rfl (fun W hW => Reads.of_own (own_P hW.1))) rfl (fun w hw => all_ hw) ?_ | refine sd_off2 4 rfl (by exact gd_) (by kernel_rfl) (by kernel_rfl) (by exact nop_) rfl (fun w hw => all_ hw) ?_ | refine sd_off3 4 rfl rfl rfl (by kernel_rfl) (by kernel_rfl) (by exact nop_) rfl (fun w hw => all_ hw) ?_
      first | refine sd_yes2 5 rfl (by exact gd_) (by kernel_rfl) (by kernel_rfl) (by exact nop_) (PuI.all (by exact pv_Jw)) rfl (fun w hw => all_ hw) ?_ | refine sd_off2 5 rfl (by exact gd_) (by kernel_rfl) (by kernel_rfl) (by exact nop_) rfl (fun w hw => all_ hw) ?_ | refine sd_off3 5 rfl rfl rfl (by kernel_rfl) (by kernel_rfl) (by exact nop_) rfl (fun w hw => all_ hw) ?_
      first | refine sd_yes2 6 rfl (by exact gd_) (by kernel_rfl) (by kernel_rfl) (by exact nop_) (PuI.all (by exact pv_Jw)) rfl (fun w hw => all_ hw) ?_ | refine sd_off2 6 rfl (by exact gd_) (by kernel_rfl) (by kernel_rfl) (by exact nop_) rfl (fun w hw => all_ hw) ?_ | refine sd_off3 6 rfl rfl rfl (by kernel_rfl) (by kernel_rfl) (by exact nop_) rfl (fun w hw => all_ hw) ?_
      refine sd_one 7 (by kernel_rfl) (sa_sl 7 rfl ?_)
      repeat refine su_Jw ?_
      refine sl_call rfl rfl (by kernel_rfl) rfl Sub.refl (lawLay_ok (k := k) (hrd.mono (by exact sub_)) (by omega) (by omega)) ?_
      rintro ⟨A9, c9⟩ -
      dsimp only
      refine sl_nil ?_
      refine se_sd (fun _ w hw => all_ hw) ?_
      refine sd_one 8 (by kernel_rfl) (sa_sl 8 rfl ?_)
      repeat refine su_Jw ?_
      refine sl_pu (pu_strv (Vw.of_own (e := 5) (A := A9) (c := c9) (by exact at_)) rfl rfl rfl rfl) rfl ?_
      refine sl_nil ?_
      refine se_sd (fun _ w hw => all_ hw) ?_
      first | refine sd_yes2 9 rfl (by exact gd_) (by kernel_rfl) (by kernel_rfl) (by exact nop_) (PuI.all (by exact pv_Jw)) rfl (fun w hw => all_ hw) ?_ | refine sd_off2 9 rfl (by exact gd_) (by kernel_rfl) (by kernel_rfl) (by exact nop_) rfl (fun w hw => all_ hw) ?_ | refine sd_off3 9 rfl rfl rfl (by kernel_rfl) (by kernel_rfl) (by exact nop_) rfl (fun w hw => all_ hw) ?_
      refine sd_yes2 10 rfl (by exact gd_) (by kernel_rfl) (by kernel_rfl) (by exact nop_) (PuI.all (by exact pv_Jw)) rfl (fun w hw => all_ hw) ?_
      refine sd_yes2 11 rfl (by exact gd_) (by kernel_rfl) (by kernel_rfl) (by exact nop_) (PuI.all (by exact pv_Jw)) rfl (fun w hw => all_ hw) ?_
      first | refine sd_yes2 12 rfl (by exact gd_) (by kernel_rfl) (by kernel_rfl) (by exact nop_) (PuI.all (by exact pv_Jw)) rfl (fun w hw => all_ hw) ?_ | refine sd_off2 12 rfl (by exact gd_) (by kernel_rfl) (by kernel_rfl) (by exact nop_) rfl (fun w hw => all_ hw) ?_ | refine sd_off3 12 rfl rfl rfl (by kernel_rfl) (by kernel_rfl) (by exact nop_) rfl (fun w hw => all_ hw) ?_
      first | refine sd_yes2 13 rfl (by exact gd_) (by kernel_rfl) (by kernel_rfl) (by exact nop_) (PuI.all (by exact pv_Jw)) rfl (fun w hw => all_ hw) ?_ | refine sd_off2 13 rfl (by exact gd_) (by kernel_rfl) (by kernel_rfl) (by exact nop_) rfl (fun w hw => all_ hw) ?_ | refine sd_off3 13 rfl rfl rfl (by kernel_rfl) (by kernel_rfl) (by exact nop_) rfl (fun w hw => all_ hw) ?_
      first | refine sd_yes2 14 rfl (by exact gd_) (by kernel_rfl) (by kernel_rfl) (by exact nop_) (PuI.all (by exact pv_Jw)) rfl (fun w hw => all_ hw) ?_ | refine sd_off2 14 rfl (by exact gd_) (by kernel_rfl) (by kernel_rfl) (by exact nop_) rfl (fun w hw => all_ hw) ?_ | refine sd_off3 14 rfl rfl rfl (by kernel_rfl) (by kernel_rfl) (by exact nop_) rfl (fun w hw => all_ hw) ?_
      first | refine sd_yes2 15 rfl (by exact gd_) (by kernel_rfl) (by kernel_rfl) (by exact nop_) (PuI.all (by exact pv_Jw)) rfl (fun w hw => all_ hw) ?_ | refine sd_off2 15 rfl (by exact gd_) (by kernel_rfl) (by kernel_rfl) (by exact nop_) rfl (fun w hw => all_ hw) ?_ | refine sd_off3 15 rfl rfl rfl (by kernel_rfl) (by kernel_rfl) (by exact nop_) rfl (fun w hw => all_ hw) ?_
      first | refine sd_yes2 16 rfl (by exact gd_) (by kernel_rfl) (by kernel_rfl) (by exact nop_) (PuI.all (by exact pv_Jw)) rfl (fun w hw => all_ hw) ?_ | refine sd_off2 16 rfl (by exact gd_) (by kernel_rfl) (by kernel_rfl) (by exact nop_) rfl (fun w hw => all_ hw) ?_ | refine sd_off3 16 rfl rfl rfl (by kernel_rfl) (by kernel_rfl) (by exact nop_) rfl (fun w hw => all_ hw) ?_
      first | refine sd_yes2 17 rfl (by exact gd_) (by kernel_rfl) (by kernel_rfl) (by exact nop_) (PuI.all (by exact pv_Jw)) rfl (fun w hw => all_ hw) ?_ | refine sd_off2 17 rfl (by exact gd_) (by kernel_rfl) (by kernel_rfl) (by exact nop_) rfl (fun w hw => all_ hw) ?_ | refine sd_off3 17 rfl rfl rfl (by kernel_rfl) (by kernel_rfl) (by exact nop_) rfl (fun w hw => all_ hw) ?_
      first | refine sd_yes2 18 rfl (by exact gd_) (by kernel_rfl) (by kernel_rfl) (by exact nop_) (PuI.all (by exact pv_Jw)) rfl (fun w hw => all_ hw) ?_ | refine sd_off2 18 rfl (by exact gd_) (by kernel_rfl) (by kernel_rfl) (by exact nop_) rfl (fun w hw => all_ hw) ?_ | refine sd_off3 18 rfl rfl rfl (by kernel_rfl) (by kernel_rfl) (by exact nop_) rfl (fun w hw => all_ hw) ?_
      first | refine sd_yes2 19 rfl (by exact gd_) (by kernel_rfl) (by kernel_rfl) (by exact nop_) (PuI.all (by exact pv_Jw)) rfl (fun w hw => all_ hw) ?_ | refine sd_off2 19 rfl (by exact gd_) (by kernel_rfl) (by kernel_rfl) (by exact nop_) rfl (fun w hw => all_ hw) ?_ | refine sd_off3 19 rfl rfl rfl (by kernel_rfl) (by kernel_rfl) (by exact nop_) rfl (fun w hw => all_ hw) ?_
      first | refine sd_yes2 20 rfl (by exact gd_) (by kernel_rfl) (by kernel_rfl) (by exact nop_) (PuI.all (by exact pv_Jw)) rfl (fun w hw => all_ hw) ?_ | refine sd_off2 20 rfl (by exact gd_) (by kernel_rfl) (by kernel_rfl) (by exact nop_) rfl (fun w hw => all_ hw) ?_ | refine sd_off3 20 rfl rfl rfl (by kernel_rfl) (by kernel_rfl) (by exact nop_) rfl (fun w hw => all_ hw) ?_
      refine sd_yes2 21 rfl (by exact gd_) (by kernel_rfl) (by kernel_rfl) (by exact nop_) (PuI.all (by exact pv_Jw)) rfl (fun w hw => all_ hw) ?_
      refine sd_yes2 22 rfl (by exact gd_) (by kernel_rfl) (by kernel_rfl) (by exact nop_) (PuI.all (by exact pv_Jw)) rfl (fun w hw => all_ hw) ?_
      first | refine sd_yes2 23 rfl (by exact gd_) (by kernel_rfl) (by kernel_rfl) (by exact nop_) (PuI.all (by exact pv_Jw)) rfl (fun w hw => all_ hw) ?_ | refine sd_off2 23 rfl (by exact gd_) (by kernel_rfl) (by kernel_rfl) (by exact nop_) rfl (fun w hw => all_ hw) ?_ | refine sd_off3 23 rfl rfl rfl (by kernel_rfl) (by kernel_rfl) (by exact nop_) rfl (fun w hw => all_ hw) ?_
      first | refine sd_yes2 24 rfl (by exact gd_) (by kernel_rfl) (by kernel_rfl) (by exact nop_) (PuI.all (by exact pv_Jw)) rfl (fun w hw => all_ hw) ?_ | refine sd_off2 24 rfl (by exact gd_) (by kernel_rfl) (by kernel_rfl) (by exact nop_) rfl (fun w hw => all_ hw) ?_ | refine sd_off3 24 rfl rfl rfl (by kernel_rfl) (by kernel_rfl) (by exact nop_) rfl (fun w hw => all_ hw) ?_
      first | refine sd_yes2 25 rfl (by exact gd_) (by kernel_rfl) (by kernel_rfl) (by exact nop_) (PuI.all (by exact pv_Jw)) rfl (fun w hw => all_ hw) ?_ | refine sd_off2 25 rfl (by exact gd_) (by kernel_rfl) (by kernel_rfl) (by exact nop_) rfl (fun w hw => all_ hw) ?_ | refine sd_off3 25 rfl rfl rfl (by kernel_rfl) (by kernel_rfl) (by exact nop_) rfl (fun w hw => all_ hw) ?_
      first | refine sd_yes2 26 rfl (by exact gd_) (by kernel_rfl) (by kernel_rfl) (by exact nop_) (PuI.all (by exact pv_Jw)) rfl (fun w hw => all_ hw) ?_ | refine sd_off2 26 rfl (by exact gd_) (by kernel_rfl) (by kernel_rfl) (by exact nop_) rfl (fun w hw => all_ hw) ?_ | refine sd_off3 26 rfl rfl rfl (by kernel_rfl) (by kernel_rfl) (by exact nop_) rfl (fun w hw => all_ hw) ?_
      first | refine sd_yes2 27 rfl (by exact gd_) (by kernel_rfl) (by kernel_rfl) (by exact nop_) (PuI.all (by exact pv_Jw)) rfl (fun w hw => all_ hw) ?_ | refine sd_off2 27 rfl (by exact gd_) (by kernel_rfl) (by kernel_rfl) (by exact nop_) rfl (fun w hw => all_ hw) ?_ | refine sd_off3 27 rfl rfl rfl (by kernel_rfl) (by kernel_rfl) (by exact nop_) rfl (fun w hw => all_ hw) ?_
      first | refine sd_yes2 28 rfl (by exact gd_) (by kernel_rfl) (by kernel_rfl) (by exact nop_) (PuI.all (by exact pv_Jw)) rfl (fun w hw => all_ hw) ?_ | refine sd_off2 28 rfl (by exact gd_) (by kernel_rfl) (by kernel_rfl) (by exact nop_) rfl (fun w hw => all_ hw) ?_ | refine sd_off3 28 rfl rfl rfl (by kernel_rfl) (by kernel_rfl) (by exact nop_) rfl (fun w hw => all_ hw) ?_
      refine sd_yes2 29 rfl (by exact gd_) (by kernel_rfl) (by kernel_rfl) (by exact nop_) (PuI.all (by exact pv_Jw)) rfl (fun w hw => all_ hw) ?_
      refine sd_yes2 30 rfl (by exact gd_) (by kernel_rfl) (by kernel_rfl) (by exact nop_) (PuI.all (by exact pv_Jw)) rfl (fun w hw => all_ hw) ?_
      first | refine sd_yes2 31 rfl (by exact gd_) (by kernel_rfl) (by kernel_rfl) (by exact nop_) (PuI.all (by exact pv_Jw)) rfl (fun w hw => all_ hw) ?_ | refine sd_off2 31 rfl (by exact gd_) (by kernel_rfl) (by kernel_rfl) (by exact nop_) rfl (fun w hw => all_ hw) ?_ | refine sd_off3 31 rfl rfl rfl (by kernel_rfl) (by kernel_rfl) (by exact nop_) rfl (fun w hw => all_ hw) ?_
      first | refine sd_yes2 32 rfl (by exact gd_) (by kernel_rfl) (by kernel_rfl) (by exact nop_) (PuI.all (by exact pv_Jw)) rfl (fun w hw => all_ hw) ?_ | refine sd_off2 32 rfl (by exact gd_) (by kernel_rfl) (by kernel_rfl) (by exact nop_) rfl (fun w hw => all_ hw) ?_ | refine sd_off3 32 rfl rfl rfl (by kernel_rfl) (by kernel_rfl) (by exact nop_) rfl (fun w hw => all_ hw) ?_
      refine sd_yes2 33 rfl (by exact gd_) (by kernel_rfl) (by kernel_rfl) (by exact nop_) (PuI.all (by exact pv_Jw)) rfl (fun w hw => all_ hw) ?_
      refine sd_yes2 34 rfl (by exact gd_) (by kernel_rfl) (by kernel_rfl) (by exact nop_) (PuI.all (by exact pv_Jw)) rfl (fun w hw => all_ hw) ?_
      first | refine sd_yes2 35 rfl (by exact gd_) (by kernel_rfl) (by kernel_rfl) (by exact nop_) (PuI.all (by exact pv_Jw)) rfl (fun w hw => all_ hw) ?_ | refine sd_off2 35 rfl (by exact gd_) (by kernel_rfl) (by kernel_rfl) (by exact nop_) rfl (fun w hw => all_ hw) ?_ | refine sd_off3 35 rfl rfl rfl (by kernel_rfl) (by kernel_rfl) (by exact nop_) rfl (fun w hw => all_ hw) ?_
      first | refine sd_yes2 36 rfl (by exact gd_) (by kernel_rfl) (by kernel_rfl) (by exact nop_) (PuI.all (by exact pv_Jw)) rfl (fun w hw => all_ hw) ?_ | refine sd_off2 36 rfl (by exact gd_) (by kernel_rfl) (by kernel_rfl) (by exact nop_) rfl (fun w hw => all_ hw) ?_ | refine sd_off3 36 rfl rfl rfl (by kernel_rfl) (by kernel_rfl) (by exact nop_) rfl (fun w hw => all_ hw) ?_
      first | refine sd_yes2 37 rfl (by exact gd_) (by kernel_rfl) (by kernel_rfl) (by exact nop_) (PuI.all (by exact pv_Jw)) rfl (fun w hw => all_ hw) ?_ | refine sd_off2 37 rfl (by exact gd_) (by kernel_rfl) (by kernel_rfl) (by exact nop_) rfl (fun w hw => all_ hw) ?_ | refine sd_off3 37 rfl rfl rfl (by kernel_rfl) (by kernel_rfl) (by exact nop_) rfl (fun w hw => all_ hw) ?_
      first | refine sd_yes2 38 rfl (by exact gd_) (by kernel_rfl) (by kernel_rfl) (by exact nop_) (PuI.all (by exact pv_Jw)) rfl (fun w hw => all_ hw) ?_ | refine sd_off2 38 rfl (by exact gd_) (by kernel_rfl) (by kernel_rfl) (by exact nop_) rfl (fun w hw => all_ hw) ?_ | refine sd_off3 38 rfl rfl rfl (by kernel_rfl) (by kernel_rfl) (by exact nop_) rfl (fun w hw => all_ hw) ?_
      first | refine sd_yes2 39 rfl (by exact gd_) (by kernel_rfl) (by kernel_rfl) (by exact nop_) (PuI.all (by exact pv_Jw)) rfl (fun w hw => all_ hw) ?_ | refine sd_off2 39 rfl (by exact gd_) (by kernel_rfl) (by kernel_rfl) (by exact nop_) rfl (fun w hw => all_ hw) ?_ | refine sd_off3 39 rfl rfl rfl (by kernel_rfl) (by kernel_rfl) (by exact nop_) rfl (fun w hw => all_ hw) ?_
      refine sd_yes2 40 rfl (by exact gd_) (by kernel_rfl) (by kernel_rfl) (by exact nop_) (PuI.all (by exact pv_Jw)) rfl (fun w hw => all_ hw) ?_
      refine sd_yes2 41 rfl (by exact gd_) (by kernel_rfl) (by kernel_rfl) (by exact nop_) (PuI.all (by exact pv_Jw)) rfl (fun w hw => all_ hw) ?_
      first | refine sd_yes2 42 rfl (by exact gd_) (by kernel_rfl) (by kernel_rfl) (by exact nop_) (PuI.all (by exact pv_Jw)) rfl (fun w hw => all_ hw) ?_ | refine sd_off2 42 rfl (by exact gd_) (by kernel_rfl) (by kernel_rfl) (by exact nop_) rfl (fun w hw => all_ hw) ?_ | refine sd_off3 42 rfl rfl rfl (by kernel_rfl) (by kernel_rfl) (by exact nop_) rfl (fun w hw => all_ hw) ?_
      first | refine sd_yes2 43 rfl (by exact gd_) (by kernel_rfl) (by kernel_rfl) (by exact nop_) (PuI.all (by exact pv_Jw)) rfl (fun w hw => all_ hw) ?_ | refine sd_off2 43 rfl (by exact gd_) (by kernel_rfl) (by kernel_rfl) (by exact nop_) rfl (fun w hw => all_ hw) ?_ | refine sd_off3 43 rfl rfl rfl (by kernel_rfl) (by kernel_rfl) (by exact nop_) rfl (fun w hw => all_ hw) ?_
      refine sd_one 44 (by kernel_rfl) (sa_sl 44 rfl ?_)
      repeat refine su_Jw ?_
      refine sl_call rfl rfl (by kernel_rfl) rfl Sub.refl (hsame _ (by exact sub_) (by exact sub_)) ?_
      rintro _ -
      refine sl_nil ?_
      refine se_sd (fun _ w hw => all_ hw) ?_
      refine sd_yes2 45 rfl (by exact gd_) (by kernel_rfl) (by kernel_rfl) (by exact nop_) (PuI.all (by exact pv_Jw)) rfl (fun w hw => all_ hw) ?_
      refine sd_yes2 46 rfl (by exact gd_) (by kernel_rfl) (by kernel_rfl) (by exact nop_) (PuI.all (by exact pv_Jw)) rfl (fun w hw => all_ hw) ?_
      refine sd_done (by kernel_rfl) ?_
      refine go_Jw ?_
      exact se_ret1 () trivial rfl rfl (by exact sub_)
    · refine go_Jw ?_
      refine sd_drawn (fun W => AllP W [own 5 1 A1 (recL k raw).length c1 (bytes (recL k raw))]) (fun _ => true) (by kernel_rfl) 47 rfl ?_
      refine sd_yes2 0 rfl (by exact gd_) (by kernel_rfl) (by kernel_rfl) (by exact nop_) (PuI.all (by exact pv_Jw)) rfl (fun w hw => all_ hw) ?_
      refine sd_yes2 1 rfl (by exact gd_) (by kernel_rfl) (by kernel_rfl) (by exact nop_) (PuI.all (by exact pv_Jw)) rfl (fun w hw => all_ hw) ?_
      refine sd_yes2 2 rfl (by exact gd_) (by kernel_rfl) (by kernel_rfl) (by exact nop_) (PuI.all (by exact pv_Jw)) rfl (fun w hw => all_ hw) ?_
      first | refine sd_yes2 3 rfl (by exact gd_) (by kernel_rfl) (by kernel_rfl) (by exact nop_) (PuI.all (by exact pv_Jw)) rfl (fun w hw => all_ hw) ?_ | refine sd_off2 3 rfl (by exact gd_) (by kernel_rfl) (by kernel_rfl) (by exact nop_) rfl (fun w hw => all_ hw) ?_ | refine sd_off3 3 rfl rfl rfl (by kernel_rfl) (by kernel_rfl) (by exact nop_) rfl (fun w hw => all_ hw) ?_
      first | refine sd_yes2 4 rfl (by exact gd_) (by kernel_rfl) (by kernel_rfl) (by exact nop_) (pu_str (bs := recL k raw) rfl rfl rfl rfl (fun W hW => Reads.of_own (own_P hW.1))) rfl (fun w hw => all_ hw) ?_ | refine sd_off2 4 rfl (by exact gd_) (by kernel_rfl) (by kernel_rfl) (by exact nop_) rfl (fun w hw => all_ hw) ?_ | refine sd_off3 4 rfl rfl rfl (by kernel_rfl) (by kernel_rfl) (by exact nop_) rfl (fun w hw => all_ hw) ?_
      first | refine sd_yes2 5 rfl (by exact gd_) (by kernel_rfl) (by kernel_rfl) (by exact nop_) (PuI.all (by exact pv_Jw)) rfl (fun w hw => all_ hw) ?_ | refine sd_off2 5 rfl (by exact gd_) (by kernel_rfl) (by kernel_rfl) (by exact nop_) rfl (fun w hw => all_ hw) ?_ | refine sd_off3 5 rfl rfl rfl (by kernel_rfl) (by kernel_rfl) (by exact nop_) rfl (fun w hw => all_ hw) ?_
      first | refine sd_yes2 6 rfl (by exact gd_) (by kernel_rfl) (by kernel_rfl) (by exact nop_) (PuI.all (by exact pv_Jw)) rfl (fun w hw => all_ hw) ?_ | refine sd_off2 6 rfl (by exact gd_) (by kernel_rfl) (by kernel_rfl) (by exact nop_) rfl (fun w hw => all_ hw) ?_ | refine sd_off3 6 rfl rfl rfl (by kernel_rfl) (by kernel_rfl) (by exact nop_) rfl (fun w hw => all_ hw) ?_
      refine sd_one 7 (by kernel_rfl) (sa_sl 7 rfl ?_)
      repeat refine su_Jw ?_
      refine sl_call rfl rfl (by kernel_rfl) rfl Sub.refl (lawLay_ok (k := k) (hrd.mono (by exact sub_)) (by omega) (by omega)) ?_
      rintro ⟨A9, c9⟩ -
      dsimp only
      refine sl_nil ?_
      refine se_sd (fun _ w hw => all_ hw) ?_
      refine sd_one 8 (by kernel_rfl) (sa_sl 8 rfl ?_)
      repeat refine su_Jw ?_
      refine sl_pu (pu_strv (Vw.of_own (e := 5) (A := A9) (c := c9) (by exact at_)) rfl rfl rfl rfl) rfl ?_
      refine sl_nil ?_
      refine se_sd (fun _ w hw => all_ hw) ?_
      first | refine sd_yes2 9 rfl (by exact gd_) (by kernel_rfl) (by kernel_rfl) (by exact nop_) (PuI.all (by exact pv_Jw)) rfl (fun w hw => all_ hw) ?_ | refine sd_off2 9 rfl (by exact gd_) (by kernel_rfl) (by kernel_rfl) (by exact nop_) rfl (fun w hw => all_ hw) ?_ | refine sd_off3 9 rfl rfl rfl (by kernel_rfl) (by kernel_rfl) (by exact nop_) rfl (fun w hw => all_ hw) ?_
      refine sd_yes2 10 rfl (by exact gd_) (by kernel_rfl) (by kernel_rfl) (by exact nop_) (PuI.all (by exact pv_Jw)) rfl (fun w hw => all_ hw) ?_
      refine sd_yes2 11 rfl (by exact gd_) (by kernel_rfl) (by kernel_rfl) (by exact nop_) (PuI.all (by exact pv_Jw)) rfl (fun w hw => all_ hw) ?_
      first | refine sd_yes2 12 rfl (by exact gd_) (by kernel_rfl) (by kernel_rfl) (by exact nop_) (PuI.all (by exact pv_Jw)) rfl (fun w hw => all_ hw) ?_ | refine sd_off2 12 rfl (by exact gd_) (by kernel_rfl) (by kernel_rfl) (by exact nop_) rfl (fun w hw => all_ hw) ?_ | refine sd_off3 12 rfl rfl rfl (by kernel_rfl) (by kernel_rfl) (by exact nop_) rfl (fun w hw => all_ hw) ?_
      first | refine sd_yes2 13 rfl (by exact gd_) (by kernel_rfl) (by kernel_rfl) (by exact nop_) (PuI.all (by exact pv_Jw)) rfl (fun w hw => all_ hw) ?_ | refine sd_off2 13 rfl (by exact gd_) (by kernel_rfl) (by kernel_rfl) (by exact nop_) rfl (fun w hw => all_ hw) ?_ | refine sd_off3 13 rfl rfl rfl (by kernel_rfl) (by kernel_rfl) (by exact nop_) rfl (fun w hw => all_ hw) ?_
      first | refine sd_yes2 14 rfl (by exact gd_) (by kernel_rfl) (by kernel_rfl) (by exact nop_) (PuI.all (by exact pv_Jw)) rfl (fun w hw => all_ hw) ?_ | refine sd_off2 14 rfl (by exact gd_) (by kernel_rfl) (by kernel_rfl) (by exact nop_) rfl (fun w hw => all_ hw) ?_ | refine sd_off3 14 rfl rfl rfl (by kernel_rfl) (by kernel_rfl) (by exact nop_) rfl (fun w hw => all_ hw) ?_
      first | refine sd_yes2 15 rfl (by exact gd_) (by kernel_rfl) (by kernel_rfl) (by exact nop_) (PuI.all (by exact pv_Jw)) rfl (fun w hw => all_ hw) ?_ | refine sd_off2 15 rfl (by exact gd_) (by kernel_rfl) (by kernel_rfl) (by exact nop_) rfl (fun w hw => all_ hw) ?_ | refine sd_off3 15 rfl rfl rfl (by kernel_rfl) (by kernel_rfl) (by exact nop_) rfl (fun w hw => all_ hw) ?_
      first | refine sd_yes2 16 rfl (by exact gd_) (by kernel_rfl) (by kernel_rfl) (by exact nop_) (PuI.all (by exact pv_Jw)) rfl (fun w hw => all_ hw) ?_ | refine sd_off2 16 rfl (by exact gd_) (by kernel_rfl) (by kernel_rfl) (by exact nop_) rfl (fun w hw => all_ hw) ?_ | refine sd_off3 16 rfl rfl rfl (by kernel_rfl) (by kernel_rfl) (by exact nop_) rfl (fun w hw => all_ hw) ?_
      first | refine sd_yes2 17 rfl (by exact gd_) (by kernel_rfl) (by kernel_rfl) (by exact nop_) (PuI.all (by exact pv_Jw)) rfl (fun w hw => all_ hw) ?_ | refine sd_off2 17 rfl (by exact gd_) (by kernel_rfl) (by kernel_rfl) (by exact nop_) rfl (fun w hw => all_ hw) ?_ | refine sd_off3 17 rfl rfl rfl (by kernel_rfl) (by kernel_rfl) (by exact nop_) rfl (fun w hw => all_ hw) ?_
      first | refine sd_yes2 18 rfl (by exact gd_) (by kernel_rfl) (by kernel_rfl) (by exact nop_) (PuI.all (by exact pv_Jw)) rfl (fun w hw => all_ hw) ?_ | refine sd_off2 18 rfl (by exact gd_) (by kernel_rfl) (by kernel_rfl) (by exact nop_) rfl (fun w hw => all_ hw) ?_ | refine sd_off3 18 rfl rfl rfl (by kernel_rfl) (by kernel_rfl) (by exact nop_) rfl (fun w hw => all_ hw) ?_
      first | refine sd_yes2 19 rfl (by exact gd_) (by kernel_rfl) (by kernel_rfl) (by exact nop_) (PuI.all (by exact pv_Jw)) rfl (fun w hw => all_ hw) ?_ | refine sd_off2 19 rfl (by exact gd_) (by kernel_rfl) (by kernel_rfl) (by exact nop_) rfl (fun w hw => all_ hw) ?_ | refine sd_off3 19 rfl rfl rfl (by kernel_rfl) (by kernel_rfl) (by exact nop_) rfl (fun w hw => all_ hw) ?_
      first | refine sd_yes2 20 rfl (by exact gd_) (by kernel_rfl) (by kernel_rfl) (by exact nop_) (PuI.all (by exact pv_Jw)) rfl (fun w hw => all_ hw) ?_ | refine sd_off2 20 rfl (by exact gd_) (by kernel_rfl) (by kernel_rfl) (by exact nop_) rfl (fun w hw => all_ hw) ?_ | refine sd_off3 20 rfl rfl rfl (by kernel_rfl) (by kernel_rfl) (by exact nop_) rfl (fun w hw => all_ hw) ?_
      refine sd_yes2 21 rfl (by exact gd_) (by kernel_rfl) (by kernel_rfl) (by exact nop_) (PuI.all (by exact pv_Jw)) rfl (fun w hw => all_ hw) ?_
      refine sd_yes2 22 rfl (by exact gd_) (by kernel_rfl) (by kernel_rfl) (by exact nop_) (PuI.all (by exact pv_Jw)) rfl (fun w hw => all_ hw) ?_
      first | refine sd_yes2 23 rfl (by exact gd_) (by kernel_rfl) (by kernel_rfl) (by exact nop_) (PuI.all (by exact pv_Jw)) rfl (fun w hw => all_ hw) ?_ | refine sd_off2 23 rfl (by exact gd_) (by kernel_rfl) (by kernel_rfl) (by exact nop_) rfl (fun w hw => all_ hw) ?_ | refine sd_off3 23 rfl rfl rfl (by kernel_rfl) (by kernel_rfl) (by exact nop_) rfl (fun w hw => all_ hw) ?_
      first | refine sd_yes2 24 rfl (by exact gd_) (by kernel_rfl) (by kernel_rfl) (by exact nop_) (PuI.all (by exact pv_Jw)) rfl (fun w hw => all_ hw) ?_ | refine sd_off2 24 rfl (by exact gd_) (by kernel_rfl) (by kernel_rfl) (by exact nop_) rfl (fun w hw => all_ hw) ?_ | refine sd_off3 24 rfl rfl rfl (by kernel_rfl) (by kernel_rfl) (by exact nop_) rfl (fun w hw => all_ hw) ?_
      first | refine sd_yes2 25 rfl (by exact gd_) (by kernel_rfl) (by kernel_rfl) (by exact nop_) (PuI.all (by exact pv_Jw)) rfl (fun w hw => all_ hw) ?_ | refine sd_off2 25 rfl (by exact gd_) (by kernel_rfl) (by kernel_rfl) (by exact nop_) rfl (fun w hw => all_ hw) ?_ | refine sd_off3 25 rfl rfl rfl (by kernel_rfl) (by kernel_rfl) (by exact nop_) rfl (fun w hw => all_ hw) ?_
      first | refine sd_yes2 26 rfl (by exact gd_) (by kernel_rfl) (by kernel_rfl) (by exact nop_) (PuI.all (by exact pv_Jw)) rfl (fun w hw => all_ hw) ?_ | refine sd_off2 26 rfl (by exact gd_) (by kernel_rfl) (by kernel_rfl) (by exact nop_) rfl (fun w hw => all_ hw) ?_ | refine sd_off3 26 rfl rfl rfl (by kernel_rfl) (by kernel_rfl) (by exact nop_) rfl (fun w hw => all_ hw) ?_
      first | refine sd_yes2 27 rfl (by exact gd_) (by kernel_rfl) (by kernel_rfl) (by exact nop_) (PuI.all (by exact pv_Jw)) rfl (fun w hw => all_ hw) ?_ | refine sd_off2 27 rfl (by exact gd_) (by kernel_rfl) (by kernel_rfl) (by exact nop_) rfl (fun w hw => all_ hw) ?_ | refine sd_off3 27 rfl rfl rfl (by kernel_rfl) (by kernel_rfl) (by exact nop_) rfl (fun w hw => all_ hw) ?_
      first | refine sd_yes2 28 rfl (by exact gd_) (by kernel_rfl) (by kernel_rfl) (by exact nop_) (PuI.all (by exact pv_Jw)) rfl (fun w hw => all_ hw) ?_ | refine sd_off2 28 rfl (by exact gd_) (by kernel_rfl) (by kernel_rfl) (by exact nop_) rfl (fun w hw => all_ hw) ?_ | refine sd_off3 28 rfl rfl rfl (by kernel_rfl) (by kernel_rfl) (by exact nop_) rfl (fun w hw => all_ hw) ?_
      refine sd_yes2 29 rfl (by exact gd_) (by kernel_rfl) (by kernel_rfl) (by exact nop_) (PuI.all (by exact pv_Jw)) rfl (fun w hw => all_ hw) ?_
      refine sd_yes2 30 rfl (by exact gd_) (by kernel_rfl) (by kernel_rfl) (by exact nop_) (PuI.all (by exact pv_Jw)) rfl (fun w hw => all_ hw) ?_
      first | refine sd_yes2 31 rfl (by exact gd_) (by kernel_rfl) (by kernel_rfl) (by exact nop_) (PuI.all (by exact pv_Jw)) rfl (fun w hw => all_ hw) ?_ | refine sd_off2 31 rfl (by exact gd_) (by kernel_rfl) (by kernel_rfl) (by exact nop_) rfl (fun w hw => all_ hw) ?_ | refine sd_off3 31 rfl rfl rfl (by kernel_rfl) (by kernel_rfl) (by exact nop_) rfl (fun w hw => all_ hw) ?_
      first | refine sd_yes2 32 rfl (by exact gd_) (by kernel_rfl) (by kernel_rfl) (by exact nop_) (PuI.all (by exact pv_Jw)) rfl (fun w hw => all_ hw) ?_ | refine sd_off2 32 rfl (by exact gd_) (by kernel_rfl) (by kernel_rfl) (by exact nop_) rfl (fun w hw => all_ hw) ?_ | refine sd_off3 32 rfl rfl rfl (by kernel_rfl) (by kernel_rfl) (by exact nop_) rfl (fun w hw => all_ hw) ?_
      refine sd_yes2 33 rfl (by exact gd_) (by kernel_rfl) (by kernel_rfl) (by exact nop_) (PuI.all (by exact pv_Jw)) rfl (fun w hw => all_ hw) ?_
      refine sd_yes2 34 rfl (by exact gd_) (by kernel_rfl) (by kernel_rfl) (by exact nop_) (PuI.all (by exact pv_Jw)) rfl (fun w hw => all_ hw) ?_
      first | refine sd_yes2 35 rfl (by exact gd_) (by kernel_rfl) (by kernel_rfl) (by exact nop_) (PuI.all (by exact pv_Jw)) rfl (fun w hw => all_ hw) ?_ | refine sd_off2 35 rfl (by exact gd_) (by kernel_rfl) (by kernel_rfl) (by exact nop_) rfl (fun w hw => all_ hw) ?_ | refine sd_off3 35 rfl rfl rfl (by kernel_rfl) (by kernel_rfl) (by exact nop_) rfl (fun w hw => all_ hw) ?_
      first | refine sd_yes2 36 rfl (by exact gd_) (by kernel_rfl) (by kernel_rfl) (by exact nop_) (PuI.all (by exact pv_Jw)) rfl (fun w hw => all_ hw) ?_ | refine sd_off2 36 rfl (by exact gd_) (by kernel_rfl) (by kernel_rfl) (by exact nop_) rfl (fun w hw => all_ hw) ?_ | refine sd_off3 36 rfl rfl rfl (by kernel_rfl) (by kernel_rfl) (by exact nop_) rfl (fun w hw => all_ hw) ?_
      first | refine sd_yes2 37 rfl (by exact gd_) (by kernel_rfl) (by kernel_rfl) (by exact nop_) (PuI.all (by exact pv_Jw)) rfl (fun w hw => all_ hw) ?_ | refine sd_off2 37 rfl (by exact gd_) (by kernel_rfl) (by kernel_rfl) (by exact nop_) rfl (fun w hw => all_ hw) ?_ | refine sd_off3 37 rfl rfl rfl (by kernel_rfl) (by kernel_rfl) (by exact nop_) rfl (fun w hw => all_ hw) ?_
      first | refine sd_yes2 38 rfl (by exact gd_) (by kernel_rfl) (by kernel_rfl) (by exact nop_) (PuI.all (by exact pv_Jw)) rfl (fun w hw => all_ hw) ?_ | refine sd_off2 38 rfl (by exact gd_) (by kernel_rfl) (by kernel_rfl) (by exact nop_) rfl (fun w hw => all_ hw) ?_ | refine sd_off3 38 rfl rfl rfl (by kernel_rfl) (by kernel_rfl) (by exact nop_) rfl (fun w hw => all_ hw) ?_
      first | refine sd_yes2 39 rfl (by exact gd_) (by kernel_rfl) (by kernel_rfl) (by exact nop_) (PuI.all (by exact pv_Jw)) rfl (fun w hw => all_ hw) ?_ | refine sd_off2 39 rfl (by exact gd_) (by kernel_rfl) (by kernel_rfl) (by exact nop_) rfl (fun w hw => all_ hw) ?_ | refine sd_off3 39 rfl rfl rfl (by kernel_rfl) (by kernel_rfl) (by exact nop_) rfl (fun w hw => all_ hw) ?_
      refine sd_yes2 40 rfl (by exact gd_) (by kernel_rfl) (by kernel_rfl) (by exact nop_) (PuI.all (by exact pv_Jw)) rfl (fun w hw => all_ hw) ?_
      refine sd_yes2 41 rfl (by exact gd_) (by kernel_rfl) (by kernel_rfl) (by exact nop_) (PuI.all (by exact pv_Jw)) rfl (fun w hw => all_ hw) ?_
      first | refine sd_yes2 42 rfl (by exact gd_) (by kernel_rfl) (by kernel_rfl) (by exact nop_) (PuI.all (by exact pv_Jw)) rfl (fun w hw => all_ hw) ?_ | refine sd_off2 42 rfl (by exact gd_) (by kernel_rfl) (by kernel_rfl) (by exact nop_) rfl (fun w hw => all_ hw) ?_ | refine sd_off3 42 rfl rfl rfl (by kernel_rfl) (by kernel_rfl) (by exact nop_) rfl (fun w hw => all_ hw) ?_
      first | refine sd_yes2 43 rfl (by exact gd_) (by kernel_rfl) (by kernel_rfl) (by exact nop_) (PuI.all (by exact pv_Jw)) rfl (fun w hw => all_ hw) ?_ | refine sd_off2 43 rfl (by exact gd_) (by kernel_rfl) (by kernel_rfl) (by exact nop_) rfl (fun w hw => all_ hw) ?_ | refine sd_off3 43 rfl rfl rfl (by kernel_rfl) (by kernel_rfl) (by exact nop_) rfl (fun w hw => all_ hw) ?_
      refine sd_one 44 (by kernel_rfl) (sa_sl 44 rfl ?_)
      repeat refine su_Jw ?_
      refine sl_call rfl rfl (by kernel_rfl) rfl Sub.refl (hsame _ (by exact sub_) (by exact sub_)) ?_
      rintro _ -
      refine sl_nil ?_
      refine se_sd (fun _ w hw => all_ hw) ?_
      refine sd_yes2 45 rfl (by exact gd_) (by kernel_rfl) (by kernel_rfl) (by exact nop_) (PuI.all (by exact pv_Jw)) rfl (fun w hw => all_ hw) ?_
      refine sd_yes2 46 rfl (by exact gd_) (by kernel_rfl) (by kernel_rfl) (by exact nop_) (PuI.all (by exact pv_Jw)) rfl (fun w hw => all_ hw) ?_
      refine sd_done (by kernel_rfl) ?_
      refine go_Jw ?_
      exact se_ret1 () trivial rfl rfl (by exact sub_)
  · rw [if_neg hc]
    refine go_Jw ?_
    refine sd_drawn (fun W => AllP W [own 5 1 A1 (recL k raw).length c1 (bytes (recL k raw))]) (fun _ => true) (by kernel_rfl) 47 rfl ?_
    refine sd_yes2 0 rfl (by exact gd_) (by kernel_rfl) (by kernel_rfl) (by exact nop_) (PuI.all (by exact pv_Jw)) rfl (fun w hw => all_ hw) ?_
    refine sd_yes2 1 rfl (by exact gd_) (by kernel_rfl) (by kernel_rfl) (by exact nop_) (PuI.all (by exact pv_Jw)) rfl (fun w hw => all_ hw) ?_
    refine sd_yes2 2 rfl (by exact gd_) (by kernel_rfl) (by kernel_rfl) (by exact nop_) (PuI.all (by exact pv_Jw)) rfl (fun w hw => all_ hw) ?_
    first | refine sd_yes2 3 rfl (by exact gd_) (by kernel_rfl) (by kernel_rfl) (by exact nop_) (PuI.all (by exact pv_Jw)) rfl (fun w hw => all_ hw) ?_ | refine sd_off2 3 rfl (by exact gd_) (by kernel_rfl) (by kernel_rfl) (by exact nop_) rfl (fun w hw => all_ hw) ?_ | refine sd_off3 3 rfl rfl rfl (by kernel_rfl) (by kernel_rfl) (by exact nop_) rfl (fun w hw => all_ hw) ?_
    first | refine sd_yes2 4 rfl (by exact gd_) (by kernel_rfl) (by kernel_rfl) (by exact nop_) (pu_str (bs := recL k raw) rfl rfl rfl rfl (fun W hW => Reads.of_own (own_P hW.1))) rfl (fun w hw => all_ hw) ?_ | refine sd_off2 4 rfl (by exact gd_) (by kernel_rfl) (by kernel_rfl) (by exact nop_) rfl (fun w hw => all_ hw) ?_ | refine sd_off3 4 rfl rfl rfl (by kernel_rfl) (by kernel_rfl) (by exact nop_) rfl (fun w hw => all_ hw) ?_
    first | refine sd_yes2 5 rfl (by exact gd_) (by kernel_rfl) (by kernel_rfl) (by exact nop_) (PuI.all (by exact pv_Jw)) rfl (fun w hw => all_ hw) ?_ | refine sd_off2 5 rfl (by exact gd_) (by kernel_rfl) (by kernel_rfl) (by exact nop_) rfl (fun w hw => all_ hw) ?_ | refine sd_off3 5 rfl rfl rfl (by kernel_rfl) (by kernel_rfl) (by exact nop_) rfl (fun w hw => all_ hw) ?_
    first | refine sd_yes2 6 rfl (by exact gd_) (by kernel_rfl) (by kernel_rfl) (by exact nop_) (PuI.all (by exact pv_Jw)) rfl (fun w hw => all_ hw) ?_ | refine sd_off2 6 rfl (by exact gd_) (by kernel_rfl) (by kernel_rfl) (by exact nop_) rfl (fun w hw => all_ hw) ?_ | refine sd_off3 6 rfl rfl rfl (by kernel_rfl) (by kernel_rfl) (by exact nop_) rfl (fun w hw => all_ hw) ?_
    refine sd_one 7 (by kernel_rfl) (sa_sl 7 rfl ?_)
    repeat refine su_Jw ?_
    refine sl_call rfl rfl (by kernel_rfl) rfl Sub.refl (lawLay_ok (k := k) (hrd.mono (by exact sub_)) (by omega) (by omega)) ?_
    rintro ⟨A9, c9⟩ -
    dsimp only
    refine sl_nil ?_
    refine se_sd (fun _ w hw => all_ hw) ?_
    refine sd_one 8 (by kernel_rfl) (sa_sl 8 rfl ?_)
    repeat refine su_Jw ?_
    refine sl_pu (pu_strv (Vw.of_own (e := 5) (A := A9) (c := c9) (by exact at_)) rfl rfl rfl rfl) rfl ?_
    refine sl_nil ?_
    refine se_sd (fun _ w hw => all_ hw) ?_
    first | refine sd_yes2 9 rfl (by exact gd_) (by kernel_rfl) (by kernel_rfl) (by exact nop_) (PuI.all (by exact pv_Jw)) rfl (fun w hw => all_ hw) ?_ | refine sd_off2 9 rfl (by exact gd_) (by kernel_rfl) (by kernel_rfl) (by exact nop_) rfl (fun w hw => all_ hw) ?_ | refine sd_off3 9 rfl rfl rfl (by kernel_rfl) (by kernel_rfl) (by exact nop_) rfl (fun w hw => all_ hw) ?_
    refine sd_yes2 10 rfl (by exact gd_) (by kernel_rfl) (by kernel_rfl) (by exact nop_) (PuI.all (by exact pv_Jw)) rfl (fun w hw => all_ hw) ?_
    refine sd_yes2 11 rfl (by exact gd_) (by kernel_rfl) (by kernel_rfl) (by exact nop_) (PuI.all (by exact pv_Jw)) rfl (fun w hw => all_ hw) ?_
    first | refine sd_yes2 12 rfl (by exact gd_) (by kernel_rfl) (by kernel_rfl) (by exact nop_) (PuI.all (by exact pv_Jw)) rfl (fun w hw => all_ hw) ?_ | refine sd_off2 12 rfl (by exact gd_) (by kernel_rfl) (by kernel_rfl) (by exact nop_) rfl (fun w hw => all_ hw) ?_ | refine sd_off3 12 rfl rfl rfl (by kernel_rfl) (by kernel_rfl) (by exact nop_) rfl (fun w hw => all_ hw) ?_
    first | refine sd_yes2 13 rfl (by exact gd_) (by kernel_rfl) (by kernel_rfl) (by exact nop_) (PuI.all (by exact pv_Jw)) rfl (fun w hw => all_ hw) ?_ | refine sd_off2 13 rfl (by exact gd_) (by kernel_rfl) (by kernel_rfl) (by exact nop_) rfl (fun w hw => all_ hw) ?_ | refine sd_off3 13 rfl rfl rfl (by kernel_rfl) (by kernel_rfl) (by exact nop_) rfl (fun w hw => all_ hw) ?_
    first | refine sd_yes2 14 rfl (by exact gd_) (by kernel_rfl) (by kernel_rfl) (by exact nop_) (PuI.all (by exact pv_Jw)) rfl (fun w hw => all_ hw) ?_ | refine sd_off2 14 rfl (by exact gd_) (by kernel_rfl) (by kernel_rfl) (by exact nop_) rfl (fun w hw => all_ hw) ?_ | refine sd_off3 14 rfl rfl rfl (by kernel_rfl) (by kernel_rfl) (by exact nop_) rfl (fun w hw => all_ hw) ?_
    first | refine sd_yes2 15 rfl (by exact gd_) (by kernel_rfl) (by kernel_rfl) (by exact nop_) (PuI.all (by exact pv_Jw)) rfl (fun w hw => all_ hw) ?_ | refine sd_off2 15 rfl (by exact gd_) (by kernel_rfl) (by kernel_rfl) (by exact nop_) rfl (fun w hw => all_ hw) ?_ | refine sd_off3 15 rfl rfl rfl (by kernel_rfl) (by kernel_rfl) (by exact nop_) rfl (fun w hw => all_ hw) ?_
    first | refine sd_yes2 16 rfl (by exact gd_) (by kernel_rfl) (by kernel_rfl) (by exact nop_) (PuI.all (by exact pv_Jw)) rfl (fun w hw => all_ hw) ?_ | refine sd_off2 16 rfl (by exact gd_) (by kernel_rfl) (by kernel_rfl) (by exact nop_) rfl (fun w hw => all_ hw) ?_ | refine sd_off3 16 rfl rfl rfl (by kernel_rfl) (by kernel_rfl) (by exact nop_) rfl (fun w hw => all_ hw) ?_
    first | refine sd_yes2 17 rfl (by exact gd_) (by kernel_rfl) (by kernel_rfl) (by exact nop_) (PuI.all (by exact pv_Jw)) rfl (fun w hw => all_ hw) ?_ | refine sd_off2 17 rfl (by exact gd_) (by kernel_rfl) (by kernel_rfl) (by exact nop_) rfl (fun w hw => all_ hw) ?_ | refine sd_off3 17 rfl rfl rfl (by kernel_rfl) (by kernel_rfl) (by exact nop_) rfl (fun w hw => all_ hw) ?_
    first | refine sd_yes2 18 rfl (by exact gd_) (by kernel_rfl) (by kernel_rfl) (by exact nop_) (PuI.all (by exact pv_Jw)) rfl (fun w hw => all_ hw) ?_ | refine sd_off2 18 rfl (by exact gd_) (by kernel_rfl) (by kernel_rfl) (by exact nop_) rfl (fun w hw => all_ hw) ?_ | refine sd_off3 18 rfl rfl rfl (by kernel_rfl) (by kernel_rfl) (by exact nop_) rfl (fun w hw => all_ hw) ?_
    first | refine sd_yes2 19 rfl (by exact gd_) (by kernel_rfl) (by kernel_rfl) (by exact nop_) (PuI.all (by exact pv_Jw)) rfl (fun w hw => all_ hw) ?_ | refine sd_off2 19 rfl (by exact gd_) (by kernel_rfl) (by kernel_rfl) (by exact nop_) rfl (fun w hw => all_ hw) ?_ | refine sd_off3 19 rfl rfl rfl (by kernel_rfl) (by kernel_rfl) (by exact nop_) rfl (fun w hw => all_ hw) ?_
    first | refine sd_yes2 20 rfl (by exact gd_) (by kernel_rfl) (by kernel_rfl) (by exact nop_) (PuI.all (by exact pv_Jw)) rfl (fun w hw => all_ hw) ?_ | refine sd_off2 20 rfl (by exact gd_) (by kernel_rfl) (by kernel_rfl) (by exact nop_) rfl (fun w hw => all_ hw) ?_ | refine sd_off3 20 rfl rfl rfl (by kernel_rfl) (by kernel_rfl) (by exact nop_) rfl (fun w hw => all_ hw) ?_
    refine sd_yes2 21 rfl (by exact gd_) (by kernel_rfl) (by kernel_rfl) (by exact nop_) (PuI.all (by exact pv_Jw)) rfl (fun w hw => all_ hw) ?_
    refine sd_yes2 22 rfl (by exact gd_) (by kernel_rfl) (by kernel_rfl) (by exact nop_) (PuI.all (by exact pv_Jw)) rfl (fun w hw => all_ hw) ?_
    first | refine sd_yes2 23 rfl (by exact gd_) (by kernel_rfl) (by kernel_rfl) (by exact nop_) (PuI.all (by exact pv_Jw)) rfl (fun w hw => all_ hw) ?_ | refine sd_off2 23 rfl (by exact gd_) (by kernel_rfl) (by kernel_rfl) (by exact nop_) rfl (fun w hw => all_ hw) ?_ | refine sd_off3 23 rfl rfl rfl (by kernel_rfl) (by kernel_rfl) (by exact nop_) rfl (fun w hw => all_ hw) ?_
    first | refine sd_yes2 24 rfl (by exact gd_) (by kernel_rfl) (by kernel_rfl) (by exact nop_) (PuI.all (by exact pv_Jw)) rfl (fun w hw => all_ hw) ?_ | refine sd_off2 24 rfl (by exact gd_) (by kernel_rfl) (by kernel_rfl) (by exact nop_) rfl (fun w hw => all_ hw) ?_ | refine sd_off3 24 rfl rfl rfl (by kernel_rfl) (by kernel_rfl) (by exact nop_) rfl (fun w hw => all_ hw) ?_
    first | refine sd_yes2 25 rfl (by exact gd_) (by kernel_rfl) (by kernel_rfl) (by exact nop_) (PuI.all (by exact pv_Jw)) rfl (fun w hw => all_ hw) ?_ | refine sd_off2 25 rfl (by exact gd_) (by kernel_rfl) (by kernel_rfl) (by exact nop_) rfl (fun w hw => all_ hw) ?_ | refine sd_off3 25 rfl rfl rfl (by kernel_rfl) (by kernel_rfl) (by exact nop_) rfl (fun w hw => all_ hw) ?_
    first | refine sd_yes2 26 rfl (by exact gd_) (by kernel_rfl) (by kernel_rfl) (by exact nop_) (PuI.all (by exact pv_Jw)) rfl (fun w hw => all_ hw) ?_ | refine sd_off2 26 rfl (by exact gd_) (by kernel_rfl) (by kernel_rfl) (by exact nop_) rfl (fun w hw => all_ hw) ?_ | refine sd_off3 26 rfl rfl rfl (by kernel_rfl) (by kernel_rfl) (by exact nop_) rfl (fun w hw => all_ hw) ?_
    first | refine sd_yes2 27 rfl (by exact gd_) (by kernel_rfl) (by kernel_rfl) (by exact nop_) (PuI.all (by exact pv_Jw)) rfl (fun w hw => all_ hw) ?_ | refine sd_off2 27 rfl (by exact gd_) (by kernel_rfl) (by kernel_rfl) (by exact nop_) rfl (fun w hw => all_ hw) ?_ | refine sd_off3 27 rfl rfl rfl (by kernel_rfl) (by kernel_rfl) (by exact nop_) rfl (fun w hw => all_ hw) ?_
    first | refine sd_yes2 28 rfl (by exact gd_) (by kernel_rfl) (by kernel_rfl) (by exact nop_) (PuI.all (by exact pv_Jw)) rfl (fun w hw => all_ hw) ?_ | refine sd_off2 28 rfl (by exact gd_) (by kernel_rfl) (by kernel_rfl) (by exact nop_) rfl (fun w hw => all_ hw) ?_ | refine sd_off3 28 rfl rfl rfl (by kernel_rfl) (by kernel_rfl) (by exact nop_) rfl (fun w hw => all_ hw) ?_
    refine sd_yes2 29 rfl (by exact gd_) (by kernel_rfl) (by kernel_rfl) (by exact nop_) (PuI.all (by exact pv_Jw)) rfl (fun w hw => all_ hw) ?_
    refine sd_yes2 30 rfl (by exact gd_) (by kernel_rfl) (by kernel_rfl) (by exact nop_) (PuI.all (by exact pv_Jw)) rfl (fun w hw => all_ hw) ?_
    first | refine sd_yes2 31 rfl (by exact gd_) (by kernel_rfl) (by kernel_rfl) (by exact nop_) (PuI.all (by exact pv_Jw)) rfl (fun w hw => all_ hw) ?_ | refine sd_off2 31 rfl (by exact gd_) (by kernel_rfl) (by kernel_rfl) (by exact nop_) rfl (fun w hw => all_ hw) ?_ | refine sd_off3 31 rfl rfl rfl (by kernel_rfl) (by kernel_rfl) (by exact nop_) rfl (fun w hw => all_ hw) ?_
    first | refine sd_yes2 32 rfl (by exact gd_) (by kernel_rfl) (by kernel_rfl) (by exact nop_) (PuI.all (by exact pv_Jw)) rfl (fun w hw => all_ hw) ?_ | refine sd_off2 32 rfl (by exact gd_) (by kernel_rfl) (by kernel_rfl) (by exact nop_) rfl (fun w hw => all_ hw) ?_ | refine sd_off3 32 rfl rfl rfl (by kernel_rfl) (by kernel_rfl) (by exact nop_) rfl (fun w hw => all_ hw) ?_
    refine sd_yes2 33 rfl (by exact gd_) (by kernel_rfl) (by kernel_rfl) (by exact nop_) (PuI.all (by exact pv_Jw)) rfl (fun w hw => all_ hw) ?_
    refine sd_yes2 34 rfl (by exact gd_) (by kernel_rfl) (by kernel_rfl) (by exact nop_) (PuI.all (by exact pv_Jw)) rfl (fun w hw => all_ hw) ?_
    first | refine sd_yes2 35 rfl (by exact gd_) (by kernel_rfl) (by kernel_rfl) (by exact nop_) (PuI.all (by exact pv_Jw)) rfl (fun w hw => all_ hw) ?_ | refine sd_off2 35 rfl (by exact gd_) (by kernel_rfl) (by kernel_rfl) (by exact nop_) rfl (fun w hw => all_ hw) ?_ | refine sd_off3 35 rfl rfl rfl (by kernel_rfl) (by kernel_rfl) (by exact nop_) rfl (fun w hw => all_ hw) ?_
    first | refine sd_yes2 36 rfl (by exact gd_) (by kernel_rfl) (by kernel_rfl) (by exact nop_) (PuI.all (by exact pv_Jw)) rfl (fun w hw => all_ hw) ?_ | refine sd_off2 36 rfl (by exact gd_) (by kernel_rfl) (by kernel_rfl) (by exact nop_) rfl (fun w hw => all_ hw) ?_ | refine sd_off3 36 rfl rfl rfl (by kernel_rfl) (by kernel_rfl) (by exact nop_) rfl (fun w hw => all_ hw) ?_
    first | refine sd_yes2 37 rfl (by exact gd_) (by kernel_rfl) (by kernel_rfl) (by exact nop_) (PuI.all (by exact pv_Jw)) rfl (fun w hw => all_ hw) ?_ | refine sd_off2 37 rfl (by exact gd_) (by kernel_rfl) (by kernel_rfl) (by exact nop_) rfl (fun w hw => all_ hw) ?_ | refine sd_off3 37 rfl rfl rfl (by kernel_rfl) (by kernel_rfl) (by exact nop_) rfl (fun w hw => all_ hw) ?_
    first | refine sd_yes2 38 rfl (by exact gd_) (by kernel_rfl) (by kernel_rfl) (by exact nop_) (PuI.all (by exact pv_Jw)) rfl (fun w hw => all_ hw) ?_ | refine sd_off2 38 rfl (by exact gd_) (by kernel_rfl) (by kernel_rfl) (by exact nop_) rfl (fun w hw => all_ hw) ?_ | refine sd_off3 38 rfl rfl rfl (by kernel_rfl) (by kernel_rfl) (by exact nop_) rfl (fun w hw => all_ hw) ?_
    first | refine sd_yes2 39 rfl (by exact gd_) (by kernel_rfl) (by kernel_rfl) (by exact nop_) (PuI.all (by exact pv_Jw)) rfl (fun w hw => all_ hw) ?_ | refine sd_off2 39 rfl (by exact gd_) (by kernel_rfl) (by kernel_rfl) (by exact nop_) rfl (fun w hw => all_ hw) ?_ | refine sd_off3 39 rfl rfl rfl (by kernel_rfl) (by kernel_rfl) (by exact nop_) rfl (fun w hw => all_ hw) ?_
    refine sd_yes2 40 rfl (by exact gd_) (by kernel_rfl) (by kernel_rfl) (by exact nop_) (PuI.all (by exact pv_Jw)) rfl (fun w hw => all_ hw) ?_
    refine sd_yes2 41 rfl (by exact gd_) (by kernel_rfl) (by kernel_rfl) (by exact nop_) (PuI.all (by exact pv_Jw)) rfl (fun w hw => all_ hw) ?_
    first | refine sd_yes2 42 rfl (by exact gd_) (by kernel_rfl) (by kernel_rfl) (by exact nop_) (PuI.all (by exact pv_Jw)) rfl (fun w hw => all_ hw) ?_ | refine sd_off2 42 rfl (by exact gd_) (by kernel_rfl) (by kernel_rfl) (by exact nop_) rfl (fun w hw => all_ hw) ?_ | refine sd_off3 42 rfl rfl rfl (by kernel_rfl) (by kernel_rfl) (by exact nop_) rfl (fun w hw => all_ hw) ?_
    first | refine sd_yes2 43 rfl (by exact gd_) (by kernel_rfl) (by kernel_rfl) (by exact nop_) (PuI.all (by exact pv_Jw)) rfl (fun w hw => all_ hw) ?_ | refine sd_off2 43 rfl (by exact gd_) (by kernel_rfl) (by kernel_rfl) (by exact nop_) rfl (fun w hw => all_ hw) ?_ | refine sd_off3 43 rfl rfl rfl (by kernel_rfl) (by kernel_rfl) (by exact nop_) rfl (fun w hw => all_ hw) ?_
    refine sd_one 44 (by kernel_rfl) (sa_sl 44 rfl ?_)
    repeat refine su_Jw ?_
    refine sl_call rfl rfl (by kernel_rfl) rfl Sub.refl (hsame _ (by exact sub_) (by exact sub_)) ?_
    rintro _ -
    refine sl_nil ?_
    refine se_sd (fun _ w hw => all_ hw) ?_
    refine sd_yes2 45 rfl (by exact gd_) (by kernel_rfl) (by kernel_rfl) (by exact nop_) (PuI.all (by exact pv_Jw)) rfl (fun w hw => all_ hw) ?_
    refine sd_yes2 46 rfl (by exact gd_) (by kernel_rfl) (by kernel_rfl) (by exact nop_) (PuI.all (by exact pv_Jw)) rfl (fun w hw => all_ hw) ?_
    refine sd_done (by kernel_rfl) ?_
    refine go_Jw ?_
    exact se_ret1 () trivial rfl rfl (by exact sub_)
end Go.Proofs.Ytemhhhikopemmaa
