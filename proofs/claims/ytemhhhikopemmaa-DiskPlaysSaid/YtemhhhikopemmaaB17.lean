/- Several texts of one claim, one behind the other (Dqd, Dqe, Dqf). -/
import Derived.Test.YtemhhhikopemmaaB16
/- DiskPlays: a call of Turn. -/
namespace Go.Proofs.Ytemhhhikopemmaa
open Go.RowKit Go.MapKept
attribute [local irreducible] Go.Calls Go.Exit.then Go.Exit.inBlock Go.bodyPost Go.Code.wp Go.wpList
theorem nth_Dqd {φ : Prop} (h : φ := by (first | rfl | first | assumption | exact rows_nth MF.len (by assumption) rfl)) : φ := h
theorem mid_Dqd {φ : Prop} (h : φ := by (first | first | exact rows_mid MF.len (by assumption) | exact rows_mid Ac.len (by assumption) | exact Mid.all | exact Mid.head)) : φ := h
theorem sz_Dqd {φ : Prop} (h : φ := by (first | rfl | (rfl; first | done | fail))) : φ := h
theorem one_Dqd {φ : Prop} (h : φ := by (first | assumption | exact first | exact one_bytes _ | exact ff_one | exact MF.one _ | exact Ac.one _ | (simp only [List.mem_cons, List.not_mem_nil, or_false, forall_eq_or_imp, forall_eq]; decide) | exact one_bytes _)) : φ := h
theorem set_Dqd {φ : Prop} (h : φ := by (first | (fail) | ((repeat (first | exact SetAt.here | apply SetAt.there)); first | done | fail))) : φ := h
theorem cl_Dqd {φ : Prop} (h : φ := by first | rfl | exact .t | exact .f | exact .t (by omega) | exact .f (by omega) | exact .u | exact .i (by (first | exact .t (by omega) | exact .f (by omega) | exact .u | exact .i (by omega) | exact .v (by omega) | exact .b (by omega) | exact .w | rfl | omega)) | exact .v (by omega) | exact .b (by omega) | exact .q (by omega) | exact .w | exact .b (by exact at_) rfl (by exact nth_Dqd) | exact .w (by exact at_) rfl rfl (by exact sz_Dqd) | exact .s (by exact at_) (by exact mid_Dqd) rfl rfl (by exact sz_Dqd) | exact .z rfl rfl ⟨by kernel_rfl⟩ | exact .b rfl rfl ⟨by kernel_rfl⟩ | exact .a rfl rfl ⟨by kernel_rfl⟩ | exact .o rfl | exact .s | exact .n | exact .p rfl | exact .q rfl | exact .c rfl | exact .d rfl | exact .n rfl rfl (by omega) | exact .a rfl rfl (by omega) | exact .p rfl rfl (by omega) (by omega) | exact .y rfl rfl (by omega) (by omega) | exact .o (by exact at_) (by omega) rfl (by exact nth_Dqd) | exact .m (by exact at_) (by omega) (by exact mid_Dqd) rfl rfl (by exact sz_Dqd) | exact .mlen (by exact at_) rfl | exact .t (by exact at_) rfl rfl (by first | exact True.intro | rfl) (by assumption) | exact .f (by exact at_) rfl rfl (by first | exact True.intro | rfl) (by assumption) rfl | exact .t1 (by exact at_) rfl rfl (by first | exact True.intro | rfl) (by assumption) | exact .f1 (by exact at_) rfl rfl (by first | exact True.intro | rfl) (by assumption) rfl | exact .r rfl rfl (by omega) (by omega) (by exact nth_Dqd) rfl | exact .s rfl (by omega) (by assumption) | exact at_ | assumption | exact .r rfl rfl | exact .h rfl rfl rfl (by omega) | exact .l rfl rfl rfl (by omega) (by omega) | exact .g rfl rfl rfl rfl (by omega) (by omega) | exact .h rfl rfl (toN_ (by omega)) (by omega) | exact .l rfl rfl (toN_ (by omega)) (by omega) (by omega) | exact .g rfl rfl (toN_ (by omega)) (toN_ (by omega)) (by omega) (by omega) | exact .o (by decide) | exact .f (by decide) | exact .n (by omega) (by first | decide | (show _ ≤ ((64 : Nat) : Int); omega)) | (constructor; (repeat (first | exact .t (by omega) | exact .f (by omega) | exact .u | exact .i (by omega) | exact .v (by omega) | exact .b (by omega) | exact .w | rfl | omega)); first | done | fail) | omega | (show _ ≤ ((64 : Nat) : Int); omega)) : φ := h
theorem pv_Dqd {φ : Prop} (h : φ := by constructor; (repeat exact cl_Dqd); first | done | fail) : φ := h
theorem su_Dqd {φ ψ : Prop} (k : ψ) (h : Hide ψ → φ := by (intro k; (first | refine sl_pu (PuI.sep (by exact pv_Dqd)) rfl ?_ | refine sl_yes rfl rfl ?_ | refine sl_no rfl rfl rfl ?_ | refine sl_off rfl rfl rfl ?_ | (first | refine sl_pu (pu_ldo (by exact at_) (by omega) rfl (at2 _ _ _) rfl (by exact nth_Dqd)) rfl ?_ | refine sl_pu (pu_ldo (by exact at_) (by omega) rfl (at1 _ _) rfl (by exact nth_Dqd)) rfl ?_)); exact k.out)) : φ := h ⟨k⟩
theorem rq_Dqd {φ ψ : Prop} (k : ψ) (h : Hide ψ → φ := by (intro k; (first | refine wq_pu (PuI.sep (by exact pv_Dqd)) rfl ?_ | refine wq_yes rfl rfl ?_ | refine wq_no rfl rfl rfl ?_ | refine wq_off rfl rfl rfl ?_ | (first | refine wq_pu (pu_ldo (by exact at_) (by omega) rfl (at2 _ _ _) rfl (by exact nth_Dqd)) rfl ?_ | refine wq_pu (pu_ldo (by exact at_) (by omega) rfl (at1 _ _) rfl (by exact nth_Dqd)) rfl ?_)); exact k.out)) : φ := h ⟨k⟩
theorem sto_Dqd {φ ψ : Prop} (k : ψ) (h : Hide ψ → φ := by (intro k; (first | refine sl_store rfl (by exact pick_) rfl rfl (by kernel_rfl) (by exact set_Dqd) ?_ | refine sl_store_whole rfl (by exact pick_) rfl (by exact sz_Dqd) (by exact sz_Dqd) (by exact one_Dqd) ?_); exact k.out)) : φ := h ⟨k⟩
theorem go_Dqd {φ ψ : Prop} (k : ψ) (h : Hide ψ → φ := by (intro k; (repeat (first | refine su_Dqd ?_ | refine so_ ?_ | refine sto_Dqd ?_)); exact k.out)) : φ := h ⟨k⟩
theorem tbit_byte {x : Int} {k : Nat} : 0 ≤ tbit x k ∧ tbit x k < 256 := by
  have h : ∀ z : Int, 0 ≤ IntKind.u8.wrap z ∧ IntKind.u8.wrap z < 256 := fun z => by
    rw [IntKind.wrap_u8]
    omega
  unfold tbit bits
  exact h _
theorem turnL_bytes {l : List Int} {k : Nat} (h : IsBytes l) : IsBytes (turnL l k) := fun x hx => by
  rcases List.mem_or_eq_of_mem_set hx with e | rfl
  · exact h x e
  · exact tbit_byte
set_option maxRecDepth 100000 in
set_option maxHeartbeats 8000000 in
theorem pTurn {w : World} {lim : Int} {g m i n cR ck g9 ql cq : Nat} {R QA : Option Addr} {ms : List MF} {fs : List DF} {G : Fa} {a : Ac} {s : ByteArray} {p x : Int} (hd : DxOk w lim i n ms fs G a s p x) {Q' : Exit → Act → World → Prop} (hN : NoP Q') (hend : Ends 421 Q' .normal (eY g lim QA ql cq i) (hY w g m lim) (rY w lim i)) :
    SC Try.prog (cAt [false, false, false, false, false, true, false, true, true, false, false, true, true, false, false, false, false, false, false, false, false, false, false, true, false, true, false, false, false, false, false, false, false, true] (fb Try.f8)) Q' 421 (eX g lim R n cR g9 s p (usedM ms) x QA ql cq i) (hX w g m lim fs ck R n cR ms G g9 a) := by
  obtain ⟨hl1, hnm, hmi, hi60, hM, ha, hl2, hs40, hat, hx⟩ := hd
  have hu1 := hM.us
  have huN := hM.used
  have hfl := hM.len
  rcases hat with ⟨rfl, hno⟩ | ⟨j, f, rfl, hj, rfl⟩
  · have hnd := hM.no hno
    refine go_Dqd ?_
    refine sl_call rfl rfl (by kernel_rfl) rfl Sub.refl (turnD_no (by exact at_) (by exact at_) hnd) ?_
    rintro _ -
    refine go_Dqd ?_
    exact hend (⟨⟨i, R, cR, n, ms, fs, ck, G⟩, 19⟩ : Dr × Int) ⟨hnm, by show n ≤ i + 1; omega, hM⟩ (by exact has_) (by exact sub_)
  obtain ⟨X, A0, c0, bn, Y, rfl, hX⟩ := hM.split hj
  have hjl : j < n := by
    obtain ⟨h1, -⟩ := List.getElem?_eq_some_iff.1 hj
    omega
  have hfm := List.mem_of_getElem? hj
  have hfu := usedM_le hfm
  have hfc := hM.c f hfm
  have hfs := hM.sy f hfm
  have hfv := hM.vw f hfm
  refine sc_form (e := 65) (size := 3) (A := R) (m := n) (by exact at_) (by omega) ?_
  rintro gR rfl
  by_cases hx0 : x < 0
  · refine go_Dqd ?_
    refine sl_call rfl rfl (by kernel_rfl) rfl Sub.refl (turnD_range (f := ⟨f.s, A0, c0, f.l, f.sy, bn⟩) (by exact at_) (by exact at_) mid_mem (by show x < 0 ∨ 8 * (f.l.length : Int) ≤ x; omega) (by show f.l.length ≤ _; omega)) ?_
    rintro _ -
    refine go_Dqd ?_
    exact hend (⟨⟨i, some ⟨gR, 0, none⟩, cR, n, ms, X ++ ⟨f.s, A0, c0, f.l, f.sy, bn⟩ :: Y, ck, G⟩, 6⟩ : Dr × Int) ⟨hnm, by show n ≤ i + 1; omega, hM⟩ (by exact has_) (by exact sub_)
  by_cases hx1 : 8 * (f.l.length : Int) ≤ x
  · refine go_Dqd ?_
    refine sl_call rfl rfl (by kernel_rfl) rfl Sub.refl (turnD_range (f := ⟨f.s, A0, c0, f.l, f.sy, bn⟩) (by exact at_) (by exact at_) mid_mem (by show x < 0 ∨ 8 * (f.l.length : Int) ≤ x; omega) (by show f.l.length ≤ _; omega)) ?_
    rintro _ -
    refine go_Dqd ?_
    exact hend (⟨⟨i, some ⟨gR, 0, none⟩, cR, n, ms, X ++ ⟨f.s, A0, c0, f.l, f.sy, bn⟩ :: Y, ck, G⟩, 6⟩ : Dr × Int) ⟨hnm, by show n ≤ i + 1; omega, hM⟩ (by exact has_) (by exact sub_)
  obtain ⟨y, rfl⟩ : ∃ y : Nat, x = y := ⟨x.toNat, by omega⟩
  have hyl : y < 8 * f.l.length := by omega
  clear hx0 hx1
  refine go_Dqd ?_
  refine sl_call rfl rfl (by kernel_rfl) rfl Sub.refl (turnD_ok (k := y) (f := ⟨f.s, A0, c0, f.l, f.sy, bn⟩) hyl (by show f.l.length ≤ _; omega)) ?_
  rintro ⟨A1, c1⟩ -
  dsimp only
  refine go_Dqd ?_
  refine sl_build0 (e := 5) (size := 1) rfl (fun W => by kernel_rfl) rfl ?_
  intro g0
  refine go_Dqd ?_
  refine sl_app (A := some ⟨g0, 0, none⟩) (xs := []) rfl (by exact pick_) rfl (hfv.mono (by exact sub_)) (one_bytes _) rfl Try.info5 (by decide) (by decide) rfl (by unfold maxLen; omega) (by omega) ?_
  intro A2 c2
  rw [Nat.zero_add, List.nil_append]
  refine sl_know (fun w hw => (own_len (e := 5) (size := 1) (A := A2) hw .here).2) ?_
  rintro ⟨l1, -⟩
  refine sl_form (e := 5) (size := 1) (A := A2) (m := f.l.length) (by exact at_) (by omega) ?_
  rintro ga rfl
  refine go_Dqd ?_
  refine sl_sto2 rfl (at2 _ _ _) (by exact pick_) rfl rfl (by kernel_rfl) (by omega) ?_
  rw [rows_set MF.len hj (MF.set1 (l := f.l) rfl) (by decide)]
  have hj2 : (ms.set j (MF.mk f.s (some ⟨ga, 0, none⟩) c2 f.l f.sy))[j]? = some (MF.mk f.s (some ⟨ga, 0, none⟩) c2 f.l f.sy) := List.getElem?_set_self (by omega)
  have hnx : nth (bytes f.l) (((y : Int) / 8).toNat * 1) = some (.int .u8 (f.l.getD (y / 8) 0)) := by
    rw [nth_eq, Nat.mul_one, show ((y : Int) / 8).toNat = y / 8 by omega]
    simp [bytes, List.getD, show y / 8 < f.l.length by omega]
  refine go_Dqd ?_
  refine sd_drawn (fun W => AllP W [mR (some ⟨gR, 0, none⟩) n cR (ms.set j (MF.mk f.s (some ⟨ga, 0, none⟩) c2 f.l f.sy)), own 5 1 (some ⟨ga, 0, none⟩) f.l.length c2 (bytes f.l)]) (fun i => !(List.contains [14] i)) (by kernel_rfl) 15 rfl ?_
  refine sd_yes2 0 rfl (by exact gd_) (by kernel_rfl) (by kernel_rfl) (by first | assumption | exact nop_) (PuI.all (by exact pv_Dqd)) rfl (fun w hw => all_ hw) ?_
  refine sd_yes2 1 rfl (by exact gd_) (by kernel_rfl) (by kernel_rfl) (by first | assumption | exact nop_) (PuI.all (by exact pv_Dqd)) rfl (fun w hw => all_ hw) ?_
  refine sd_yes2 2 rfl (by exact gd_) (by kernel_rfl) (by kernel_rfl) (by first | assumption | exact nop_) (PuI.all (by exact pv_Dqd)) rfl (fun w hw => all_ hw) ?_
  refine sd_yes2 3 rfl (by exact gd_) (by kernel_rfl) (by kernel_rfl) (by first | assumption | exact nop_) (PuI.all (by exact pv_Dqd)) rfl (fun w hw => all_ hw) ?_
  refine sd_yes2 4 rfl (by exact gd_) (by kernel_rfl) (by kernel_rfl) (by first | assumption | exact nop_) (pu_ldoA (v := .slice (some ⟨ga, 0, none⟩) f.l.length c2) (by exact at_) (by omega) rfl (at2 _ _ _) rfl (rows_nth MF.len hj2 rfl)) rfl (fun w hw => all_ hw) ?_
  refine sd_yes2 5 rfl (by exact gd_) (by kernel_rfl) (by kernel_rfl) (by first | assumption | exact nop_) (PuI.all (by exact pv_Dqd)) rfl (fun w hw => all_ hw) ?_
  refine sd_yes2 6 rfl (by exact gd_) (by kernel_rfl) (by kernel_rfl) (by first | assumption | exact nop_) (PuI.all (by exact pv_Dqd)) rfl (fun w hw => all_ hw) ?_
  refine sd_yes2 7 rfl (by exact gd_) (by kernel_rfl) (by kernel_rfl) (by first | assumption | exact nop_) (PuI.all (by exact pv_Dqd)) rfl (fun w hw => all_ hw) ?_
  refine sd_yes2 8 rfl (by exact gd_) (by kernel_rfl) (by kernel_rfl) (by first | assumption | exact nop_) (pu_ldoA (by exact at_) (by omega) rfl (at1 _ _) rfl hnx) rfl (fun w hw => all_ hw) ?_
  refine sd_yes2 9 rfl (by exact gd_) (by kernel_rfl) (by kernel_rfl) (by first | assumption | exact nop_) (PuI.all (by exact pv_Dqd)) rfl (fun w hw => all_ hw) ?_
  refine sd_yes2 10 rfl (by exact gd_) (by kernel_rfl) (by kernel_rfl) (by first | assumption | exact nop_) (PuI.all (by exact pv_Dqd)) rfl (fun w hw => all_ hw) ?_
  refine sd_yes2 11 rfl (by exact gd_) (by kernel_rfl) (by kernel_rfl) (by first | assumption | exact nop_) (pu_shl rfl rfl (by omega) (by show _ ≤ ((8 : Nat) : Int); omega)) rfl (fun w hw => all_ hw) ?_
  refine sd_yes2 12 rfl (by exact gd_) (by kernel_rfl) (by kernel_rfl) (by first | assumption | exact nop_) (pu_xor rfl rfl) rfl (fun w hw => all_ hw) ?_
  refine sd_yes2 13 rfl (by exact gd_) (by kernel_rfl) (by kernel_rfl) (by first | assumption | exact nop_) (PuI.all (by exact pv_Dqd)) rfl (fun w hw => all_ hw) ?_
  refine sd_one 14 (by kernel_rfl) (sa_sl 14 rfl ?_)
  rw [add_none, show 0 + ((y : Int) / 8).toNat * 1 = y / 8 by omega, show ((y : Int) % 8).toNat = y % 8 by omega]
  refine sl_sto (e := 5) (size := 1) (k := f.l.length) (c := c2) (xs := bytes f.l) rfl (by exact pick_) rfl rfl rfl (by omega) ?_
  rw [bytes_set]
  refine sl_nil ?_
  refine se_sd (fun h => absurd h (by decide)) ?_
  refine sd_done (by kernel_rfl) ?_
  rw [show f.l.set (y / 8) (bits .xor .u8 (f.l.getD (y / 8) 0) (IntKind.u8.wrap (1 * 2 ^ (y % 8)))) = turnL f.l y from rfl]
  refine go_Dqd ?_
  have htl : (turnL f.l y).length = f.l.length := turnL_len
  have hC : MF.C (MF.mk f.s (some ⟨ga, 0, none⟩) c2 f.l f.sy) = MF.C (MF.mk f.s (some ⟨ga, 0, none⟩) c2 (turnL f.l y) f.sy) := by
    simp [MF.C, htl]
  have hrw : rows MF.C (ms.set j (MF.mk f.s (some ⟨ga, 0, none⟩) c2 f.l f.sy)) = rows MF.C (ms.set j (MF.mk f.s (some ⟨ga, 0, none⟩) c2 (turnL f.l y) f.sy)) := by
    have h1 : ms.set j (MF.mk f.s (some ⟨ga, 0, none⟩) c2 (turnL f.l y) f.sy) = (ms.set j (MF.mk f.s (some ⟨ga, 0, none⟩) c2 f.l f.sy)).set j (MF.mk f.s (some ⟨ga, 0, none⟩) c2 (turnL f.l y) f.sy) := by rw [List.set_set]
    rw [h1, ← rows_set (v := .int .i64 f.sy) (i := 2) MF.len hj2 (by rw [← hC]; rfl) (by decide)]
    obtain ⟨pre, post, e1, e2, e3⟩ := rows_split MF.len hj2
    rw [e1, List.set_append, if_pos (by rw [List.length_append, e2, MF.len]; omega), List.set_append_right _ _ (by omega), e2, Nat.add_sub_cancel_left]
    rfl
  rw [hrw]
  have hvy : Vw [own 5 1 (some ⟨ga, 0, none⟩) f.l.length c2 (bytes (turnL f.l y))] (fun w => Reads w 1 (some ⟨ga, 0, none⟩) f.l.length (bytes (turnL f.l y))) := Vw.of_own .here
  refine se_ent (L' := star [own 5 1 (some ⟨ga, 0, none⟩) f.l.length c2 (bytes (turnL f.l y)), G] :: [dB g m lim, dM m (X ++ ⟨f.s, A1, c1, turnL f.l y, f.sy, bn⟩ :: Y) ck, dS (X ++ ⟨f.s, A1, c1, turnL f.l y, f.sy, bn⟩ :: Y), mR (some ⟨gR, 0, none⟩) n cR (ms.set j (MF.mk f.s (some ⟨ga, 0, none⟩) c2 (turnL f.l y) f.sy)), old w]) (fun w hw => star2 w (hw.sub (by exact sub_))) ?_
  refine hend (⟨⟨i, some ⟨gR, 0, none⟩, cR, n, ms.set j (MF.mk f.s (some ⟨ga, 0, none⟩) c2 (turnL f.l y) f.sy), X ++ ⟨f.s, A1, c1, turnL f.l y, f.sy, bn⟩ :: Y, ck, star [own 5 1 (some ⟨ga, 0, none⟩) f.l.length c2 (bytes (turnL f.l y)), G]⟩, 0⟩ : Dr × Int) ⟨by show n = (ms.set j _).length; rw [List.length_set]; exact hnm, by show n ≤ i + 1; omega, hM.put hj hX rfl star2_out (by show f.sy ≤ (turnL f.l y).length; omega) (by show (turnL f.l y).length ≤ c2; omega) (turnL_bytes (hM.by' f hfm)) (fun w' hw' => ?_) (by show _ + ((turnL f.l y).length : Int) ≤ _; omega)⟩ (by exact has_) (by exact sub_)
  show Reads w' 1 (some ⟨ga, 0, none⟩) (turnL f.l y).length (bytes (turnL f.l y))
  rw [htl]
  exact hvy w' (star2_hd w' hw')
end Go.Proofs.Ytemhhhikopemmaa
/- DiskPlays: a call of Crash. -/
namespace Go.Proofs.Ytemhhhikopemmaa
open Go.RowKit Go.MapKept
attribute [local irreducible] Go.Calls Go.Exit.then Go.Exit.inBlock Go.bodyPost Go.Code.wp Go.wpList
theorem nth_Dqe {φ : Prop} (h : φ := by (first | rfl | first | assumption | exact rows_nth MF.len (by assumption) rfl)) : φ := h
theorem mid_Dqe {φ : Prop} (h : φ := by (first | first | exact rows_mid MF.len (by assumption) | exact rows_mid Ac.len (by assumption) | exact Mid.all | exact Mid.head)) : φ := h
theorem sz_Dqe {φ : Prop} (h : φ := by (first | rfl | (rfl; first | done | fail))) : φ := h
theorem one_Dqe {φ : Prop} (h : φ := by (first | assumption | exact first | exact one_bytes _ | exact ff_one | exact MF.one _ | exact Ac.one _ | (simp only [List.mem_cons, List.not_mem_nil, or_false, forall_eq_or_imp, forall_eq]; decide) | exact one_bytes _)) : φ := h
theorem set_Dqe {φ : Prop} (h : φ := by (first | (fail) | ((repeat (first | exact SetAt.here | apply SetAt.there)); first | done | fail))) : φ := h
theorem cl_Dqe {φ : Prop} (h : φ := by first | rfl | exact .t | exact .f | exact .t (by omega) | exact .f (by omega) | exact .u | exact .i (by (first | exact .t (by omega) | exact .f (by omega) | exact .u | exact .i (by omega) | exact .v (by omega) | exact .b (by omega) | exact .w | rfl | omega)) | exact .v (by omega) | exact .b (by omega) | exact .q (by omega) | exact .w | exact .b (by exact at_) rfl (by exact nth_Dqe) | exact .w (by exact at_) rfl rfl (by exact sz_Dqe) | exact .s (by exact at_) (by exact mid_Dqe) rfl rfl (by exact sz_Dqe) | exact .z rfl rfl ⟨by kernel_rfl⟩ | exact .b rfl rfl ⟨by kernel_rfl⟩ | exact .a rfl rfl ⟨by kernel_rfl⟩ | exact .o rfl | exact .s | exact .n | exact .p rfl | exact .q rfl | exact .c rfl | exact .d rfl | exact .n rfl rfl (by omega) | exact .a rfl rfl (by omega) | exact .p rfl rfl (by omega) (by omega) | exact .y rfl rfl (by omega) (by omega) | exact .o (by exact at_) (by omega) rfl (by exact nth_Dqe) | exact .m (by exact at_) (by omega) (by exact mid_Dqe) rfl rfl (by exact sz_Dqe) | exact .mlen (by exact at_) rfl | exact .t (by exact at_) rfl rfl (by first | exact True.intro | rfl) (by assumption) | exact .f (by exact at_) rfl rfl (by first | exact True.intro | rfl) (by assumption) rfl | exact .t1 (by exact at_) rfl rfl (by first | exact True.intro | rfl) (by assumption) | exact .f1 (by exact at_) rfl rfl (by first | exact True.intro | rfl) (by assumption) rfl | exact .r rfl rfl (by omega) (by omega) (by exact nth_Dqe) rfl | exact .s rfl (by omega) (by assumption) | exact at_ | assumption | exact .r rfl rfl | exact .h rfl rfl rfl (by omega) | exact .l rfl rfl rfl (by omega) (by omega) | exact .g rfl rfl rfl rfl (by omega) (by omega) | exact .h rfl rfl (toN_ (by omega)) (by omega) | exact .l rfl rfl (toN_ (by omega)) (by omega) (by omega) | exact .g rfl rfl (toN_ (by omega)) (toN_ (by omega)) (by omega) (by omega) | exact .o (by decide) | exact .f (by decide) | exact .n (by omega) (by first | decide | (show _ ≤ ((64 : Nat) : Int); omega)) | (constructor; (repeat (first | exact .t (by omega) | exact .f (by omega) | exact .u | exact .i (by omega) | exact .v (by omega) | exact .b (by omega) | exact .w | rfl | omega)); first | done | fail) | omega | (show _ ≤ ((64 : Nat) : Int); omega)) : φ := h
theorem pv_Dqe {φ : Prop} (h : φ := by constructor; (repeat exact cl_Dqe); first | done | fail) : φ := h
theorem su_Dqe {φ ψ : Prop} (k : ψ) (h : Hide ψ → φ := by (intro k; (first | refine sl_pu (PuI.sep (by exact pv_Dqe)) rfl ?_ | refine sl_yes rfl rfl ?_ | refine sl_no rfl rfl rfl ?_ | refine sl_off rfl rfl rfl ?_ | (first | refine sl_pu (pu_ldo (by exact at_) (by omega) rfl (at2 _ _ _) rfl (by exact nth_Dqe)) rfl ?_ | refine sl_pu (pu_ldo (by exact at_) (by omega) rfl (at1 _ _) rfl (by exact nth_Dqe)) rfl ?_)); exact k.out)) : φ := h ⟨k⟩
theorem rq_Dqe {φ ψ : Prop} (k : ψ) (h : Hide ψ → φ := by (intro k; (first | refine wq_pu (PuI.sep (by exact pv_Dqe)) rfl ?_ | refine wq_yes rfl rfl ?_ | refine wq_no rfl rfl rfl ?_ | refine wq_off rfl rfl rfl ?_ | (first | refine wq_pu (pu_ldo (by exact at_) (by omega) rfl (at2 _ _ _) rfl (by exact nth_Dqe)) rfl ?_ | refine wq_pu (pu_ldo (by exact at_) (by omega) rfl (at1 _ _) rfl (by exact nth_Dqe)) rfl ?_)); exact k.out)) : φ := h ⟨k⟩
theorem sto_Dqe {φ ψ : Prop} (k : ψ) (h : Hide ψ → φ := by (intro k; (first | refine sl_store rfl (by exact pick_) rfl rfl (by kernel_rfl) (by exact set_Dqe) ?_ | refine sl_store_whole rfl (by exact pick_) rfl (by exact sz_Dqe) (by exact sz_Dqe) (by exact one_Dqe) ?_); exact k.out)) : φ := h ⟨k⟩
theorem go_Dqe {φ ψ : Prop} (k : ψ) (h : Hide ψ → φ := by (intro k; (repeat (first | refine su_Dqe ?_ | refine so_ ?_ | refine sto_Dqe ?_)); exact k.out)) : φ := h ⟨k⟩
set_option maxRecDepth 100000 in
set_option maxHeartbeats 8000000 in
theorem pCrash {w : World} {lim : Int} {g m i n cR ck g9 ql cq : Nat} {R QA : Option Addr} {ms : List MF} {fs : List DF} {G : Fa} {a : Ac} {s : ByteArray} {p x : Int} (hd : DxOk w lim i n ms fs G a s p x) {Q' : Exit → Act → World → Prop} (hN : NoP Q') (hend : Ends 421 Q' .normal (eY g lim QA ql cq i) (hY w g m lim) (rY w lim i)) :
    SC Try.prog (cAt [false, false, false, false, false, true, false, true, true, false, false, true, true, false, false, false, false, false, false, false, false, false, false, true, false, true, false, false, false, false, false, false, false, false, false, true] (fb Try.f8)) Q' 421 (eX g lim R n cR g9 s p (usedM ms) x QA ql cq i) (hX w g m lim fs ck R n cR ms G g9 a) := by
  obtain ⟨hl1, hnm, hmi, hi60, hM, ha, hl2, hs40, hat, hx⟩ := hd
  have hu1 := hM.us
  have huN := hM.used
  have hfl := hM.len
  clear hat
  have hok' : ∀ f ∈ fs, f.sy ≤ f.l.length ∧ f.l.length ≤ 1048576 := fun d hd => by
    have h1 : d.ab ∈ ms.map MF.ab := by rw [← hM.ab]; exact List.mem_map_of_mem hd
    obtain ⟨f, hf, he⟩ := List.mem_map.1 h1
    have e1 : f.l = d.l := congrArg Fi.l he
    have e2 : f.sy = d.sy := congrArg Fi.sy he
    have h2 := hM.sy f hf
    have h3 := usedM_le hf
    rw [e1] at h2 h3
    rw [e2] at h2
    exact ⟨h2, by omega⟩
  refine go_Dqe ?_
  refine sl_call rfl rfl (by kernel_rfl) rfl Sub.refl (crashD_ok (by omega) hok') ?_
  rintro fs' hfs
  have hM2 := hM.crash hfs
  refine go_Dqe ?_
  refine sc_bjoin (fun _ : Unit => [(5, .pointer (some ⟨g, 0, none⟩)), (6, .int .i64 lim), (7, .slice R n cR), (16, .int .i64 0), (35, .slice QA ql cq), (36, .int .i64 ql), (37, .int .i64 i)]) (fun _ => [dB g m lim, dM m fs' ck, dS fs', mR R n cR (ms.map (MF.cr x)), G, old w]) (fun _ => True) ?_ ?_
  · refine sc_for (fun k : Nat => [(5, .pointer (some ⟨g, 0, none⟩)), (6, .int .i64 lim), (7, .slice R n cR), (15, .int .i64 x), (16, .int .i64 0), (35, .slice QA ql cq), (36, .int .i64 ql), (37, .int .i64 i), (302, .int .i64 n), (303, .int .i64 k)]) (fun k => [dB g m lim, dM m fs' ck, dS fs', mR R n cR ((ms.take k).map (MF.cr x) ++ ms.drop k), G, old w]) (fun k => k ≤ n) (fun k => n - k) 0 (by exact has_) (by exact sub_) (Nat.zero_le _) ?_
    rintro k hk
    by_cases hkn : k < n
    · obtain ⟨f, hf⟩ : ∃ f, ms[k]? = some f := ⟨_, List.getElem?_eq_getElem (by omega)⟩
      have hcf := map_at (MF.cr x) hf
      have hst := map_step (MF.cr x) hf
      generalize (ms.take k).map (MF.cr x) ++ ms.drop k = cur at hcf hst
      have hcl : k < cur.length := by obtain ⟨h, -⟩ := List.getElem?_eq_some_iff.1 hcf; exact h
      have hfm := List.mem_of_getElem? hf
      have hfs := hM.sy f hfm
      have hfc := hM.c f hfm
      have hfu := usedM_le hfm
      have hcr := crN_le (keep := x) hfs
      have hci := crN_int (keep := x) hfs
      refine sc_form (e := 65) (size := 3) (A := R) (m := n) (by exact at_) (by omega) ?_
      rintro gR rfl
      refine go_Dqe ?_
      ((refine sq_region (by kernel_rfl) (by kernel_rfl) ?_; (repeat refine rq_Dqe ?_); refine sq_end ?_))
      rw [← hci]
      obtain ⟨y, hy⟩ : ∃ y, crN x f.l f.sy = y := ⟨_, rfl⟩
      have hcc : MF.cr x f = ⟨f.s, f.A, y, f.l.take y, y⟩ := by
        unfold MF.cr
        rw [hy]
      rw [hy] at hcr ⊢
      rw [hcc] at hst
      clear hci hcc hy
      refine go_Dqe ?_
      refine sl_sto2 rfl (at2 _ _ _) (by exact pick_) rfl rfl (by kernel_rfl) (by omega) ?_
      rw [rows_set MF.len hcf (MF.set1 (l := f.l.take y) (by rw [List.length_take]; omega)) (by decide)]
      refine go_Dqe ?_
      refine sl_sto2 rfl (at2 _ _ _) (by exact pick_) rfl rfl (by kernel_rfl) (by omega) ?_
      rw [rows_set (j := k) MF.len (by rw [List.getElem?_set_self hcl]) (MF.set2 (k := y) rfl) (by decide), List.set_set, hst]
      refine go_Dqe ?_
      exact se_round (k + 1) (by exact has_) (by exact sub_) hkn (by omega)
    · obtain rfl : k = n := by omega
      rw [List.take_of_length_le (by omega), List.drop_of_length_le (by omega), List.append_nil]
      refine go_Dqe ?_
      exact se_mid () (by exact has_) (by exact sub_) trivial
  rintro _ -
  refine go_Dqe ?_
  exact hend (⟨⟨i, R, cR, n, ms.map (MF.cr x), fs', ck, G⟩, 0⟩ : Dr × Int) ⟨by show n = (ms.map _).length; rw [List.length_map]; exact hnm, by show n ≤ i + 1; omega, hM2⟩ (by exact has_) (by exact sub_)
end Go.Proofs.Ytemhhhikopemmaa
/- DiskPlays: a call of Append. -/
namespace Go.Proofs.Ytemhhhikopemmaa
open Go.RowKit Go.MapKept
attribute [local irreducible] Go.Calls Go.Exit.then Go.Exit.inBlock Go.bodyPost Go.Code.wp Go.wpList
theorem nth_Dqf {φ : Prop} (h : φ := by (first | rfl | first | assumption | exact rows_nth MF.len (by assumption) rfl)) : φ := h
theorem mid_Dqf {φ : Prop} (h : φ := by (first | first | exact rows_mid MF.len (by assumption) | exact rows_mid Ac.len (by assumption) | exact Mid.all | exact Mid.head)) : φ := h
theorem sz_Dqf {φ : Prop} (h : φ := by (first | rfl | (rfl; first | done | fail))) : φ := h
theorem one_Dqf {φ : Prop} (h : φ := by (first | assumption | exact first | exact one_bytes _ | exact ff_one | exact MF.one _ | exact Ac.one _ | (simp only [List.mem_cons, List.not_mem_nil, or_false, forall_eq_or_imp, forall_eq]; decide) | exact one_bytes _)) : φ := h
theorem set_Dqf {φ : Prop} (h : φ := by (first | (fail) | ((repeat (first | exact SetAt.here | apply SetAt.there)); first | done | fail))) : φ := h
theorem cl_Dqf {φ : Prop} (h : φ := by first | rfl | exact .t | exact .f | exact .t (by omega) | exact .f (by omega) | exact .u | exact .i (by (first | exact .t (by omega) | exact .f (by omega) | exact .u | exact .i (by omega) | exact .v (by omega) | exact .b (by omega) | exact .w | rfl | omega)) | exact .v (by omega) | exact .b (by omega) | exact .q (by omega) | exact .w | exact .b (by exact at_) rfl (by exact nth_Dqf) | exact .w (by exact at_) rfl rfl (by exact sz_Dqf) | exact .s (by exact at_) (by exact mid_Dqf) rfl rfl (by exact sz_Dqf) | exact .z rfl rfl ⟨by kernel_rfl⟩ | exact .b rfl rfl ⟨by kernel_rfl⟩ | exact .a rfl rfl ⟨by kernel_rfl⟩ | exact .o rfl | exact .s | exact .n | exact .p rfl | exact .q rfl | exact .c rfl | exact .d rfl | exact .n rfl rfl (by omega) | exact .a rfl rfl (by omega) | exact .p rfl rfl (by omega) (by omega) | exact .y rfl rfl (by omega) (by omega) | exact .o (by exact at_) (by omega) rfl (by exact nth_Dqf) | exact .m (by exact at_) (by omega) (by exact mid_Dqf) rfl rfl (by exact sz_Dqf) | exact .mlen (by exact at_) rfl | exact .t (by exact at_) rfl rfl (by first | exact True.intro | rfl) (by assumption) | exact .f (by exact at_) rfl rfl (by first | exact True.intro | rfl) (by assumption) rfl | exact .t1 (by exact at_) rfl rfl (by first | exact True.intro | rfl) (by assumption) | exact .f1 (by exact at_) rfl rfl (by first | exact True.intro | rfl) (by assumption) rfl | exact .r rfl rfl (by omega) (by omega) (by exact nth_Dqf) rfl | exact .s rfl (by omega) (by assumption) | exact at_ | assumption | exact .r rfl rfl | exact .h rfl rfl rfl (by omega) | exact .l rfl rfl rfl (by omega) (by omega) | exact .g rfl rfl rfl rfl (by omega) (by omega) | exact .h rfl rfl (toN_ (by omega)) (by omega) | exact .l rfl rfl (toN_ (by omega)) (by omega) (by omega) | exact .g rfl rfl (toN_ (by omega)) (toN_ (by omega)) (by omega) (by omega) | exact .o (by decide) | exact .f (by decide) | exact .n (by omega) (by first | decide | (show _ ≤ ((64 : Nat) : Int); omega)) | (constructor; (repeat (first | exact .t (by omega) | exact .f (by omega) | exact .u | exact .i (by omega) | exact .v (by omega) | exact .b (by omega) | exact .w | rfl | omega)); first | done | fail) | omega | (show _ ≤ ((64 : Nat) : Int); omega)) : φ := h
theorem pv_Dqf {φ : Prop} (h : φ := by constructor; (repeat exact cl_Dqf); first | done | fail) : φ := h
theorem su_Dqf {φ ψ : Prop} (k : ψ) (h : Hide ψ → φ := by (intro k; (first | refine sl_pu (PuI.sep (by exact pv_Dqf)) rfl ?_ | refine sl_yes rfl rfl ?_ | refine sl_no rfl rfl rfl ?_ | refine sl_off rfl rfl rfl ?_ | (first | refine sl_pu (pu_ldo (by exact at_) (by omega) rfl (at2 _ _ _) rfl (by exact nth_Dqf)) rfl ?_ | refine sl_pu (pu_ldo (by exact at_) (by omega) rfl (at1 _ _) rfl (by exact nth_Dqf)) rfl ?_)); exact k.out)) : φ := h ⟨k⟩
theorem rq_Dqf {φ ψ : Prop} (k : ψ) (h : Hide ψ → φ := by (intro k; (first | refine wq_pu (PuI.sep (by exact pv_Dqf)) rfl ?_ | refine wq_yes rfl rfl ?_ | refine wq_no rfl rfl rfl ?_ | refine wq_off rfl rfl rfl ?_ | (first | refine wq_pu (pu_ldo (by exact at_) (by omega) rfl (at2 _ _ _) rfl (by exact nth_Dqf)) rfl ?_ | refine wq_pu (pu_ldo (by exact at_) (by omega) rfl (at1 _ _) rfl (by exact nth_Dqf)) rfl ?_)); exact k.out)) : φ := h ⟨k⟩
theorem sto_Dqf {φ ψ : Prop} (k : ψ) (h : Hide ψ → φ := by (intro k; (first | refine sl_store rfl (by exact pick_) rfl rfl (by kernel_rfl) (by exact set_Dqf) ?_ | refine sl_store_whole rfl (by exact pick_) rfl (by exact sz_Dqf) (by exact sz_Dqf) (by exact one_Dqf) ?_); exact k.out)) : φ := h ⟨k⟩
theorem go_Dqf {φ ψ : Prop} (k : ψ) (h : Hide ψ → φ := by (intro k; (repeat (first | refine su_Dqf ?_ | refine so_ ?_ | refine sto_Dqf ?_)); exact k.out)) : φ := h ⟨k⟩
set_option maxRecDepth 100000 in
set_option maxHeartbeats 8000000 in
theorem pApp {w : World} {lim : Int} {g m i n cR ck g9 ql cq : Nat} {R QA : Option Addr} {ms : List MF} {fs : List DF} {G : Fa} {a : Ac} {s : ByteArray} {p x : Int} (hd : DxOk w lim i n ms fs G a s p x) {Q' : Exit → Act → World → Prop} (hN : NoP Q') (hend : Ends 421 Q' .normal (eY g lim QA ql cq i) (hY w g m lim) (rY w lim i)) :
    SC Try.prog (cAt [false, false, false, false, false, true, false, true, true, false, false, true, true, false, false, false, false, false, false, false, false, false, false, true, false, true, false, false, false, false, false, false, false, false, false, false] (fb Try.f8)) Q' 421 (eX g lim R n cR g9 s p (usedM ms) x QA ql cq i) (hX w g m lim fs ck R n cR ms G g9 a) := by
  obtain ⟨hl1, hnm, hmi, hi60, hM, ha, hl2, hs40, hat, hx⟩ := hd
  have hu1 := hM.us
  have huN := hM.used
  have hfl := hM.len
  obtain ⟨-, -, -, hrd, hab, hac, ham⟩ := ha
  have hrv : ∀ L : List Fa, Sub L [old w] → Vw L (fun w => Reads w 1 a.A a.l.length (bytes a.l)) := fun L hL => (Vw.of_old .here hrd).mono hL
  by_cases hnb : nameB s = false
  · refine go_Dqf ?_
    refine sl_call rfl rfl (by kernel_rfl) rfl Sub.refl (appD_bad (by omega) hnb) ?_
    rintro _ -
    refine go_Dqf ?_
    refine sl_call rfl rfl (by kernel_rfl) rfl Sub.refl (named_ok (by omega)) ?_
    rintro _ -
    rw [hnb]
    refine go_Dqf ?_
    exact hend (⟨⟨i, R, cR, n, ms, fs, ck, G⟩, 25⟩ : Dr × Int) ⟨hnm, by show n ≤ i + 1; omega, hM⟩ (by exact has_) (by exact sub_)
  replace hnb : nameB s = true := by
    cases h : nameB s
    · exact absurd h hnb
    · rfl
  by_cases hfull : lim < (a.l.length : Int) + usedN fs
  · have hh : (∃ f ∈ fs, f.s = s) ∨ (¬ DHas fs s ∧ fs.length ≠ 64) := by
      by_cases h : DHas fs s
      · exact .inl h
      · exact .inr ⟨h, by omega⟩
    refine go_Dqf ?_
    refine sl_call rfl rfl (by kernel_rfl) rfl Sub.refl (appD_full (by exact at_) (by exact at_) (by omega) hnb hh hl1 (by omega) (by omega) hfull) ?_
    rintro _ -
    refine go_Dqf ?_
    refine sl_call rfl rfl (by kernel_rfl) rfl Sub.refl (named_ok (by omega)) ?_
    rintro _ -
    rw [hnb]
    refine go_Dqf ?_
    exact hend (⟨⟨i, R, cR, n, ms, fs, ck, G⟩, 18⟩ : Dr × Int) ⟨hnm, by show n ≤ i + 1; omega, hM⟩ (by exact has_) (by exact sub_)
  rcases hat with ⟨rfl, hno⟩ | ⟨j, f, rfl, hj, rfl⟩
  · have hnd := hM.no hno
    refine go_Dqf ?_
    refine sl_call rfl rfl (by kernel_rfl) rfl Sub.refl (appD_new (by omega) hnb hnd (by omega) hl1 (by omega) (hrv _ (by exact sub_))) ?_
    rintro ⟨A1, c1⟩ -
    dsimp only
    refine go_Dqf ?_
    refine sl_call rfl rfl (by kernel_rfl) rfl Sub.refl (named_ok (by omega)) ?_
    rintro _ -
    rw [hnb]
    refine go_Dqf ?_
    refine sl_build0 (e := 5) (size := 1) rfl (fun W => by kernel_rfl) rfl ?_
    intro g0
    refine go_Dqf ?_
    refine sl_app (A := some ⟨g0, 0, none⟩) (xs := []) rfl (by exact pick_) rfl (hrv _ (by exact sub_)) (one_bytes _) rfl Try.info5 (by decide) (by decide) rfl (by unfold maxLen; omega) (by omega) ?_
    intro A2 c2
    rw [Nat.zero_add, List.nil_append]
    refine sl_know (fun w hw => (own_len (e := 5) (size := 1) (A := A2) hw .here).2) ?_
    rintro ⟨l1, -⟩
    refine sl_pu (pu_build (v := .agg (MF.C ⟨s, A2, c2, a.l, 0⟩).toArray) rfl (fun W => by kernel_rfl)) rfl ?_
    refine sl_build (size := 3) (e := 65) (cells := MF.C ⟨s, A2, c2, a.l, 0⟩) rfl (fun W => by kernel_rfl) rfl (by decide) rfl ?_
    intro g1
    refine sl_app (A := R) (k := n) (xs := rows MF.C ms) (size := 3) (bytes := 48) rfl (by exact pick_) rfl (Vw.of_own (e := 65) (c := 1) (by exact at_)) (MF.one _) rfl mFileInfo (by decide) (by decide) rfl (by unfold maxLen; omega) (by omega) ?_
    intro A3 c3
    rw [← rows_one (C := MF.C) (⟨s, A2, c2, a.l, 0⟩ : MF), ← rows_app]
    refine go_Dqf ?_
    have hvy : Vw [own 5 1 A2 a.l.length c2 (bytes a.l)] (fun w => Reads w 1 A2 a.l.length (bytes a.l)) := Vw.of_own .here
    refine se_ent (L' := star [own 5 1 A2 a.l.length c2 (bytes a.l), G] :: [dB g m lim, dM m (fs ++ [⟨s, A1, c1, a.l, 0, ck⟩]) (ck + 1), dS (fs ++ [⟨s, A1, c1, a.l, 0, ck⟩]), mR A3 (n + 1) c3 (ms ++ [⟨s, A2, c2, a.l, 0⟩]), old w]) (fun w hw => star2 w (hw.sub (by exact sub_))) ?_
    exact hend (⟨⟨i, A3, c3, n + 1, ms ++ [⟨s, A2, c2, a.l, 0⟩], fs ++ [⟨s, A1, c1, a.l, 0, ck⟩], ck + 1, star [own 5 1 A2 a.l.length c2 (bytes a.l), G]⟩, 0⟩ : Dr × Int) ⟨by show n + 1 = (ms ++ [_]).length; rw [List.length_append, List.length_singleton, hnm], by show n + 1 ≤ i + 1; omega, hM.grow rfl star2_out (Nat.zero_le _) l1 hab (fun w' hw' => hvy w' (star2_hd w' hw')) (by show _ + (a.l.length : Int) ≤ _; omega)⟩ (by exact has_) (by exact sub_)
  · obtain ⟨X, A0, c0, bn, Y, rfl, hX⟩ := hM.split hj
    have hjl : j < n := by
      obtain ⟨h1, -⟩ := List.getElem?_eq_some_iff.1 hj
      omega
    have hfm := List.mem_of_getElem? hj
    have hfu := usedM_le hfm
    have hfc := hM.c f hfm
    have hfs := hM.sy f hfm
    have hfv := hM.vw f hfm
    refine sc_form (e := 65) (size := 3) (A := R) (m := n) (by exact at_) (by omega) ?_
    rintro gR rfl
    refine go_Dqf ?_
    refine sl_call rfl rfl (by kernel_rfl) rfl Sub.refl (appD_yes (f := ⟨f.s, A0, c0, f.l, f.sy, bn⟩) (by show f.s.size ≤ _; omega) hnb hl1 (by omega) (hrv _ (by exact sub_))) ?_
    rintro ⟨A1, c1⟩ -
    dsimp only
    refine go_Dqf ?_
    refine sl_call rfl rfl (by kernel_rfl) rfl Sub.refl (named_ok (by omega)) ?_
    rintro _ -
    rw [hnb]
    refine go_Dqf ?_
    have hfin := fun (A2 : Option Addr) (c2 : Nat) (F : Fa) (hc2 : f.l.length + a.l.length ≤ c2) (hv2 : Vw [star [F, G], old w] (fun w => Reads w 1 A2 (f.l.length + a.l.length) (bytes (f.l ++ a.l)))) {l : Env} {L : List Fa} => hend (l := l) (L := L) (⟨⟨i, some ⟨gR, 0, none⟩, cR, n, ms.set j ⟨f.s, A2, c2, f.l ++ a.l, f.sy⟩, X ++ ⟨f.s, A1, c1, f.l ++ a.l, f.sy, bn⟩ :: Y, ck, star [F, G]⟩, 0⟩ : Dr × Int) ⟨by show n = (ms.set j _).length; rw [List.length_set]; exact hnm, by show n ≤ i + 1; omega, hM.put hj hX rfl star2_out (by show f.sy ≤ (f.l ++ a.l).length; rw [List.length_append]; omega) (by show (f.l ++ a.l).length ≤ c2; rw [List.length_append]; exact hc2) (fun u hu => (List.mem_append.1 hu).elim (hM.by' f hfm u) (hab u)) (by show Vw _ (fun w => Reads w 1 A2 (f.l ++ a.l).length _); rw [List.length_append]; exact hv2) (by show _ + ((f.l ++ a.l).length : Int) ≤ _; rw [List.length_append]; omega)⟩
    refine sd_drawn (fun W => AllP W [mR (some ⟨gR, 0, none⟩) n cR ms, blk g9 63 a.C]) (fun i => !(List.contains [25] i)) (by kernel_rfl) 26 rfl ?_
    refine sd_yes2 0 rfl (by exact gd_) (by kernel_rfl) (by kernel_rfl) (by (repeat (first | assumption | refine nop_then ?_ | refine nop_block ?_)); first | done | fail) (PuI.all (by exact pv_Dqf)) rfl (fun w hw => all_ hw) ?_
    refine sd_yes2 1 rfl (by exact gd_) (by kernel_rfl) (by kernel_rfl) (by (repeat (first | assumption | refine nop_then ?_ | refine nop_block ?_)); first | done | fail) (PuI.all (by exact pv_Dqf)) rfl (fun w hw => all_ hw) ?_
    refine sd_yes2 2 rfl (by exact gd_) (by kernel_rfl) (by kernel_rfl) (by (repeat (first | assumption | refine nop_then ?_ | refine nop_block ?_)); first | done | fail) (PuI.all (by exact pv_Dqf)) rfl (fun w hw => all_ hw) ?_
    refine sd_yes2 3 rfl (by exact gd_) (by kernel_rfl) (by kernel_rfl) (by (repeat (first | assumption | refine nop_then ?_ | refine nop_block ?_)); first | done | fail) (PuI.all (by exact pv_Dqf)) rfl (fun w hw => all_ hw) ?_
    refine sd_yes2 4 rfl (by exact gd_) (by kernel_rfl) (by kernel_rfl) (by (repeat (first | assumption | refine nop_then ?_ | refine nop_block ?_)); first | done | fail) (PuI.all (by exact pv_Dqf)) rfl (fun w hw => all_ hw) ?_
    refine sd_yes2 5 rfl (by exact gd_) (by kernel_rfl) (by kernel_rfl) (by (repeat (first | assumption | refine nop_then ?_ | refine nop_block ?_)); first | done | fail) (PuI.all (by exact pv_Dqf)) rfl (fun w hw => all_ hw) ?_
    refine sd_yes2 6 rfl (by exact gd_) (by kernel_rfl) (by kernel_rfl) (by (repeat (first | assumption | refine nop_then ?_ | refine nop_block ?_)); first | done | fail) (pu_ldoA (by exact at_) (by omega) rfl (at2 _ _ _) rfl (by exact nth_Dqf)) rfl (fun w hw => all_ hw) ?_
    refine sd_yes2 7 rfl (by exact gd_) (by kernel_rfl) (by kernel_rfl) (by (repeat (first | assumption | refine nop_then ?_ | refine nop_block ?_)); first | done | fail) (PuI.all (by exact pv_Dqf)) rfl (fun w hw => all_ hw) ?_
    refine sd_yes2 8 rfl (by exact gd_) (by kernel_rfl) (by kernel_rfl) (by (repeat (first | assumption | refine nop_then ?_ | refine nop_block ?_)); first | done | fail) (PuI.all (by exact pv_Dqf)) rfl (fun w hw => all_ hw) ?_
    refine sd_yes2 9 rfl (by exact gd_) (by kernel_rfl) (by kernel_rfl) (by (repeat (first | assumption | refine nop_then ?_ | refine nop_block ?_)); first | done | fail) (PuI.all (by exact pv_Dqf)) rfl (fun w hw => all_ hw) ?_
    refine sd_yes2 10 rfl (by exact gd_) (by kernel_rfl) (by kernel_rfl) (by (repeat (first | assumption | refine nop_then ?_ | refine nop_block ?_)); first | done | fail) (PuI.all (by exact pv_Dqf)) rfl (fun w hw => all_ hw) ?_
    refine sd_yes2 11 rfl (by exact gd_) (by kernel_rfl) (by kernel_rfl) (by (repeat (first | assumption | refine nop_then ?_ | refine nop_block ?_)); first | done | fail) (pu_ldoA (by exact at_) (by omega) rfl (at2 _ _ _) rfl (by exact nth_Dqf)) rfl (fun w hw => all_ hw) ?_
    refine sd_yes2 12 rfl (by exact gd_) (by kernel_rfl) (by kernel_rfl) (by (repeat (first | assumption | refine nop_then ?_ | refine nop_block ?_)); first | done | fail) (PuI.all (by exact pv_Dqf)) rfl (fun w hw => all_ hw) ?_
    refine sd_yes2 13 rfl (by exact gd_) (by kernel_rfl) (by kernel_rfl) (by (repeat (first | assumption | refine nop_then ?_ | refine nop_block ?_)); first | done | fail) (PuI.all (by exact pv_Dqf)) rfl (fun w hw => all_ hw) ?_
    refine sd_yes2 14 rfl (by exact gd_) (by kernel_rfl) (by kernel_rfl) (by (repeat (first | assumption | refine nop_then ?_ | refine nop_block ?_)); first | done | fail) (PuI.all (by exact pv_Dqf)) rfl (fun w hw => all_ hw) ?_
    refine sd_yes2 15 rfl (by exact gd_) (by kernel_rfl) (by kernel_rfl) (by (repeat (first | assumption | refine nop_then ?_ | refine nop_block ?_)); first | done | fail) (PuI.all (by exact pv_Dqf)) rfl (fun w hw => all_ hw) ?_
    refine sd_yes2 16 rfl (by exact gd_) (by kernel_rfl) (by kernel_rfl) (by (repeat (first | assumption | refine nop_then ?_ | refine nop_block ?_)); first | done | fail) (PuI.all (by exact pv_Dqf)) rfl (fun w hw => all_ hw) ?_
    refine sd_yes2 17 rfl (by exact gd_) (by kernel_rfl) (by kernel_rfl) (by (repeat (first | assumption | refine nop_then ?_ | refine nop_block ?_)); first | done | fail) (pu_ldoA (by exact at_) (by omega) rfl (at2 _ _ _) rfl (by exact nth_Dqf)) rfl (fun w hw => all_ hw) ?_
    refine sd_yes2 18 rfl (by exact gd_) (by kernel_rfl) (by kernel_rfl) (by (repeat (first | assumption | refine nop_then ?_ | refine nop_block ?_)); first | done | fail) (PuI.all (by exact pv_Dqf)) rfl (fun w hw => all_ hw) ?_
    refine sd_yes2 19 rfl (by exact gd_) (by kernel_rfl) (by kernel_rfl) (by (repeat (first | assumption | refine nop_then ?_ | refine nop_block ?_)); first | done | fail) (PuI.all (by exact pv_Dqf)) rfl (fun w hw => all_ hw) ?_
    refine sd_yes2 20 rfl (by exact gd_) (by kernel_rfl) (by kernel_rfl) (by (repeat (first | assumption | refine nop_then ?_ | refine nop_block ?_)); first | done | fail) (PuI.all (by exact pv_Dqf)) rfl (fun w hw => all_ hw) ?_
    refine sd_yes2 21 rfl (by exact gd_) (by kernel_rfl) (by kernel_rfl) (by (repeat (first | assumption | refine nop_then ?_ | refine nop_block ?_)); first | done | fail) (PuI.all (by exact pv_Dqf)) rfl (fun w hw => all_ hw) ?_
    refine sd_one 22 (by kernel_rfl) (sa_sl 22 rfl ?_)
    refine sl_app_rd rfl hfv (by exact sub_) rfl (hrv _ (by exact sub_)) (one_bytes _) rfl Try.info5 (by decide) (by decide) rfl (by unfold maxLen; omega) (by omega) ?_
    intro A2 c2 F hc2 hF
    refine sl_nil ?_
    refine se_sd (fun _ w hw => all_ hw) ?_
    refine sd_yes2 23 rfl (by exact gd_) (by kernel_rfl) (by kernel_rfl) (by (repeat (first | assumption | refine nop_then ?_ | refine nop_block ?_)); first | done | fail) (PuI.all (by exact pv_Dqf)) rfl (fun w hw => all_ hw) ?_
    refine sd_yes2 24 rfl (by exact gd_) (by kernel_rfl) (by kernel_rfl) (by (repeat (first | assumption | refine nop_then ?_ | refine nop_block ?_)); first | done | fail) (PuI.all (by exact pv_Dqf)) rfl (fun w hw => all_ hw) ?_
    refine sd_one 25 (by kernel_rfl) (sa_sl 25 rfl ?_)
    refine sl_sto2 rfl (at2 _ _ _) (by exact pick_) rfl rfl (by kernel_rfl) (by omega) ?_
    rw [rows_set MF.len hj (MF.set1 (l := f.l ++ a.l) (by rw [List.length_append])) (by decide)]
    refine sl_nil ?_
    refine se_sd (fun h => absurd h (by decide)) ?_
    refine sd_done (by kernel_rfl) ?_
    refine go_Dqf ?_
    refine se_ent (L' := star [F, G] :: [dB g m lim, dM m (X ++ ⟨f.s, A1, c1, f.l ++ a.l, f.sy, bn⟩ :: Y) ck, dS (X ++ ⟨f.s, A1, c1, f.l ++ a.l, f.sy, bn⟩ :: Y), mR (some ⟨gR, 0, none⟩) n cR (ms.set j ⟨f.s, A2, c2, f.l ++ a.l, f.sy⟩), old w]) (fun w hw => star2 w (hw.sub (by exact sub_))) ?_
    exact hfin A2 c2 F hc2 (fun w' hw' => by have h1 := hF w' (star_out (G := [F, G]) (K := [old w]) w' hw'); rwa [bytes, bytes, ← List.map_append] at h1) (by exact has_) (by exact sub_)
end Go.Proofs.Ytemhhhikopemmaa
