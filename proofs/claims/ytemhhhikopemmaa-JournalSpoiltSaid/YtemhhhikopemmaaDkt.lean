/- A disk: Turn. -/
import Derived.Test.YtemhhhikopemmaaDk6
namespace Go.Proofs.Ytemhhhikopemmaa
open Go.RowKit Go.MapKept
attribute [local irreducible] Go.Calls Go.Exit.then Go.Exit.inBlock Go.bodyPost Go.Code.wp Go.wpList
/-- A byte with a bit turned. -/
def tbit (x : Int) (k : Nat) : Int := bits .xor .u8 x (IntKind.u8.wrap (1 * 2 ^ (k % 8)))
def turnL (l : List Int) (k : Nat) : List Int := l.set (k / 8) (tbit (l.getD (k / 8) 0) k)
theorem turnL_len {l : List Int} {k : Nat} : (turnL l k).length = l.length := by simp [turnL]
theorem dval_len {s : ByteArray} {A : Option Addr} {c n sy bn : Nat} {l : List Int} (h : l.length = n) : Value.agg #[.slice A n c, .int .i64 sy] = DF.val ⟨s, A, c, l, sy, bn⟩ := by
  subst h
  rfl
theorem nth_Dkt {φ : Prop} (h : φ := by (first | rfl | assumption)) : φ := h
theorem mid_Dkt {φ : Prop} (h : φ := by (first | exact Mid.all | exact Mid.all | exact Mid.head)) : φ := h
theorem sz_Dkt {φ : Prop} (h : φ := by (first | rfl | (rfl; first | done | fail))) : φ := h
theorem one_Dkt {φ : Prop} (h : φ := by (first | assumption | exact first | exact one_bytes _ | exact ff_one | (simp only [List.mem_cons, List.not_mem_nil, or_false, forall_eq_or_imp, forall_eq]; decide) | exact one_bytes _)) : φ := h
theorem set_Dkt {φ : Prop} (h : φ := by (first | (fail) | ((repeat (first | exact SetAt.here | apply SetAt.there)); first | done | fail))) : φ := h
theorem cl_Dkt {φ : Prop} (h : φ := by first | rfl | exact .t | exact .f | exact .t (by omega) | exact .f (by omega) | exact .u | exact .i (by (first | exact .t (by omega) | exact .f (by omega) | exact .u | exact .i (by omega) | exact .v (by omega) | exact .b (by omega) | exact .w | rfl | omega)) | exact .v (by omega) | exact .b (by omega) | exact .q (by omega) | exact .w | exact .b (by exact at_) rfl (by exact nth_Dkt) | exact .w (by exact at_) rfl rfl (by exact sz_Dkt) | exact .s (by exact at_) (by exact mid_Dkt) rfl rfl (by exact sz_Dkt) | exact .z rfl rfl ⟨by kernel_rfl⟩ | exact .b rfl rfl ⟨by kernel_rfl⟩ | exact .a rfl rfl ⟨by kernel_rfl⟩ | exact .o rfl | exact .s | exact .n | exact .p rfl | exact .q rfl | exact .c rfl | exact .d rfl | exact .n rfl rfl (by omega) | exact .a rfl rfl (by omega) | exact .p rfl rfl (by omega) (by omega) | exact .y rfl rfl (by omega) (by omega) | exact .o (by exact at_) (by omega) rfl (by exact nth_Dkt) | exact .m (by exact at_) (by omega) (by exact mid_Dkt) rfl rfl (by exact sz_Dkt) | exact .mlen (by exact at_) rfl | exact .t (by exact at_) rfl rfl (by first | exact True.intro | rfl) (by assumption) | exact .f (by exact at_) rfl rfl (by first | exact True.intro | rfl) (by assumption) rfl | exact .t1 (by exact at_) rfl rfl (by first | exact True.intro | rfl) (by assumption) | exact .f1 (by exact at_) rfl rfl (by first | exact True.intro | rfl) (by assumption) rfl | exact .r rfl rfl (by omega) (by omega) (by exact nth_Dkt) rfl | exact .s rfl (by omega) (by assumption) | exact at_ | assumption | exact .r rfl rfl | exact .h rfl rfl rfl (by omega) | exact .l rfl rfl rfl (by omega) (by omega) | exact .g rfl rfl rfl rfl (by omega) (by omega) | exact .h rfl rfl (toN_ (by omega)) (by omega) | exact .l rfl rfl (toN_ (by omega)) (by omega) (by omega) | exact .g rfl rfl (toN_ (by omega)) (toN_ (by omega)) (by omega) (by omega) | exact .o (by decide) | exact .f (by decide) | exact .n (by omega) (by first | decide | (show _ ≤ ((64 : Nat) : Int); omega)) | (constructor; (repeat (first | exact .t (by omega) | exact .f (by omega) | exact .u | exact .i (by omega) | exact .v (by omega) | exact .b (by omega) | exact .w | rfl | omega)); first | done | fail) | omega | (show _ ≤ ((64 : Nat) : Int); omega)) : φ := h
theorem pv_Dkt {φ : Prop} (h : φ := by constructor; (repeat exact cl_Dkt); first | done | fail) : φ := h
theorem su_Dkt {φ ψ : Prop} (k : ψ) (h : Hide ψ → φ := by (intro k; (first | refine sl_pu (PuI.sep (by exact pv_Dkt)) rfl ?_ | refine sl_yes rfl rfl ?_ | refine sl_no rfl rfl rfl ?_ | refine sl_off rfl rfl rfl ?_ | (fail)); exact k.out)) : φ := h ⟨k⟩
theorem rq_Dkt {φ ψ : Prop} (k : ψ) (h : Hide ψ → φ := by (intro k; (first | refine wq_pu (PuI.sep (by exact pv_Dkt)) rfl ?_ | refine wq_yes rfl rfl ?_ | refine wq_no rfl rfl rfl ?_ | refine wq_off rfl rfl rfl ?_ | (fail)); exact k.out)) : φ := h ⟨k⟩
theorem sto_Dkt {φ ψ : Prop} (k : ψ) (h : Hide ψ → φ := by (intro k; (first | refine sl_store rfl (by exact pick_) rfl rfl (by kernel_rfl) (by exact set_Dkt) ?_ | refine sl_store_whole rfl (by exact pick_) rfl (by exact sz_Dkt) (by exact sz_Dkt) (by exact one_Dkt) ?_); exact k.out)) : φ := h ⟨k⟩
theorem go_Dkt {φ ψ : Prop} (k : ψ) (h : Hide ψ → φ := by (intro k; (repeat (first | refine su_Dkt ?_ | refine so_ ?_ | refine sto_Dkt ?_)); exact k.out)) : φ := h ⟨k⟩
set_option maxRecDepth 100000 in
set_option maxHeartbeats 2000000 in
theorem turnD_range {K : List Fa} {g m ck : Nat} {lim k : Int} {fs : List DF} {f : DF} (hB : At (dB g m lim) K) (hM : At (dM m fs ck) K) (hf : f ∈ fs) (hk : k < 0 ∨ 8 * (f.l.length : Int) ≤ k) (hn : f.l.length ≤ 1048576) :
    Fn Try.prog 21 #[.pointer (some ⟨g, 0, none⟩), .string f.s, .int .i64 k] K (Ret (fun _ : Unit => True) (fun _ => .int .i64 6) (fun _ => K)) := by
  refine fn_enter Try.func21 rfl _ Try.ntmps21 (by simp) [(0, .pointer (some ⟨g, 0, none⟩)), (1, .string f.s), (2, .int .i64 k)] (args_of (by simp)) ?_
  have hg := dget hf
  unfold DF.val at hg
  refine go_Dkt ?_
  refine sl_call rfl rfl (by kernel_rfl) rfl Sub.refl (has_yes hB hM hf) ?_
  rintro _ -
  refine go_Dkt ?_
  refine sl_alloc rfl rfl rfl ?_; intro g7
  rcases (show k < 0 ∨ 0 ≤ k by omega) with h0 | h0
  · refine go_Dkt ?_
    exact se_ret1 () trivial rfl rfl (by exact sub_)
  · have h1 : 8 * (f.l.length : Int) ≤ k := by omega
    refine go_Dkt ?_
    exact se_ret1 () trivial rfl rfl (by exact sub_)
set_option maxRecDepth 100000 in
set_option maxHeartbeats 2000000 in
theorem turnD_ok {K : List Fa} {g m ck k : Nat} {lim : Int} {X Y : List DF} {f : DF} (hk : k < 8 * f.l.length) (hn : f.l.length ≤ 1048576) :
    Fn Try.prog 21 #[.pointer (some ⟨g, 0, none⟩), .string f.s, .int .i64 k] (dB g m lim :: dM m (X ++ f :: Y) ck :: dS (X ++ f :: Y) :: K) (Ret (fun _ : Option Addr × Nat => True) (fun _ => .int .i64 0) (fun q => dB g m lim :: dM m (X ++ ⟨f.s, q.1, q.2, turnL f.l k, f.sy, f.bn⟩ :: Y) ck :: dS (X ++ ⟨f.s, q.1, q.2, turnL f.l k, f.sy, f.bn⟩ :: Y) :: K)) := by
  refine fn_enter Try.func21 rfl _ Try.ntmps21 (by simp) [(0, .pointer (some ⟨g, 0, none⟩)), (1, .string f.s), (2, .int .i64 k)] (args_of (by simp)) ?_
  have hg := dget (mid_mem (X := X) (Y := Y) (f := f))
  unfold DF.val at hg
  refine go_Dkt ?_
  refine sl_call rfl rfl (by kernel_rfl) rfl Sub.refl (has_yes (by exact at_) (by exact at_) mid_mem) ?_
  rintro _ -
  refine go_Dkt ?_
  refine sl_alloc rfl rfl rfl ?_; intro g7
  refine go_Dkt ?_
  refine sl_call rfl rfl (by kernel_rfl) rfl Sub.refl (clone_ok (ds_get (fs := X ++ f :: Y) (f := f) (by exact at_) mid_mem) (by omega)) ?_
  rintro ⟨A1, c1⟩ -
  dsimp only
  refine sl_form (e := 5) (size := 1) (A := A1) (m := f.l.length) (by exact at_) (by omega) ?_
  rintro ga rfl
  have hnx : nth (bytes f.l) (((k : Int) / 8).toNat * 1) = some (.int .u8 (f.l.getD (k / 8) 0)) := by
    rw [nth_eq, Nat.mul_one, show ((k : Int) / 8).toNat = k / 8 by omega]
    simp [bytes, List.getD, show k / 8 < f.l.length by omega]
  refine go_Dkt ?_
  refine sd_drawn (fun W => AllP W [blk g7 88 [.slice (some ⟨ga, 0, none⟩) f.l.length c1, .int .i64 f.sy], own 5 1 (some ⟨ga, 0, none⟩) f.l.length c1 (bytes f.l)]) (fun i => !(List.contains [11] i)) (by kernel_rfl) 12 rfl ?_
  refine sd_yes2 0 rfl (by exact gd_) (by kernel_rfl) (by kernel_rfl) (by exact nop_) (PuI.all (by exact pv_Dkt)) rfl (fun w hw => all_ hw) ?_
  refine sd_yes2 1 rfl (by exact gd_) (by kernel_rfl) (by kernel_rfl) (by exact nop_) (PuI.all (by exact pv_Dkt)) rfl (fun w hw => all_ hw) ?_
  refine sd_yes2 2 rfl (by exact gd_) (by kernel_rfl) (by kernel_rfl) (by exact nop_) (PuI.all (by exact pv_Dkt)) rfl (fun w hw => all_ hw) ?_
  refine sd_yes2 3 rfl (by exact gd_) (by kernel_rfl) (by kernel_rfl) (by exact nop_) (PuI.all (by exact pv_Dkt)) rfl (fun w hw => all_ hw) ?_
  refine sd_yes2 4 rfl (by exact gd_) (by kernel_rfl) (by kernel_rfl) (by exact nop_) (PuI.all (by exact pv_Dkt)) rfl (fun w hw => all_ hw) ?_
  refine sd_yes2 5 rfl (by exact gd_) (by kernel_rfl) (by kernel_rfl) (by exact nop_) (PuI.all (by exact pv_Dkt)) rfl (fun w hw => all_ hw) ?_
  refine sd_yes2 6 rfl (by exact gd_) (by kernel_rfl) (by kernel_rfl) (by exact nop_) (PuI.all (by exact pv_Dkt)) rfl (fun w hw => all_ hw) ?_
  refine sd_yes2 7 rfl (by exact gd_) (by kernel_rfl) (by kernel_rfl) (by exact nop_) (PuI.all (by exact pv_Dkt)) rfl (fun w hw => all_ hw) ?_
  refine sd_yes2 8 rfl (by exact gd_) (by kernel_rfl) (by kernel_rfl) (by exact nop_) (pu_shl rfl rfl (by omega) (by show _ ≤ ((8 : Nat) : Int); omega)) rfl (fun w hw => all_ hw) ?_
  refine sd_yes2 9 rfl (by exact gd_) (by kernel_rfl) (by kernel_rfl) (by exact nop_) (pu_xor rfl rfl) rfl (fun w hw => all_ hw) ?_
  refine sd_yes2 10 rfl (by exact gd_) (by kernel_rfl) (by kernel_rfl) (by exact nop_) (PuI.all (by exact pv_Dkt)) rfl (fun w hw => all_ hw) ?_
  refine sd_one 11 (by kernel_rfl) (sa_sl 11 rfl ?_)
  rw [add_none, show 0 + ((k : Int) / 8).toNat * 1 = k / 8 by omega, show ((k : Int) % 8).toNat = k % 8 by omega]
  refine sl_sto (e := 5) (size := 1) (k := f.l.length) (c := c1) (xs := bytes f.l) rfl (by exact pick_) rfl rfl rfl (by omega) ?_
  rw [bytes_set]
  refine sl_nil ?_
  refine se_sd (fun h => absurd h (by decide)) ?_
  refine sd_done (by kernel_rfl) ?_
  rw [show f.l.set (k / 8) (bits .xor .u8 (f.l.getD (k / 8) 0) (IntKind.u8.wrap (1 * 2 ^ (k % 8)))) = turnL f.l k from rfl]
  refine go_Dkt ?_
  refine sd_drawn (fun W => AllP W [blk g7 88 [.slice (some ⟨ga, 0, none⟩) f.l.length c1, .int .i64 f.sy], dB g m lim]) (fun _ => true) (by kernel_rfl) 7 rfl ?_
  refine sd_yes2 0 rfl (by exact gd_) (by kernel_rfl) (by kernel_rfl) (by exact nop_) (PuI.all (by exact pv_Dkt)) rfl (fun w hw => all_ hw) ?_
  refine sd_yes2 1 rfl (by exact gd_) (by kernel_rfl) (by kernel_rfl) (by exact nop_) (PuI.all (by exact pv_Dkt)) rfl (fun w hw => all_ hw) ?_
  refine sd_yes2 2 rfl (by exact gd_) (by kernel_rfl) (by kernel_rfl) (by exact nop_) (PuI.all (by exact pv_Dkt)) rfl (fun w hw => all_ hw) ?_
  refine sd_yes2 3 rfl (by exact gd_) (by kernel_rfl) (by kernel_rfl) (by exact nop_) (PuI.all (by exact pv_Dkt)) rfl (fun w hw => all_ hw) ?_
  refine sd_yes2 4 rfl (by exact gd_) (by kernel_rfl) (by kernel_rfl) (by exact nop_) (PuI.all (by exact pv_Dkt)) rfl (fun w hw => all_ hw) ?_
  refine sd_yes2 5 rfl (by exact gd_) (by kernel_rfl) (by kernel_rfl) (by exact nop_) (PuI.all (by exact pv_Dkt)) rfl (fun w hw => all_ hw) ?_
  refine sd_one 6 (by kernel_rfl) (sa_sl 6 rfl ?_)
  refine sl_dput (f := f) (f' := ⟨f.s, some ⟨ga, 0, none⟩, c1, turnL f.l k, f.sy, f.bn⟩) rfl rfl (congrArg some (dval_len turnL_len)) rfl rfl (by exact pick_) rfl rfl ?_
  refine sl_nil ?_
  refine se_sd (fun _ w hw => all_ hw) ?_
  refine sd_done (by kernel_rfl) ?_
  refine go_Dkt ?_
  refine se_sub (L' := own 5 1 (some ⟨ga, 0, none⟩) f.l.length c1 (bytes (turnL f.l k)) :: dS (X ++ f :: Y) :: dB g m lim :: dM m (X ++ ⟨f.s, some ⟨ga, 0, none⟩, c1, turnL f.l k, f.sy, f.bn⟩ :: Y) ck :: K) (by exact sub_) ?_
  refine se_ent (ds_put (s := f.s) (sy := f.sy) (bn := f.bn) turnL_len) ?_
  exact se_ret1 (some ⟨ga, 0, none⟩, c1) trivial rfl rfl (by exact sub_)
end Go.Proofs.Ytemhhhikopemmaa
