/- Several texts of one claim, one behind the other (Dk4, Dk6). -/
import Derived.Test.YtemhhhikopemmaaB19
/- A disk: Read, Loose, Sync, Cut, Turn, at a file that is there. -/
namespace Go.Proofs.Ytemhhhikopemmaa
open Go.RowKit Go.MapKept
attribute [local irreducible] Go.Calls Go.Exit.then Go.Exit.inBlock Go.bodyPost Go.Code.wp Go.wpList
theorem ds_cap {L : List Fa} {fs : List DF} {f : DF} (h : At (dS fs) L) (hf : f ∈ fs) : ∀ w, Sep w L → f.l.length ≤ f.c := fun w hw => (own_cap (own_PD (star_get h (List.mem_map.2 ⟨f, hf, rfl⟩) w hw))).1
theorem ds_put {K : List Fa} {X Y : List DF} {f : DF} {s : ByteArray} {A : Option Addr} {c k sy bn : Nat} {l : List Int} (hl : l.length = k) : Ent_ (own 5 1 A k c (bytes l) :: dS (X ++ f :: Y) :: K) (dS (X ++ ⟨s, A, c, l, sy, bn⟩ :: Y) :: K) := by
  subst hl
  exact ds_swap (f' := ⟨s, A, c, l, sy, bn⟩)
theorem ds_add {K : List Fa} {fs : List DF} {s : ByteArray} {A : Option Addr} {c k sy bn : Nat} {l : List Int} (hl : l.length = k) : Ent_ (own 5 1 A k c (bytes l) :: dS fs :: K) (dS (fs ++ [⟨s, A, c, l, sy, bn⟩]) :: K) := by
  subst hl
  exact ds_new (f' := ⟨s, A, c, l, sy, bn⟩)
theorem se_sub {Q : Exit → Act → World → Prop} {e : Exit} {n : Nat} {l : Env} {L L' : List Fa} (hs : Sub L L') (h : SE Q e n l L') : SE Q e n l L := se_ent (fun _ hw => hw.sub hs) h
theorem dval_min {s : ByteArray} {A : Option Addr} {c k sy bn : Nat} {l : List Int} (hk : k ≤ l.length) : Value.agg #[.slice A k c, .int .i64 (if (k : Int) < (sy : Int) then (k : Int) else sy)] = DF.val ⟨s, A, c, l.take k, min sy k, bn⟩ := by
  unfold DF.val
  have h1 : (l.take k).length = k := by rw [List.length_take]; omega
  have h2 : (if (k : Int) < (sy : Int) then (k : Int) else sy) = ((min sy k : Nat) : Int) := by split <;> omega
  show _ = Value.agg #[.slice A (l.take k).length c, .int .i64 ((min sy k : Nat) : Int)]
  rw [h1, h2]
theorem nth_Dk4 {φ : Prop} (h : φ := by (first | rfl | rfl)) : φ := h
theorem mid_Dk4 {φ : Prop} (h : φ := by (first | exact Mid.all | exact Mid.all | exact Mid.head)) : φ := h
theorem sz_Dk4 {φ : Prop} (h : φ := by (first | rfl | (rfl; first | done | fail))) : φ := h
theorem one_Dk4 {φ : Prop} (h : φ := by (first | assumption | exact first | exact one_bytes _ | exact ff_one | (simp only [List.mem_cons, List.not_mem_nil, or_false, forall_eq_or_imp, forall_eq]; decide) | exact one_bytes _)) : φ := h
theorem set_Dk4 {φ : Prop} (h : φ := by (first | (fail) | ((repeat (first | exact SetAt.here | apply SetAt.there)); first | done | fail))) : φ := h
theorem cl_Dk4 {φ : Prop} (h : φ := by first | rfl | exact .t | exact .f | exact .t (by omega) | exact .f (by omega) | exact .u | exact .i (by (first | exact .t (by omega) | exact .f (by omega) | exact .u | exact .i (by omega) | exact .v (by omega) | exact .b (by omega) | exact .w | rfl | omega)) | exact .v (by omega) | exact .b (by omega) | exact .q (by omega) | exact .w | exact .b (by exact at_) rfl (by exact nth_Dk4) | exact .w (by exact at_) rfl rfl (by exact sz_Dk4) | exact .s (by exact at_) (by exact mid_Dk4) rfl rfl (by exact sz_Dk4) | exact .z rfl rfl ⟨by kernel_rfl⟩ | exact .b rfl rfl ⟨by kernel_rfl⟩ | exact .a rfl rfl ⟨by kernel_rfl⟩ | exact .o rfl | exact .s | exact .n | exact .p rfl | exact .q rfl | exact .c rfl | exact .d rfl | exact .n rfl rfl (by omega) | exact .a rfl rfl (by omega) | exact .p rfl rfl (by omega) (by omega) | exact .y rfl rfl (by omega) (by omega) | exact .o (by exact at_) (by omega) rfl (by exact nth_Dk4) | exact .m (by exact at_) (by omega) (by exact mid_Dk4) rfl rfl (by exact sz_Dk4) | exact .mlen (by exact at_) rfl | exact .t (by exact at_) rfl rfl (by first | exact True.intro | rfl) (by assumption) | exact .f (by exact at_) rfl rfl (by first | exact True.intro | rfl) (by assumption) rfl | exact .t1 (by exact at_) rfl rfl (by first | exact True.intro | rfl) (by assumption) | exact .f1 (by exact at_) rfl rfl (by first | exact True.intro | rfl) (by assumption) rfl | exact .r rfl rfl (by omega) (by omega) (by exact nth_Dk4) rfl | exact .s rfl (by omega) (by assumption) | exact at_ | assumption | exact .r rfl rfl | exact .h rfl rfl rfl (by omega) | exact .l rfl rfl rfl (by omega) (by omega) | exact .g rfl rfl rfl rfl (by omega) (by omega) | exact .h rfl rfl (toN_ (by omega)) (by omega) | exact .l rfl rfl (toN_ (by omega)) (by omega) (by omega) | exact .g rfl rfl (toN_ (by omega)) (toN_ (by omega)) (by omega) (by omega) | exact .o (by decide) | exact .f (by decide) | exact .n (by omega) (by first | decide | (show _ ≤ ((64 : Nat) : Int); omega)) | (constructor; (repeat (first | exact .t (by omega) | exact .f (by omega) | exact .u | exact .i (by omega) | exact .v (by omega) | exact .b (by omega) | exact .w | rfl | omega)); first | done | fail) | omega | (show _ ≤ ((64 : Nat) : Int); omega)) : φ := h
theorem pv_Dk4 {φ : Prop} (h : φ := by constructor; (repeat exact cl_Dk4); first | done | fail) : φ := h
theorem su_Dk4 {φ ψ : Prop} (k : ψ) (h : Hide ψ → φ := by (intro k; (first | refine sl_pu (PuI.sep (by exact pv_Dk4)) rfl ?_ | refine sl_yes rfl rfl ?_ | refine sl_no rfl rfl rfl ?_ | refine sl_off rfl rfl rfl ?_ | (fail)); exact k.out)) : φ := h ⟨k⟩
theorem rq_Dk4 {φ ψ : Prop} (k : ψ) (h : Hide ψ → φ := by (intro k; (first | refine wq_pu (PuI.sep (by exact pv_Dk4)) rfl ?_ | refine wq_yes rfl rfl ?_ | refine wq_no rfl rfl rfl ?_ | refine wq_off rfl rfl rfl ?_ | (fail)); exact k.out)) : φ := h ⟨k⟩
theorem sto_Dk4 {φ ψ : Prop} (k : ψ) (h : Hide ψ → φ := by (intro k; (first | refine sl_store rfl (by exact pick_) rfl rfl (by kernel_rfl) (by exact set_Dk4) ?_ | refine sl_store_whole rfl (by exact pick_) rfl (by exact sz_Dk4) (by exact sz_Dk4) (by exact one_Dk4) ?_); exact k.out)) : φ := h ⟨k⟩
theorem go_Dk4 {φ ψ : Prop} (k : ψ) (h : Hide ψ → φ := by (intro k; (repeat (first | refine su_Dk4 ?_ | refine so_ ?_ | refine sto_Dk4 ?_)); exact k.out)) : φ := h ⟨k⟩
set_option maxRecDepth 100000 in
set_option maxHeartbeats 2000000 in
theorem readD_ok {K : List Fa} {g m ck : Nat} {lim : Int} {fs : List DF} {f : DF} (hB : At (dB g m lim) K) (hM : At (dM m fs ck) K) (hS : At (dS fs) K) (hf : f ∈ fs) (hn : f.l.length ≤ 70368744177664) :
    Fn Try.prog 31 #[.pointer (some ⟨g, 0, none⟩), .string f.s] K (Ret (fun _ : Option Addr × Nat => True) (fun q => .tuple #[.slice q.1 f.l.length q.2, .int .i64 0]) (fun q => u8o q.1 q.2 f.l :: K)) := by
  refine fn_enter Try.func31 rfl _ Try.ntmps31 (by simp) [(0, .pointer (some ⟨g, 0, none⟩)), (1, .string f.s)] (args_of (by simp)) ?_
  have hg := dget hf
  unfold DF.val at hg
  refine go_Dk4 ?_
  refine sl_call rfl rfl (by kernel_rfl) rfl Sub.refl (has_yes hB hM hf) ?_
  rintro _ -
  refine go_Dk4 ?_
  refine sl_pu (pu_field2 (cs := [.slice f.A f.l.length f.c, .int .i64 f.sy]) rfl rfl rfl rfl (by kernel_rfl) rfl) rfl ?_
  refine go_Dk4 ?_
  refine sl_call rfl rfl (by kernel_rfl) rfl Sub.refl (clone_ok (K := K) (ds_get hS hf) hn) ?_
  rintro ⟨A1, c1⟩ -
  refine go_Dk4 ?_
  exact se_ret2 (A1, c1) trivial rfl rfl rfl rfl (by exact sub_)
set_option maxRecDepth 100000 in
set_option maxHeartbeats 2000000 in
theorem readD_no {K : List Fa} {g m ck : Nat} {lim : Int} {fs : List DF} {s : ByteArray} (hB : At (dB g m lim) K) (hM : At (dM m fs ck) K) (hf : ¬ DHas fs s) :
    Fn Try.prog 31 #[.pointer (some ⟨g, 0, none⟩), .string s] K (Ret (fun _ : Unit => True) (fun _ => .tuple #[.slice none 0 0, .int .i64 19]) (fun _ => K)) := by
  refine fn_enter Try.func31 rfl _ Try.ntmps31 (by simp) [(0, .pointer (some ⟨g, 0, none⟩)), (1, .string s)] (args_of (by simp)) ?_
  refine go_Dk4 ?_
  refine sl_call rfl rfl (by kernel_rfl) rfl Sub.refl (has_no hB hM hf) ?_
  rintro _ -
  refine go_Dk4 ?_
  exact se_ret2 () trivial rfl rfl rfl rfl (by exact sub_)
set_option maxRecDepth 100000 in
set_option maxHeartbeats 2000000 in
theorem looseD_ok {K : List Fa} {g m ck : Nat} {lim : Int} {fs : List DF} {f : DF} (hB : At (dB g m lim) K) (hM : At (dM m fs ck) K) (hf : f ∈ fs) (hsy : f.sy ≤ f.l.length) (hn : f.l.length ≤ 1048576) :
    Fn Try.prog 32 #[.pointer (some ⟨g, 0, none⟩), .string f.s] K (Ret (fun _ : Unit => True) (fun _ => .int .i64 (f.l.length - f.sy : Nat)) (fun _ => K)) := by
  refine fn_enter Try.func32 rfl _ Try.ntmps32 (by simp) [(0, .pointer (some ⟨g, 0, none⟩)), (1, .string f.s)] (args_of (by simp)) ?_
  have hg := dget hf
  unfold DF.val at hg
  rw [show (((f.l.length - f.sy : Nat) : Int)) = f.l.length - f.sy by omega]
  refine go_Dk4 ?_
  refine sl_call rfl rfl (by kernel_rfl) rfl Sub.refl (has_yes hB hM hf) ?_
  rintro _ -
  refine go_Dk4 ?_
  refine sq_region (by kernel_rfl) (by kernel_rfl) ?_
  repeat refine rq_Dk4 ?_
  refine wq_pu (pu_field2 (cs := [.slice f.A f.l.length f.c, .int .i64 f.sy]) rfl rfl rfl rfl (by kernel_rfl) rfl) rfl ?_
  repeat refine rq_Dk4 ?_
  refine wq_pu (pu_field2 (cs := [.slice f.A f.l.length f.c, .int .i64 f.sy]) rfl rfl rfl rfl (by kernel_rfl) rfl) rfl ?_
  repeat refine rq_Dk4 ?_
  refine sq_end ?_
  refine go_Dk4 ?_
  exact se_ret1 () trivial rfl rfl (by exact sub_)
set_option maxRecDepth 100000 in
set_option maxHeartbeats 2000000 in
theorem syncD_ok {K : List Fa} {g m ck : Nat} {lim : Int} {X Y : List DF} {f : DF} :
    Fn Try.prog 20 #[.pointer (some ⟨g, 0, none⟩), .string f.s] (dB g m lim :: dM m (X ++ f :: Y) ck :: K) (Ret (fun _ : Unit => True) (fun _ => .int .i64 0) (fun _ => dB g m lim :: dM m (X ++ { f with sy := f.l.length } :: Y) ck :: K)) := by
  refine fn_enter Try.func20 rfl _ Try.ntmps20 (by simp) [(0, .pointer (some ⟨g, 0, none⟩)), (1, .string f.s)] (args_of (by simp)) ?_
  have hg := dget (mid_mem (X := X) (Y := Y) (f := f))
  unfold DF.val at hg
  refine go_Dk4 ?_
  refine sl_call rfl rfl (by kernel_rfl) rfl Sub.refl (has_yes (by exact at_) (by exact at_) mid_mem) ?_
  rintro _ -
  refine go_Dk4 ?_
  refine sl_alloc rfl rfl rfl ?_; intro g5
  refine go_Dk4 ?_
  refine sd_drawn (fun W => AllP W [blk g5 88 [.slice f.A f.l.length f.c, .int .i64 f.l.length], dB g m lim]) (fun _ => true) (by kernel_rfl) 7 rfl ?_
  refine sd_yes2 0 rfl (by exact gd_) (by kernel_rfl) (by kernel_rfl) (by exact nop_) (PuI.all (by exact pv_Dk4)) rfl (fun w hw => all_ hw) ?_
  refine sd_yes2 1 rfl (by exact gd_) (by kernel_rfl) (by kernel_rfl) (by exact nop_) (PuI.all (by exact pv_Dk4)) rfl (fun w hw => all_ hw) ?_
  refine sd_yes2 2 rfl (by exact gd_) (by kernel_rfl) (by kernel_rfl) (by exact nop_) (PuI.all (by exact pv_Dk4)) rfl (fun w hw => all_ hw) ?_
  refine sd_yes2 3 rfl (by exact gd_) (by kernel_rfl) (by kernel_rfl) (by exact nop_) (PuI.all (by exact pv_Dk4)) rfl (fun w hw => all_ hw) ?_
  refine sd_yes2 4 rfl (by exact gd_) (by kernel_rfl) (by kernel_rfl) (by exact nop_) (PuI.all (by exact pv_Dk4)) rfl (fun w hw => all_ hw) ?_
  refine sd_yes2 5 rfl (by exact gd_) (by kernel_rfl) (by kernel_rfl) (by exact nop_) (PuI.all (by exact pv_Dk4)) rfl (fun w hw => all_ hw) ?_
  refine sd_one 6 (by kernel_rfl) (sa_sl 6 rfl ?_)
  refine sl_dput (f := f) (f' := { f with sy := f.l.length }) rfl rfl rfl rfl rfl (by exact pick_) rfl rfl ?_
  refine sl_nil ?_
  refine se_sd (fun _ w hw => all_ hw) ?_
  refine sd_done (by kernel_rfl) ?_
  refine go_Dk4 ?_
  exact se_ret1 () trivial rfl rfl (by exact sub_)
set_option maxRecDepth 100000 in
set_option maxHeartbeats 2000000 in
theorem cutD_ok {K : List Fa} {g m ck : Nat} {lim k : Int} {X Y : List DF} {f : DF} (hk : 0 ≤ k ∧ k ≤ f.l.length) (hn : f.l.length ≤ 1048576) (hsy : f.sy ≤ f.l.length) :
    Fn Try.prog 33 #[.pointer (some ⟨g, 0, none⟩), .string f.s, .int .i64 k] (dB g m lim :: dM m (X ++ f :: Y) ck :: dS (X ++ f :: Y) :: K) (Ret (fun q : DF => q.s = f.s ∧ q.l = f.l.take k.toNat ∧ q.sy = min f.sy k.toNat) (fun _ => .int .i64 0) (fun q => dB g m lim :: dM m (X ++ q :: Y) ck :: dS (X ++ q :: Y) :: K)) := by
  refine fn_enter Try.func33 rfl _ Try.ntmps33 (by simp) [(0, .pointer (some ⟨g, 0, none⟩)), (1, .string f.s), (2, .int .i64 k)] (args_of (by simp)) ?_
  have hg := dget (mid_mem (X := X) (Y := Y) (f := f))
  unfold DF.val at hg
  obtain ⟨k, rfl⟩ : ∃ j : Nat, k = j := ⟨k.toNat, by omega⟩
  rw [Int.toNat_natCast]
  refine go_Dk4 ?_
  refine sl_call rfl rfl (by kernel_rfl) rfl Sub.refl (has_yes (by exact at_) (by exact at_) mid_mem) ?_
  rintro _ -
  refine go_Dk4 ?_
  refine sl_alloc rfl rfl rfl ?_; intro g5
  refine go_Dk4 ?_
  refine sc_know (ds_cap (fs := X ++ f :: Y) (f := f) (by exact at_) mid_mem) ?_
  intro hcap
  have hr : Vw (blk g5 88 [.slice f.A f.l.length f.c, .int .i64 f.sy] :: dB g m lim :: dM m (X ++ f :: Y) ck :: dS (X ++ f :: Y) :: K) (fun w => Reads w 1 f.A k (bytes (f.l.take k))) := fun w hw => by
    have h1 := (ds_get (fs := X ++ f :: Y) (f := f) (by exact at_) mid_mem w hw).take (k := k) (by omega)
    rwa [bytes_take] at h1
  refine sd_drawn (fun W => AllP W [blk g5 88 [.slice f.A f.l.length f.c, .int .i64 f.sy], dB g m lim]) (fun _ => true) (by kernel_rfl) 16 rfl ?_
  refine sd_yes2 0 rfl (by exact gd_) (by kernel_rfl) (by kernel_rfl) (by exact nop_) (PuI.all (by exact pv_Dk4)) rfl (fun w hw => all_ hw) ?_
  refine sd_yes2 1 rfl (by exact gd_) (by kernel_rfl) (by kernel_rfl) (by exact nop_) (PuI.all (by exact pv_Dk4)) rfl (fun w hw => all_ hw) ?_
  refine sd_yes2 2 rfl (by exact gd_) (by kernel_rfl) (by kernel_rfl) (by exact nop_) (PuI.all (by exact pv_Dk4)) rfl (fun w hw => all_ hw) ?_
  refine sd_yes2 3 rfl (by exact gd_) (by kernel_rfl) (by kernel_rfl) (by exact nop_) (PuI.all (by exact pv_Dk4)) rfl (fun w hw => all_ hw) ?_
  refine sd_yes2 4 rfl (by exact gd_) (by kernel_rfl) (by kernel_rfl) (by exact nop_) (PuI.all (by exact pv_Dk4)) rfl (fun w hw => all_ hw) ?_
  refine sd_yes2 5 rfl (by exact gd_) (by kernel_rfl) (by kernel_rfl) (by exact nop_) (PuI.all (by exact pv_Dk4)) rfl (fun w hw => all_ hw) ?_
  refine sd_yes2 6 rfl (by exact gd_) (by kernel_rfl) (by kernel_rfl) (by exact nop_) (PuI.all (by exact pv_Dk4)) rfl (fun w hw => all_ hw) ?_
  refine sd_yes2 7 rfl (by exact gd_) (by kernel_rfl) (by kernel_rfl) (by exact nop_) (PuI.all (by exact pv_Dk4)) rfl (fun w hw => all_ hw) ?_
  refine sd_yes2 8 rfl (by exact gd_) (by kernel_rfl) (by kernel_rfl) (by exact nop_) (PuI.all (by exact pv_Dk4)) rfl (fun w hw => all_ hw) ?_
  refine sd_yes2 10 rfl (by exact gd_) (by kernel_rfl) (by kernel_rfl) (by exact nop_) (PuI.all (by exact pv_Dk4)) rfl (fun w hw => all_ hw) ?_
  refine sd_yes2 11 rfl (by exact gd_) (by kernel_rfl) (by kernel_rfl) (by exact nop_) (PuI.all (by exact pv_Dk4)) rfl (fun w hw => all_ hw) ?_
  refine sd_yes2 12 rfl (by exact gd_) (by kernel_rfl) (by kernel_rfl) (by exact nop_) (PuI.all (by exact pv_Dk4)) rfl (fun w hw => all_ hw) ?_
  refine sd_yes2 13 rfl (by exact gd_) (by kernel_rfl) (by kernel_rfl) (by exact nop_) (PuI.all (by exact pv_Dk4)) rfl (fun w hw => all_ hw) ?_
  refine sd_one 9 (by kernel_rfl) (sa_sl 9 rfl ?_)
  refine sl_call rfl rfl (by kernel_rfl) rfl Sub.refl (clone_ok hr (by omega)) ?_
  rintro ⟨A1, c1⟩ -
  refine sl_nil ?_
  refine se_sd (fun _ w hw => all_ hw) ?_
  refine sd_yes2 14 rfl (by exact gd_) (by kernel_rfl) (by kernel_rfl) (by exact nop_) (pu_build (v := .agg #[.slice A1 k c1, .int .i64 (if (k : Int) < (f.sy : Int) then (k : Int) else f.sy)]) rfl (fun W => by kernel_rfl)) rfl (fun w hw => all_ hw) ?_
  refine sd_one 15 (by kernel_rfl) (sa_sl 15 rfl ?_)
  refine sl_dput (f := f) (f' := ⟨f.s, A1, c1, f.l.take k, min f.sy k, f.bn⟩) rfl rfl (congrArg some (dval_min (by omega))) rfl rfl (by exact pick_) rfl rfl ?_
  refine sl_nil ?_
  refine se_sd (fun _ w hw => all_ hw) ?_
  refine sd_done (by kernel_rfl) ?_
  refine go_Dk4 ?_
  refine se_sub (L' := own 5 1 A1 k c1 (bytes (f.l.take k)) :: dS (X ++ f :: Y) :: dB g m lim :: dM m (X ++ ⟨f.s, A1, c1, f.l.take k, min f.sy k, f.bn⟩ :: Y) ck :: K) (by exact sub_) ?_
  refine se_ent (ds_put (s := f.s) (sy := min f.sy k) (bn := f.bn) (by rw [List.length_take]; omega)) ?_
  exact se_ret1 ⟨f.s, A1, c1, f.l.take k, min f.sy k, f.bn⟩ ⟨rfl, rfl, rfl⟩ rfl rfl (by exact sub_)
end Go.Proofs.Ytemhhhikopemmaa
/- A disk: Append. -/
namespace Go.Proofs.Ytemhhhikopemmaa
open Go.RowKit Go.MapKept
attribute [local irreducible] Go.Calls Go.Exit.then Go.Exit.inBlock Go.bodyPost Go.Code.wp Go.wpList
theorem nth_Dk6 {φ : Prop} (h : φ := by (first | rfl | rfl)) : φ := h
theorem mid_Dk6 {φ : Prop} (h : φ := by (first | exact Mid.all | exact Mid.all | exact Mid.head)) : φ := h
theorem sz_Dk6 {φ : Prop} (h : φ := by (first | rfl | (rfl; first | done | fail))) : φ := h
theorem one_Dk6 {φ : Prop} (h : φ := by (first | assumption | exact first | exact one_bytes _ | exact ff_one | (simp only [List.mem_cons, List.not_mem_nil, or_false, forall_eq_or_imp, forall_eq]; decide) | exact one_bytes _)) : φ := h
theorem set_Dk6 {φ : Prop} (h : φ := by (first | (fail) | ((repeat (first | exact SetAt.here | apply SetAt.there)); first | done | fail))) : φ := h
theorem cl_Dk6 {φ : Prop} (h : φ := by first | rfl | exact .t | exact .f | exact .t (by omega) | exact .f (by omega) | exact .u | exact .i (by (first | exact .t (by omega) | exact .f (by omega) | exact .u | exact .i (by omega) | exact .v (by omega) | exact .b (by omega) | exact .w | rfl | omega)) | exact .v (by omega) | exact .b (by omega) | exact .q (by omega) | exact .w | exact .b (by exact at_) rfl (by exact nth_Dk6) | exact .w (by exact at_) rfl rfl (by exact sz_Dk6) | exact .s (by exact at_) (by exact mid_Dk6) rfl rfl (by exact sz_Dk6) | exact .z rfl rfl ⟨by kernel_rfl⟩ | exact .b rfl rfl ⟨by kernel_rfl⟩ | exact .a rfl rfl ⟨by kernel_rfl⟩ | exact .o rfl | exact .s | exact .n | exact .p rfl | exact .q rfl | exact .c rfl | exact .d rfl | exact .n rfl rfl (by omega) | exact .a rfl rfl (by omega) | exact .p rfl rfl (by omega) (by omega) | exact .y rfl rfl (by omega) (by omega) | exact .o (by exact at_) (by omega) rfl (by exact nth_Dk6) | exact .m (by exact at_) (by omega) (by exact mid_Dk6) rfl rfl (by exact sz_Dk6) | exact .mlen (by exact at_) rfl | exact .t (by exact at_) rfl rfl (by first | exact True.intro | rfl) (by assumption) | exact .f (by exact at_) rfl rfl (by first | exact True.intro | rfl) (by assumption) rfl | exact .t1 (by exact at_) rfl rfl (by first | exact True.intro | rfl) (by assumption) | exact .f1 (by exact at_) rfl rfl (by first | exact True.intro | rfl) (by assumption) rfl | exact .r rfl rfl (by omega) (by omega) (by exact nth_Dk6) rfl | exact .s rfl (by omega) (by assumption) | exact at_ | assumption | exact .r rfl rfl | exact .h rfl rfl rfl (by omega) | exact .l rfl rfl rfl (by omega) (by omega) | exact .g rfl rfl rfl rfl (by omega) (by omega) | exact .h rfl rfl (toN_ (by omega)) (by omega) | exact .l rfl rfl (toN_ (by omega)) (by omega) (by omega) | exact .g rfl rfl (toN_ (by omega)) (toN_ (by omega)) (by omega) (by omega) | exact .o (by decide) | exact .f (by decide) | exact .n (by omega) (by first | decide | (show _ ≤ ((64 : Nat) : Int); omega)) | (constructor; (repeat (first | exact .t (by omega) | exact .f (by omega) | exact .u | exact .i (by omega) | exact .v (by omega) | exact .b (by omega) | exact .w | rfl | omega)); first | done | fail) | omega | (show _ ≤ ((64 : Nat) : Int); omega)) : φ := h
theorem pv_Dk6 {φ : Prop} (h : φ := by constructor; (repeat exact cl_Dk6); first | done | fail) : φ := h
theorem su_Dk6 {φ ψ : Prop} (k : ψ) (h : Hide ψ → φ := by (intro k; (first | refine sl_pu (PuI.sep (by exact pv_Dk6)) rfl ?_ | refine sl_yes rfl rfl ?_ | refine sl_no rfl rfl rfl ?_ | refine sl_off rfl rfl rfl ?_ | (fail)); exact k.out)) : φ := h ⟨k⟩
theorem rq_Dk6 {φ ψ : Prop} (k : ψ) (h : Hide ψ → φ := by (intro k; (first | refine wq_pu (PuI.sep (by exact pv_Dk6)) rfl ?_ | refine wq_yes rfl rfl ?_ | refine wq_no rfl rfl rfl ?_ | refine wq_off rfl rfl rfl ?_ | (fail)); exact k.out)) : φ := h ⟨k⟩
theorem sto_Dk6 {φ ψ : Prop} (k : ψ) (h : Hide ψ → φ := by (intro k; (first | refine sl_store rfl (by exact pick_) rfl rfl (by kernel_rfl) (by exact set_Dk6) ?_ | refine sl_store_whole rfl (by exact pick_) rfl (by exact sz_Dk6) (by exact sz_Dk6) (by exact one_Dk6) ?_); exact k.out)) : φ := h ⟨k⟩
theorem go_Dk6 {φ ψ : Prop} (k : ψ) (h : Hide ψ → φ := by (intro k; (repeat (first | refine su_Dk6 ?_ | refine so_ ?_ | refine sto_Dk6 ?_)); exact k.out)) : φ := h ⟨k⟩
set_option maxRecDepth 100000 in
set_option maxHeartbeats 2000000 in
theorem appD_bad {K : List Fa} {g : Nat} {s : ByteArray} {v : Value} (hs : s.size ≤ 9223372036854775807) (hname : nameB s = false) :
    Fn Try.prog 19 #[.pointer (some ⟨g, 0, none⟩), .string s, v] K (Ret (fun _ : Unit => True) (fun _ => .int .i64 25) (fun _ => K)) := by
  refine fn_enter Try.func19 rfl _ Try.ntmps19 (by simp) [(0, .pointer (some ⟨g, 0, none⟩)), (1, .string s), (2, v)] (args_of (by simp)) ?_
  refine go_Dk6 ?_
  refine sl_call rfl rfl (by kernel_rfl) rfl Sub.refl (name_ok hs) ?_
  rintro _ -
  rw [hname]
  refine go_Dk6 ?_
  exact se_ret1 () trivial rfl rfl (by exact sub_)
set_option maxRecDepth 100000 in
set_option maxHeartbeats 2000000 in
theorem appD_many {K : List Fa} {g m ck : Nat} {lim : Int} {fs : List DF} {s : ByteArray} {v : Value} (hB : At (dB g m lim) K) (hM : At (dM m fs ck) K) (hs : s.size ≤ 9223372036854775807) (hname : nameB s = true) (hno : ¬ DHas fs s) (h64 : fs.length = 64) :
    Fn Try.prog 19 #[.pointer (some ⟨g, 0, none⟩), .string s, v] K (Ret (fun _ : Unit => True) (fun _ => .int .i64 5) (fun _ => K)) := by
  refine fn_enter Try.func19 rfl _ Try.ntmps19 (by simp) [(0, .pointer (some ⟨g, 0, none⟩)), (1, .string s), (2, v)] (args_of (by simp)) ?_
  have hml : (fs.map DF.ent).length = 64 := by rw [List.length_map]; exact h64
  refine go_Dk6 ?_
  refine sl_call rfl rfl (by kernel_rfl) rfl Sub.refl (name_ok hs) ?_
  rintro _ -
  rw [hname]
  refine go_Dk6 ?_
  refine sl_call rfl rfl (by kernel_rfl) rfl Sub.refl (has_no hB hM hno) ?_
  rintro _ -
  refine go_Dk6 ?_
  exact se_ret1 () trivial rfl rfl (by exact sub_)
set_option maxRecDepth 100000 in
set_option maxHeartbeats 2000000 in
theorem appD_full {K : List Fa} {g m ck : Nat} {lim : Int} {fs : List DF} {s : ByteArray} {B : Option Addr} {n cb : Nat} (hB : At (dB g m lim) K) (hM : At (dM m fs ck) K) (hs : s.size ≤ 9223372036854775807) (hname : nameB s = true) (hh : (∃ f ∈ fs, f.s = s) ∨ (¬ DHas fs s ∧ fs.length ≠ 64)) (hl : 0 ≤ lim ∧ lim ≤ 1048576) (hu : (usedN fs : Int) ≤ lim) (hn : n ≤ 9223372036854775807) (hfull : lim < (n : Int) + usedN fs) :
    Fn Try.prog 19 #[.pointer (some ⟨g, 0, none⟩), .string s, .slice B n cb] K (Ret (fun _ : Unit => True) (fun _ => .int .i64 18) (fun _ => K)) := by
  refine fn_enter Try.func19 rfl _ Try.ntmps19 (by simp) [(0, .pointer (some ⟨g, 0, none⟩)), (1, .string s), (2, .slice B n cb)] (args_of (by simp)) ?_
  have hml : (fs.map DF.ent).length = fs.length := List.length_map _
  refine go_Dk6 ?_
  refine sl_call rfl rfl (by kernel_rfl) rfl Sub.refl (name_ok hs) ?_
  rintro _ -
  rw [hname]
  refine go_Dk6 ?_
  rcases hh with ⟨f, hf, rfl⟩ | ⟨hno, h64⟩
  · refine sl_call rfl rfl (by kernel_rfl) rfl Sub.refl (has_yes hB hM hf) ?_
    rintro _ -
    refine go_Dk6 ?_
    refine sd_drawn (fun W => AllP W [dB g m lim]) (fun _ => true) (by kernel_rfl) 11 rfl ?_
    refine sd_yes2 0 rfl (by exact gd_) (by kernel_rfl) (by kernel_rfl) (by exact nop_) (PuI.all (by exact pv_Dk6)) rfl (fun w hw => all_ hw) ?_
    refine sd_yes2 1 rfl (by exact gd_) (by kernel_rfl) (by kernel_rfl) (by exact nop_) (PuI.all (by exact pv_Dk6)) rfl (fun w hw => all_ hw) ?_
    refine sd_yes2 2 rfl (by exact gd_) (by kernel_rfl) (by kernel_rfl) (by exact nop_) (PuI.all (by exact pv_Dk6)) rfl (fun w hw => all_ hw) ?_
    refine sd_yes2 3 rfl (by exact gd_) (by kernel_rfl) (by kernel_rfl) (by exact nop_) (PuI.all (by exact pv_Dk6)) rfl (fun w hw => all_ hw) ?_
    refine sd_yes2 4 rfl (by exact gd_) (by kernel_rfl) (by kernel_rfl) (by exact nop_) (PuI.all (by exact pv_Dk6)) rfl (fun w hw => all_ hw) ?_
    refine sd_yes2 5 rfl (by exact gd_) (by kernel_rfl) (by kernel_rfl) (by exact nop_) (PuI.all (by exact pv_Dk6)) rfl (fun w hw => all_ hw) ?_
    refine sd_yes2 6 rfl (by exact gd_) (by kernel_rfl) (by kernel_rfl) (by exact nop_) (PuI.all (by exact pv_Dk6)) rfl (fun w hw => all_ hw) ?_
    refine sd_one 7 (by kernel_rfl) (sa_sl 7 rfl ?_)
    refine sl_call rfl rfl (by kernel_rfl) rfl Sub.refl (used_ok hB hM (by omega)) ?_
    rintro _ -
    refine sl_nil ?_
    refine se_sd (fun _ w hw => all_ hw) ?_
    refine sd_yes2 8 rfl (by exact gd_) (by kernel_rfl) (by kernel_rfl) (by exact nop_) (PuI.all (by exact pv_Dk6)) rfl (fun w hw => all_ hw) ?_
    refine sd_yes2 9 rfl (by exact gd_) (by kernel_rfl) (by kernel_rfl) (by exact nop_) (PuI.all (by exact pv_Dk6)) rfl (fun w hw => all_ hw) ?_
    refine sd_yes2 10 rfl (by exact gd_) (by kernel_rfl) (by kernel_rfl) (by exact nop_) (PuI.all (by exact pv_Dk6)) rfl (fun w hw => all_ hw) ?_
    refine sd_done (by kernel_rfl) ?_
    refine go_Dk6 ?_
    exact se_ret1 () trivial rfl rfl (by exact sub_)
  · refine sl_call rfl rfl (by kernel_rfl) rfl Sub.refl (has_no hB hM hno) ?_
    rintro _ -
    refine go_Dk6 ?_
    refine sd_drawn (fun W => AllP W [dB g m lim]) (fun _ => true) (by kernel_rfl) 11 rfl ?_
    refine sd_yes2 0 rfl (by exact gd_) (by kernel_rfl) (by kernel_rfl) (by exact nop_) (PuI.all (by exact pv_Dk6)) rfl (fun w hw => all_ hw) ?_
    refine sd_yes2 1 rfl (by exact gd_) (by kernel_rfl) (by kernel_rfl) (by exact nop_) (PuI.all (by exact pv_Dk6)) rfl (fun w hw => all_ hw) ?_
    refine sd_yes2 2 rfl (by exact gd_) (by kernel_rfl) (by kernel_rfl) (by exact nop_) (PuI.all (by exact pv_Dk6)) rfl (fun w hw => all_ hw) ?_
    refine sd_yes2 3 rfl (by exact gd_) (by kernel_rfl) (by kernel_rfl) (by exact nop_) (PuI.all (by exact pv_Dk6)) rfl (fun w hw => all_ hw) ?_
    refine sd_yes2 4 rfl (by exact gd_) (by kernel_rfl) (by kernel_rfl) (by exact nop_) (PuI.all (by exact pv_Dk6)) rfl (fun w hw => all_ hw) ?_
    refine sd_yes2 5 rfl (by exact gd_) (by kernel_rfl) (by kernel_rfl) (by exact nop_) (PuI.all (by exact pv_Dk6)) rfl (fun w hw => all_ hw) ?_
    refine sd_yes2 6 rfl (by exact gd_) (by kernel_rfl) (by kernel_rfl) (by exact nop_) (PuI.all (by exact pv_Dk6)) rfl (fun w hw => all_ hw) ?_
    refine sd_one 7 (by kernel_rfl) (sa_sl 7 rfl ?_)
    refine sl_call rfl rfl (by kernel_rfl) rfl Sub.refl (used_ok hB hM (by omega)) ?_
    rintro _ -
    refine sl_nil ?_
    refine se_sd (fun _ w hw => all_ hw) ?_
    refine sd_yes2 8 rfl (by exact gd_) (by kernel_rfl) (by kernel_rfl) (by exact nop_) (PuI.all (by exact pv_Dk6)) rfl (fun w hw => all_ hw) ?_
    refine sd_yes2 9 rfl (by exact gd_) (by kernel_rfl) (by kernel_rfl) (by exact nop_) (PuI.all (by exact pv_Dk6)) rfl (fun w hw => all_ hw) ?_
    refine sd_yes2 10 rfl (by exact gd_) (by kernel_rfl) (by kernel_rfl) (by exact nop_) (PuI.all (by exact pv_Dk6)) rfl (fun w hw => all_ hw) ?_
    refine sd_done (by kernel_rfl) ?_
    refine go_Dk6 ?_
    exact se_ret1 () trivial rfl rfl (by exact sub_)
set_option maxRecDepth 100000 in
set_option maxHeartbeats 2000000 in
theorem appD_new {K : List Fa} {g m ck : Nat} {lim : Int} {fs : List DF} {s : ByteArray} {B : Option Addr} {cb : Nat} {b : List Int} (hs : s.size ≤ 9223372036854775807) (hname : nameB s = true) (hno : ¬ DHas fs s) (h64 : fs.length < 64) (hl : 0 ≤ lim ∧ lim ≤ 1048576) (hfit : (b.length : Int) + usedN fs ≤ lim) (hb : Vw (dB g m lim :: dM m fs ck :: dS fs :: K) (fun w => Reads w 1 B b.length (bytes b))) :
    Fn Try.prog 19 #[.pointer (some ⟨g, 0, none⟩), .string s, .slice B b.length cb] (dB g m lim :: dM m fs ck :: dS fs :: K) (Ret (fun _ : Option Addr × Nat => True) (fun _ => .int .i64 0) (fun q => dB g m lim :: dM m (fs ++ [⟨s, q.1, q.2, b, 0, ck⟩]) (ck + 1) :: dS (fs ++ [⟨s, q.1, q.2, b, 0, ck⟩]) :: K)) := by
  refine fn_enter Try.func19 rfl _ Try.ntmps19 (by simp) [(0, .pointer (some ⟨g, 0, none⟩)), (1, .string s), (2, .slice B b.length cb)] (args_of (by simp)) ?_
  have hml : (fs.map DF.ent).length = fs.length := List.length_map _
  have hg := dno hno
  refine go_Dk6 ?_
  refine sl_call rfl rfl (by kernel_rfl) rfl Sub.refl (name_ok hs) ?_
  rintro _ -
  rw [hname]
  refine go_Dk6 ?_
  refine sl_call rfl rfl (by kernel_rfl) rfl Sub.refl (has_no (by exact at_) (by exact at_) hno) ?_
  rintro _ -
  refine go_Dk6 ?_
  refine sd_drawn (fun W => AllP W [dB g m lim]) (fun _ => true) (by kernel_rfl) 11 rfl ?_
  refine sd_yes2 0 rfl (by exact gd_) (by kernel_rfl) (by kernel_rfl) (by exact nop_) (PuI.all (by exact pv_Dk6)) rfl (fun w hw => all_ hw) ?_
  refine sd_yes2 1 rfl (by exact gd_) (by kernel_rfl) (by kernel_rfl) (by exact nop_) (PuI.all (by exact pv_Dk6)) rfl (fun w hw => all_ hw) ?_
  refine sd_yes2 2 rfl (by exact gd_) (by kernel_rfl) (by kernel_rfl) (by exact nop_) (PuI.all (by exact pv_Dk6)) rfl (fun w hw => all_ hw) ?_
  refine sd_yes2 3 rfl (by exact gd_) (by kernel_rfl) (by kernel_rfl) (by exact nop_) (PuI.all (by exact pv_Dk6)) rfl (fun w hw => all_ hw) ?_
  refine sd_yes2 4 rfl (by exact gd_) (by kernel_rfl) (by kernel_rfl) (by exact nop_) (PuI.all (by exact pv_Dk6)) rfl (fun w hw => all_ hw) ?_
  refine sd_yes2 5 rfl (by exact gd_) (by kernel_rfl) (by kernel_rfl) (by exact nop_) (PuI.all (by exact pv_Dk6)) rfl (fun w hw => all_ hw) ?_
  refine sd_yes2 6 rfl (by exact gd_) (by kernel_rfl) (by kernel_rfl) (by exact nop_) (PuI.all (by exact pv_Dk6)) rfl (fun w hw => all_ hw) ?_
  refine sd_one 7 (by kernel_rfl) (sa_sl 7 rfl ?_)
  refine sl_call rfl rfl (by kernel_rfl) rfl Sub.refl (used_ok (by exact at_) (by exact at_) (by omega)) ?_
  rintro _ -
  refine sl_nil ?_
  refine se_sd (fun _ w hw => all_ hw) ?_
  refine sd_yes2 8 rfl (by exact gd_) (by kernel_rfl) (by kernel_rfl) (by exact nop_) (PuI.all (by exact pv_Dk6)) rfl (fun w hw => all_ hw) ?_
  refine sd_yes2 9 rfl (by exact gd_) (by kernel_rfl) (by kernel_rfl) (by exact nop_) (PuI.all (by exact pv_Dk6)) rfl (fun w hw => all_ hw) ?_
  refine sd_yes2 10 rfl (by exact gd_) (by kernel_rfl) (by kernel_rfl) (by exact nop_) (PuI.all (by exact pv_Dk6)) rfl (fun w hw => all_ hw) ?_
  refine sd_done (by kernel_rfl) ?_
  refine go_Dk6 ?_
  refine sl_alloc rfl rfl rfl ?_; intro g7
  refine go_Dk6 ?_
  refine sl_call rfl rfl (by kernel_rfl) rfl Sub.refl (clone_ok (A := none) (n := 0) (bs := []) (fun w _ => Reads.nil_ _) (by decide)) ?_
  rintro ⟨A1, c1⟩ -
  refine go_Dk6 ?_
  refine sl_app (A := A1) (k := 0) (c := c1) rfl (by exact pick_) rfl (hb.mono (by exact sub_)) (one_bytes _) rfl Try.info5 (by decide) (by decide) rfl (by unfold maxLen; omega) (by omega) ?_
  intro A2 c2
  rw [← bytes_app, List.nil_append, Nat.zero_add]
  refine go_Dk6 ?_
  refine sd_drawn (fun W => AllP W [blk g7 88 [.slice A2 b.length c2, .int .i64 0], dB g m lim]) (fun _ => true) (by kernel_rfl) 7 rfl ?_
  refine sd_yes2 0 rfl (by exact gd_) (by kernel_rfl) (by kernel_rfl) (by exact nop_) (PuI.all (by exact pv_Dk6)) rfl (fun w hw => all_ hw) ?_
  refine sd_yes2 1 rfl (by exact gd_) (by kernel_rfl) (by kernel_rfl) (by exact nop_) (PuI.all (by exact pv_Dk6)) rfl (fun w hw => all_ hw) ?_
  refine sd_yes2 2 rfl (by exact gd_) (by kernel_rfl) (by kernel_rfl) (by exact nop_) (PuI.all (by exact pv_Dk6)) rfl (fun w hw => all_ hw) ?_
  refine sd_yes2 3 rfl (by exact gd_) (by kernel_rfl) (by kernel_rfl) (by exact nop_) (PuI.all (by exact pv_Dk6)) rfl (fun w hw => all_ hw) ?_
  refine sd_yes2 4 rfl (by exact gd_) (by kernel_rfl) (by kernel_rfl) (by exact nop_) (PuI.all (by exact pv_Dk6)) rfl (fun w hw => all_ hw) ?_
  refine sd_yes2 5 rfl (by exact gd_) (by kernel_rfl) (by kernel_rfl) (by exact nop_) (PuI.all (by exact pv_Dk6)) rfl (fun w hw => all_ hw) ?_
  refine sd_one 6 (by kernel_rfl) (sa_sl 6 rfl ?_)
  refine sl_dnew (fs := fs) (f' := ⟨s, A2, c2, b, 0, ck⟩) rfl rfl rfl rfl rfl hno (by exact pick_) rfl rfl ?_
  refine sl_nil ?_
  refine se_sd (fun _ w hw => all_ hw) ?_
  refine sd_done (by kernel_rfl) ?_
  refine go_Dk6 ?_
  refine se_sub (L' := own 5 1 A2 b.length c2 (bytes b) :: dS fs :: dB g m lim :: dM m (fs ++ [⟨s, A2, c2, b, 0, ck⟩]) (ck + 1) :: K) (by exact sub_) ?_
  refine se_ent (ds_add (s := s) (sy := 0) (bn := ck) rfl) ?_
  exact se_ret1 (A2, c2) trivial rfl rfl (by exact sub_)
set_option maxRecDepth 100000 in
set_option maxHeartbeats 2000000 in
theorem appD_yes {K : List Fa} {g m ck : Nat} {lim : Int} {X Y : List DF} {f : DF} {B : Option Addr} {cb : Nat} {b : List Int} (hs : f.s.size ≤ 9223372036854775807) (hname : nameB f.s = true) (hl : 0 ≤ lim ∧ lim ≤ 1048576) (hfit : (b.length : Int) + usedN (X ++ f :: Y) ≤ lim) (hb : Vw (dB g m lim :: dM m (X ++ f :: Y) ck :: dS (X ++ f :: Y) :: K) (fun w => Reads w 1 B b.length (bytes b))) :
    Fn Try.prog 19 #[.pointer (some ⟨g, 0, none⟩), .string f.s, .slice B b.length cb] (dB g m lim :: dM m (X ++ f :: Y) ck :: dS (X ++ f :: Y) :: K) (Ret (fun _ : Option Addr × Nat => True) (fun _ => .int .i64 0) (fun q => dB g m lim :: dM m (X ++ ⟨f.s, q.1, q.2, f.l ++ b, f.sy, f.bn⟩ :: Y) ck :: dS (X ++ ⟨f.s, q.1, q.2, f.l ++ b, f.sy, f.bn⟩ :: Y) :: K)) := by
  refine fn_enter Try.func19 rfl _ Try.ntmps19 (by simp) [(0, .pointer (some ⟨g, 0, none⟩)), (1, .string f.s), (2, .slice B b.length cb)] (args_of (by simp)) ?_
  have hg := dget (mid_mem (X := X) (Y := Y) (f := f))
  unfold DF.val at hg
  have hle := used_le (mid_mem (X := X) (Y := Y) (f := f))
  refine go_Dk6 ?_
  refine sl_call rfl rfl (by kernel_rfl) rfl Sub.refl (name_ok hs) ?_
  rintro _ -
  rw [hname]
  refine go_Dk6 ?_
  refine sl_call rfl rfl (by kernel_rfl) rfl Sub.refl (has_yes (by exact at_) (by exact at_) mid_mem) ?_
  rintro _ -
  refine go_Dk6 ?_
  refine sd_drawn (fun W => AllP W [dB g m lim]) (fun _ => true) (by kernel_rfl) 11 rfl ?_
  refine sd_yes2 0 rfl (by exact gd_) (by kernel_rfl) (by kernel_rfl) (by exact nop_) (PuI.all (by exact pv_Dk6)) rfl (fun w hw => all_ hw) ?_
  refine sd_yes2 1 rfl (by exact gd_) (by kernel_rfl) (by kernel_rfl) (by exact nop_) (PuI.all (by exact pv_Dk6)) rfl (fun w hw => all_ hw) ?_
  refine sd_yes2 2 rfl (by exact gd_) (by kernel_rfl) (by kernel_rfl) (by exact nop_) (PuI.all (by exact pv_Dk6)) rfl (fun w hw => all_ hw) ?_
  refine sd_yes2 3 rfl (by exact gd_) (by kernel_rfl) (by kernel_rfl) (by exact nop_) (PuI.all (by exact pv_Dk6)) rfl (fun w hw => all_ hw) ?_
  refine sd_yes2 4 rfl (by exact gd_) (by kernel_rfl) (by kernel_rfl) (by exact nop_) (PuI.all (by exact pv_Dk6)) rfl (fun w hw => all_ hw) ?_
  refine sd_yes2 5 rfl (by exact gd_) (by kernel_rfl) (by kernel_rfl) (by exact nop_) (PuI.all (by exact pv_Dk6)) rfl (fun w hw => all_ hw) ?_
  refine sd_yes2 6 rfl (by exact gd_) (by kernel_rfl) (by kernel_rfl) (by exact nop_) (PuI.all (by exact pv_Dk6)) rfl (fun w hw => all_ hw) ?_
  refine sd_one 7 (by kernel_rfl) (sa_sl 7 rfl ?_)
  refine sl_call rfl rfl (by kernel_rfl) rfl Sub.refl (used_ok (by exact at_) (by exact at_) (by omega)) ?_
  rintro _ -
  refine sl_nil ?_
  refine se_sd (fun _ w hw => all_ hw) ?_
  refine sd_yes2 8 rfl (by exact gd_) (by kernel_rfl) (by kernel_rfl) (by exact nop_) (PuI.all (by exact pv_Dk6)) rfl (fun w hw => all_ hw) ?_
  refine sd_yes2 9 rfl (by exact gd_) (by kernel_rfl) (by kernel_rfl) (by exact nop_) (PuI.all (by exact pv_Dk6)) rfl (fun w hw => all_ hw) ?_
  refine sd_yes2 10 rfl (by exact gd_) (by kernel_rfl) (by kernel_rfl) (by exact nop_) (PuI.all (by exact pv_Dk6)) rfl (fun w hw => all_ hw) ?_
  refine sd_done (by kernel_rfl) ?_
  refine go_Dk6 ?_
  refine sl_alloc rfl rfl rfl ?_; intro g7
  refine go_Dk6 ?_
  refine sl_call rfl rfl (by kernel_rfl) rfl Sub.refl (clone_ok (ds_get (fs := X ++ f :: Y) (f := f) (by exact at_) mid_mem) (by omega)) ?_
  rintro ⟨A1, c1⟩ -
  refine go_Dk6 ?_
  refine sl_app (A := A1) (k := f.l.length) (c := c1) rfl (by exact pick_) rfl (hb.mono (by exact sub_)) (one_bytes _) rfl Try.info5 (by decide) (by decide) rfl (by unfold maxLen; omega) (by omega) ?_
  intro A2 c2
  rw [← bytes_app, ← List.length_append]
  refine go_Dk6 ?_
  refine sd_drawn (fun W => AllP W [blk g7 88 [.slice A2 (f.l ++ b).length c2, .int .i64 f.sy], dB g m lim]) (fun _ => true) (by kernel_rfl) 7 rfl ?_
  refine sd_yes2 0 rfl (by exact gd_) (by kernel_rfl) (by kernel_rfl) (by exact nop_) (PuI.all (by exact pv_Dk6)) rfl (fun w hw => all_ hw) ?_
  refine sd_yes2 1 rfl (by exact gd_) (by kernel_rfl) (by kernel_rfl) (by exact nop_) (PuI.all (by exact pv_Dk6)) rfl (fun w hw => all_ hw) ?_
  refine sd_yes2 2 rfl (by exact gd_) (by kernel_rfl) (by kernel_rfl) (by exact nop_) (PuI.all (by exact pv_Dk6)) rfl (fun w hw => all_ hw) ?_
  refine sd_yes2 3 rfl (by exact gd_) (by kernel_rfl) (by kernel_rfl) (by exact nop_) (PuI.all (by exact pv_Dk6)) rfl (fun w hw => all_ hw) ?_
  refine sd_yes2 4 rfl (by exact gd_) (by kernel_rfl) (by kernel_rfl) (by exact nop_) (PuI.all (by exact pv_Dk6)) rfl (fun w hw => all_ hw) ?_
  refine sd_yes2 5 rfl (by exact gd_) (by kernel_rfl) (by kernel_rfl) (by exact nop_) (PuI.all (by exact pv_Dk6)) rfl (fun w hw => all_ hw) ?_
  refine sd_one 6 (by kernel_rfl) (sa_sl 6 rfl ?_)
  refine sl_dput (f := f) (f' := ⟨f.s, A2, c2, f.l ++ b, f.sy, f.bn⟩) rfl rfl rfl rfl rfl (by exact pick_) rfl rfl ?_
  refine sl_nil ?_
  refine se_sd (fun _ w hw => all_ hw) ?_
  refine sd_done (by kernel_rfl) ?_
  refine go_Dk6 ?_
  refine se_sub (L' := own 5 1 A2 (f.l ++ b).length c2 (bytes (f.l ++ b)) :: dS (X ++ f :: Y) :: dB g m lim :: dM m (X ++ ⟨f.s, A2, c2, f.l ++ b, f.sy, f.bn⟩ :: Y) ck :: K) (by exact sub_) ?_
  refine se_ent (ds_put (s := f.s) (sy := f.sy) (bn := f.bn) rfl) ?_
  exact se_ret1 (A2, c2) trivial rfl rfl (by exact sub_)
end Go.Proofs.Ytemhhhikopemmaa
