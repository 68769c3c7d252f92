/- A disk: Copy. -/
import Derived.Test.YtemhhhikopemmaaDk8
namespace Go.Proofs.Ytemhhhikopemmaa
open Go.RowKit Go.MapKept
attribute [local irreducible] Go.Calls Go.Exit.then Go.Exit.inBlock Go.bodyPost Go.Code.wp Go.wpList
structure Cp where
  g : Nat
  m : Nat
  fs : List DF
  ck : Nat
structure Cq where
  us : List DF
  nf : List DF
  ck : Nat
theorem nth_Dk9 {φ : Prop} (h : φ := by (first | rfl | rfl)) : φ := h
theorem mid_Dk9 {φ : Prop} (h : φ := by (first | exact Mid.all | exact Mid.all | exact Mid.head)) : φ := h
theorem sz_Dk9 {φ : Prop} (h : φ := by (first | rfl | (rfl; first | done | fail))) : φ := h
theorem one_Dk9 {φ : Prop} (h : φ := by (first | assumption | exact first | exact one_bytes _ | exact ff_one | (simp only [List.mem_cons, List.not_mem_nil, or_false, forall_eq_or_imp, forall_eq]; decide) | exact one_bytes _)) : φ := h
theorem set_Dk9 {φ : Prop} (h : φ := by (first | (fail) | ((repeat (first | exact SetAt.here | apply SetAt.there)); first | done | fail))) : φ := h
theorem cl_Dk9 {φ : Prop} (h : φ := by first | rfl | exact .t | exact .f | exact .t (by omega) | exact .f (by omega) | exact .u | exact .i (by (first | exact .t (by omega) | exact .f (by omega) | exact .u | exact .i (by omega) | exact .v (by omega) | exact .b (by omega) | exact .w | rfl | omega)) | exact .v (by omega) | exact .b (by omega) | exact .q (by omega) | exact .w | exact .b (by exact at_) rfl (by exact nth_Dk9) | exact .w (by exact at_) rfl rfl (by exact sz_Dk9) | exact .s (by exact at_) (by exact mid_Dk9) rfl rfl (by exact sz_Dk9) | exact .z rfl rfl ⟨by kernel_rfl⟩ | exact .b rfl rfl ⟨by kernel_rfl⟩ | exact .a rfl rfl ⟨by kernel_rfl⟩ | exact .o rfl | exact .s | exact .n | exact .p rfl | exact .q rfl | exact .c rfl | exact .d rfl | exact .n rfl rfl (by omega) | exact .a rfl rfl (by omega) | exact .p rfl rfl (by omega) (by omega) | exact .y rfl rfl (by omega) (by omega) | exact .o (by exact at_) (by omega) rfl (by exact nth_Dk9) | exact .m (by exact at_) (by omega) (by exact mid_Dk9) rfl rfl (by exact sz_Dk9) | exact .mlen (by exact at_) rfl | exact .t (by exact at_) rfl rfl (by first | exact True.intro | rfl) (by assumption) | exact .f (by exact at_) rfl rfl (by first | exact True.intro | rfl) (by assumption) rfl | exact .t1 (by exact at_) rfl rfl (by first | exact True.intro | rfl) (by assumption) | exact .f1 (by exact at_) rfl rfl (by first | exact True.intro | rfl) (by assumption) rfl | exact .r rfl rfl (by omega) (by omega) (by exact nth_Dk9) rfl | exact .s rfl (by omega) (by assumption) | exact at_ | assumption | exact .r rfl rfl | exact .h rfl rfl rfl (by omega) | exact .l rfl rfl rfl (by omega) (by omega) | exact .g rfl rfl rfl rfl (by omega) (by omega) | exact .h rfl rfl (toN_ (by omega)) (by omega) | exact .l rfl rfl (toN_ (by omega)) (by omega) (by omega) | exact .g rfl rfl (toN_ (by omega)) (toN_ (by omega)) (by omega) (by omega) | exact .o (by decide) | exact .f (by decide) | exact .n (by omega) (by first | decide | (show _ ≤ ((64 : Nat) : Int); omega)) | (constructor; (repeat (first | exact .t (by omega) | exact .f (by omega) | exact .u | exact .i (by omega) | exact .v (by omega) | exact .b (by omega) | exact .w | rfl | omega)); first | done | fail) | omega | (show _ ≤ ((64 : Nat) : Int); omega)) : φ := h
theorem pv_Dk9 {φ : Prop} (h : φ := by constructor; (repeat exact cl_Dk9); first | done | fail) : φ := h
theorem su_Dk9 {φ ψ : Prop} (k : ψ) (h : Hide ψ → φ := by (intro k; (first | refine sl_pu (PuI.sep (by exact pv_Dk9)) rfl ?_ | refine sl_yes rfl rfl ?_ | refine sl_no rfl rfl rfl ?_ | refine sl_off rfl rfl rfl ?_); exact k.out)) : φ := h ⟨k⟩
theorem rq_Dk9 {φ ψ : Prop} (k : ψ) (h : Hide ψ → φ := by (intro k; (first | refine wq_pu (PuI.sep (by exact pv_Dk9)) rfl ?_ | refine wq_yes rfl rfl ?_ | refine wq_no rfl rfl rfl ?_ | refine wq_off rfl rfl rfl ?_); exact k.out)) : φ := h ⟨k⟩
theorem sto_Dk9 {φ ψ : Prop} (k : ψ) (h : Hide ψ → φ := by (intro k; (first | refine sl_store rfl (by exact pick_) rfl rfl (by kernel_rfl) (by exact set_Dk9) ?_ | refine sl_store_whole rfl (by exact pick_) rfl (by exact sz_Dk9) (by exact sz_Dk9) (by exact one_Dk9) ?_); exact k.out)) : φ := h ⟨k⟩
theorem go_Dk9 {φ ψ : Prop} (k : ψ) (h : Hide ψ → φ := by (intro k; (repeat (first | refine su_Dk9 ?_ | refine so_ ?_ | refine sto_Dk9 ?_)); exact k.out)) : φ := h ⟨k⟩
set_option maxRecDepth 100000 in
set_option maxHeartbeats 2000000 in
theorem copyD_ok {K : List Fa} {g m ck : Nat} {lim : Int} {fs : List DF} (hl : 0 ≤ lim ∧ lim ≤ 1048576) (hok : ∀ f ∈ fs, f.l.length ≤ 1048576) :
    Fn Try.prog 29 #[.pointer (some ⟨g, 0, none⟩)] (dB g m lim :: dM m fs ck :: dS fs :: K) (Ret (fun q : Cp => (q.fs.map DF.ab).Perm (fs.map DF.ab)) (fun q => .pointer (some ⟨q.g, 0, none⟩)) (fun q => dB q.g q.m lim :: dM q.m q.fs q.ck :: dS q.fs :: dB g m lim :: dM m fs ck :: dS fs :: K)) := by
  refine fn_know (mp_nodup (m := m) (ck := ck) (fs := fs) (by exact at_)) ?_
  rintro ⟨hnd, hks⟩
  refine fn_enter Try.func29 rfl _ Try.ntmps29 (by simp) [(0, .pointer (some ⟨g, 0, none⟩))] (args_of (by simp)) ?_
  refine go_Dk9 ?_
  refine sl_call rfl rfl (by kernel_rfl) rfl Sub.refl newD_ok ?_
  rintro ⟨g2, m2⟩ -
  dsimp only
  rw [show limL lim = lim by unfold limL; split <;> split at * <;> omega]
  refine go_Dk9 ?_
  refine sl_range (g := m) (es := fs.map DF.ent) rfl (by exact at_) rfl rfl ?_
  intro r
  refine go_Dk9 ?_
  refine sc_for (fun _ : Cq => [(3, .pointer (some ⟨g2, 0, none⟩)), (17, .pointer (some ⟨r, 0, none⟩))]) (fun p => dB g2 m2 lim :: dM m2 p.nf p.ck :: dS p.nf :: itr r m ck (p.us.map DF.ent) :: dB g m lim :: dM m fs ck :: dS fs :: K) (fun p => (p.us.Nodup ∧ ∀ u ∈ p.us, u ∈ fs) ∧ p.nf.map DF.ab = p.us.map DF.ab) (fun p => fs.length - p.us.length) ⟨[], [], 0⟩ (by exact has_) (by exact sub_) ⟨⟨List.nodup_nil, fun _ h => by cases h⟩, rfl⟩ ?_
  rintro ⟨us, nf, ck2⟩ ⟨⟨hun, hus⟩, hab⟩
  dsimp only at hun hus hab ⊢
  refine sc_seq ?_
  refine sc_region ?_
  refine sl_next (g := m) (es := fs.map DF.ent) rfl (by exact at_) (by exact pick_) (fun y hy => by obtain ⟨u, hu, rfl⟩ := List.mem_map.1 hy; exact List.mem_map_of_mem (hus u hu)) rfl (fun hall => ?_) (fun y hy hn => ?_)
  · have hp : us.Perm fs := (List.perm_ext_iff_of_nodup hun hnd).2 fun x => ⟨hus x, fun hx => by
      obtain ⟨u, hu, he⟩ := List.mem_map.1 (hall _ (List.mem_map_of_mem hx))
      rwa [← ent_inj hks (hus u hu) hx he]⟩
    refine go_Dk9 ?_
    exact se_ret1 ⟨g2, m2, nf, ck2⟩ (by show (nf.map DF.ab).Perm _; rw [hab]; exact hp.map _) rfl rfl (by exact sub_)
  · obtain ⟨f, hf, rfl⟩ := List.mem_map.1 hy
    have hfu : f ∉ us := fun h => hn (List.mem_map_of_mem h)
    have hnd' : (us ++ [f]).Nodup := List.nodup_append.2 ⟨hun, List.nodup_cons.2 ⟨by simp, List.nodup_nil⟩, fun a ha b hb e => by rw [List.mem_singleton] at hb; exact hfu (by rw [← hb, ← e]; exact ha)⟩
    have hsub : ∀ u ∈ us ++ [f], u ∈ fs := fun u h => by
      rcases List.mem_append.1 h with h | h
      · exact hus u h
      · rw [List.mem_singleton] at h
        rw [h]
        exact hf
    obtain ⟨z, hz⟩ := sub_split hnd' hnd hsub
    have hlen2 := hz.length_eq
    rw [List.length_append, List.length_append, List.length_singleton] at hlen2
    have hm : us.map DF.ent ++ [f.ent] = (us ++ [f]).map DF.ent := by simp
    have hno : ¬ DHas nf f.s := fun ⟨u, hu, he⟩ => by
      have h1 : u.ab ∈ us.map DF.ab := by rw [← hab]; exact List.mem_map_of_mem hu
      obtain ⟨v, hv, hvab⟩ := List.mem_map.1 h1
      have h2 : v.s = f.s := (congrArg Fi.s hvab).trans he
      exact hfu (by rw [← pw_one (f := DF.s) hks (hus v hv) hf h2]; exact hv)
    have hbig := hok f hf
    refine go_Dk9 ?_
    rw [hm]
    refine sl_alloc rfl rfl rfl ?_; intro g5
    refine go_Dk9 ?_
    refine sd_drawn (fun W => AllP W [blk g5 88 [.slice f.A f.l.length f.c, .int .i64 f.sy], dB g2 m2 lim]) (fun _ => true) (by kernel_rfl) 12 rfl ?_
    refine sd_yes2 0 rfl (by exact gd_) (by kernel_rfl) (by kernel_rfl) (by exact nop_) (PuI.all (by exact pv_Dk9)) rfl (fun w hw => all_ hw) ?_
    refine sd_yes2 1 rfl (by exact gd_) (by kernel_rfl) (by kernel_rfl) (by exact nop_) (PuI.all (by exact pv_Dk9)) rfl (fun w hw => all_ hw) ?_
    refine sd_yes2 2 rfl (by exact gd_) (by kernel_rfl) (by kernel_rfl) (by exact nop_) (PuI.all (by exact pv_Dk9)) rfl (fun w hw => all_ hw) ?_
    refine sd_yes2 3 rfl (by exact gd_) (by kernel_rfl) (by kernel_rfl) (by exact nop_) (PuI.all (by exact pv_Dk9)) rfl (fun w hw => all_ hw) ?_
    refine sd_yes2 4 rfl (by exact gd_) (by kernel_rfl) (by kernel_rfl) (by exact nop_) (PuI.all (by exact pv_Dk9)) rfl (fun w hw => all_ hw) ?_
    refine sd_yes2 5 rfl (by exact gd_) (by kernel_rfl) (by kernel_rfl) (by exact nop_) (PuI.all (by exact pv_Dk9)) rfl (fun w hw => all_ hw) ?_
    refine sd_yes2 6 rfl (by exact gd_) (by kernel_rfl) (by kernel_rfl) (by exact nop_) (PuI.all (by exact pv_Dk9)) rfl (fun w hw => all_ hw) ?_
    refine sd_yes2 8 rfl (by exact gd_) (by kernel_rfl) (by kernel_rfl) (by exact nop_) (PuI.all (by exact pv_Dk9)) rfl (fun w hw => all_ hw) ?_
    refine sd_yes2 9 rfl (by exact gd_) (by kernel_rfl) (by kernel_rfl) (by exact nop_) (PuI.all (by exact pv_Dk9)) rfl (fun w hw => all_ hw) ?_
    refine sd_one 7 (by kernel_rfl) (sa_sl 7 rfl ?_)
    refine sl_call rfl rfl (by kernel_rfl) rfl Sub.refl (clone_ok (ds_get (fs := fs) (f := f) (by exact at_) hf) (by omega)) ?_
    rintro ⟨A1, c1⟩ -
    refine sl_nil ?_
    refine se_sd (fun _ w hw => all_ hw) ?_
    refine sd_yes2 10 rfl (by exact gd_) (by kernel_rfl) (by kernel_rfl) (by exact nop_) (pu_build (v := .agg #[.slice A1 f.l.length c1, .int .i64 f.sy]) rfl (fun W => by kernel_rfl)) rfl (fun w hw => all_ hw) ?_
    refine sd_one 11 (by kernel_rfl) (sa_sl 11 rfl ?_)
    refine sl_dnew (fs := nf) (f' := ⟨f.s, A1, c1, f.l, f.sy, ck2⟩) rfl rfl rfl rfl rfl hno (by exact pick_) rfl rfl ?_
    refine sl_nil ?_
    refine se_sd (fun _ w hw => all_ hw) ?_
    refine sd_done (by kernel_rfl) ?_
    refine go_Dk9 ?_
    refine se_sub (L' := own 5 1 A1 f.l.length c1 (bytes f.l) :: dS nf :: dB g2 m2 lim :: dM m2 (nf ++ [⟨f.s, A1, c1, f.l, f.sy, ck2⟩]) (ck2 + 1) :: itr r m ck ((us ++ [f]).map DF.ent) :: dB g m lim :: dM m fs ck :: dS fs :: K) (by exact sub_) ?_
    refine se_ent (ds_add (s := f.s) (sy := f.sy) (bn := ck2) rfl) ?_
    refine se_round ⟨us ++ [f], nf ++ [⟨f.s, A1, c1, f.l, f.sy, ck2⟩], ck2 + 1⟩ (by exact has_) (by exact sub_) ⟨⟨hnd', hsub⟩, ?_⟩ (by simp only [List.length_append, List.length_singleton]; omega)
    show (nf ++ [_]).map DF.ab = (us ++ [f]).map DF.ab
    rw [List.map_append, List.map_append, hab]
    rfl
end Go.Proofs.Ytemhhhikopemmaa
