/- A disk: Names. -/
import Derived.Test.YtemhhhikopemmaaDk6
import Derived.Test.YtemhhhikopemmaaShl
namespace Go.Proofs.Ytemhhhikopemmaa
open Go.RowKit Go.MapKept
attribute [local irreducible] Go.Calls Go.Exit.then Go.Exit.inBlock Go.bodyPost Go.Code.wp Go.wpList
def namesOf (fs : List DF) : List (List UInt8) := (fs.map (·.s.data.toList)).mergeSort (fun x y => decide (x ≤ y))
theorem names_perm {us fs : List DF} (h : us.Perm fs) : namesOf us = namesOf fs := by
  have ht : ∀ a b c : List UInt8, decide (a ≤ b) = true → decide (b ≤ c) = true → decide (a ≤ c) = true := fun a b c h1 h2 => decide_eq_true (List.le_trans (of_decide_eq_true h1) (of_decide_eq_true h2))
  have hl : ∀ a b : List UInt8, (decide (a ≤ b) || decide (b ≤ a)) = true := fun a b => by
    rcases List.le_total a b with h | h
    · simp [h]
    · simp [h]
  unfold namesOf
  refine List.Perm.eq_of_pairwise (le := fun x y => decide (x ≤ y) = true) ?_ (List.pairwise_mergeSort ht hl _) (List.pairwise_mergeSort ht hl _) ?_
  · intro a b _ _ h1 h2
    exact List.le_antisymm (of_decide_eq_true h1) (of_decide_eq_true h2)
  · exact (List.mergeSort_perm _ _).trans ((h.map _).trans (List.mergeSort_perm _ _).symm)
theorem names_len {fs : List DF} : (namesOf fs).length = fs.length := by simp [namesOf]
theorem enc_str (s : ByteArray) : Go.Proofs.encStr s.data.toList = .string s := by
  show Value.string ⟨s.data.toList.toArray⟩ = _
  rw [Array.toArray_toList]
theorem enc_strs (us : List DF) : (us.map (·.s.data.toList)).map Go.Proofs.encStr = us.map (fun f => Value.string f.s) := by
  rw [List.map_map]
  apply List.map_congr_left
  intro f _
  exact enc_str f.s
theorem str_one {s : ByteArray} : ∀ u ∈ [Value.string s], u.oneCell' = true := by
  intro u hu
  rw [List.mem_singleton] at hu
  subst hu
  rfl
theorem infoStr : (Try.prog.info? 9).map (fun i => (i.zero, i.size, i.bytes)) = some (some (.string ⟨#[]⟩), 1, 16) := by kernel_rfl
structure Nm where
  us : List DF
  A : Option Addr
  c : Nat
theorem nth_Dk7 {φ : Prop} (h : φ := by (first | rfl | rfl)) : φ := h
theorem mid_Dk7 {φ : Prop} (h : φ := by (first | exact Mid.all | exact Mid.all | exact Mid.head)) : φ := h
theorem sz_Dk7 {φ : Prop} (h : φ := by (first | rfl | (rfl; first | done | fail))) : φ := h
theorem one_Dk7 {φ : Prop} (h : φ := by (first | assumption | exact first | exact one_bytes _ | exact ff_one | (simp only [List.mem_cons, List.not_mem_nil, or_false, forall_eq_or_imp, forall_eq]; decide) | exact one_bytes _)) : φ := h
theorem set_Dk7 {φ : Prop} (h : φ := by (first | (fail) | ((repeat (first | exact SetAt.here | apply SetAt.there)); first | done | fail))) : φ := h
theorem cl_Dk7 {φ : Prop} (h : φ := by first | rfl | exact .t | exact .f | exact .t (by omega) | exact .f (by omega) | exact .u | exact .i (by (first | exact .t (by omega) | exact .f (by omega) | exact .u | exact .i (by omega) | exact .v (by omega) | exact .b (by omega) | exact .w | rfl | omega)) | exact .v (by omega) | exact .b (by omega) | exact .q (by omega) | exact .w | exact .b (by exact at_) rfl (by exact nth_Dk7) | exact .w (by exact at_) rfl rfl (by exact sz_Dk7) | exact .s (by exact at_) (by exact mid_Dk7) rfl rfl (by exact sz_Dk7) | exact .z rfl rfl ⟨by kernel_rfl⟩ | exact .b rfl rfl ⟨by kernel_rfl⟩ | exact .a rfl rfl ⟨by kernel_rfl⟩ | exact .o rfl | exact .s | exact .n | exact .p rfl | exact .q rfl | exact .c rfl | exact .d rfl | exact .n rfl rfl (by omega) | exact .a rfl rfl (by omega) | exact .p rfl rfl (by omega) (by omega) | exact .y rfl rfl (by omega) (by omega) | exact .o (by exact at_) (by omega) rfl (by exact nth_Dk7) | exact .m (by exact at_) (by omega) (by exact mid_Dk7) rfl rfl (by exact sz_Dk7) | exact .mlen (by exact at_) rfl | exact .t (by exact at_) rfl rfl (by first | exact True.intro | rfl) (by assumption) | exact .f (by exact at_) rfl rfl (by first | exact True.intro | rfl) (by assumption) rfl | exact .t1 (by exact at_) rfl rfl (by first | exact True.intro | rfl) (by assumption) | exact .f1 (by exact at_) rfl rfl (by first | exact True.intro | rfl) (by assumption) rfl | exact .r rfl rfl (by omega) (by omega) (by exact nth_Dk7) rfl | exact .s rfl (by omega) (by assumption) | exact at_ | assumption | exact .r rfl rfl | exact .h rfl rfl rfl (by omega) | exact .l rfl rfl rfl (by omega) (by omega) | exact .g rfl rfl rfl rfl (by omega) (by omega) | exact .h rfl rfl (toN_ (by omega)) (by omega) | exact .l rfl rfl (toN_ (by omega)) (by omega) (by omega) | exact .g rfl rfl (toN_ (by omega)) (toN_ (by omega)) (by omega) (by omega) | exact .o (by decide) | exact .f (by decide) | exact .n (by omega) (by first | decide | (show _ ≤ ((64 : Nat) : Int); omega)) | (constructor; (repeat (first | exact .t (by omega) | exact .f (by omega) | exact .u | exact .i (by omega) | exact .v (by omega) | exact .b (by omega) | exact .w | rfl | omega)); first | done | fail) | omega | (show _ ≤ ((64 : Nat) : Int); omega)) : φ := h
theorem pv_Dk7 {φ : Prop} (h : φ := by constructor; (repeat exact cl_Dk7); first | done | fail) : φ := h
theorem su_Dk7 {φ ψ : Prop} (k : ψ) (h : Hide ψ → φ := by (intro k; (first | refine sl_pu (PuI.sep (by exact pv_Dk7)) rfl ?_ | refine sl_yes rfl rfl ?_ | refine sl_no rfl rfl rfl ?_ | refine sl_off rfl rfl rfl ?_); exact k.out)) : φ := h ⟨k⟩
theorem rq_Dk7 {φ ψ : Prop} (k : ψ) (h : Hide ψ → φ := by (intro k; (first | refine wq_pu (PuI.sep (by exact pv_Dk7)) rfl ?_ | refine wq_yes rfl rfl ?_ | refine wq_no rfl rfl rfl ?_ | refine wq_off rfl rfl rfl ?_); exact k.out)) : φ := h ⟨k⟩
theorem sto_Dk7 {φ ψ : Prop} (k : ψ) (h : Hide ψ → φ := by (intro k; (first | refine sl_store rfl (by exact pick_) rfl rfl (by kernel_rfl) (by exact set_Dk7) ?_ | refine sl_store_whole rfl (by exact pick_) rfl (by exact sz_Dk7) (by exact sz_Dk7) (by exact one_Dk7) ?_); exact k.out)) : φ := h ⟨k⟩
theorem go_Dk7 {φ ψ : Prop} (k : ψ) (h : Hide ψ → φ := by (intro k; (repeat (first | refine su_Dk7 ?_ | refine so_ ?_ | refine sto_Dk7 ?_)); exact k.out)) : φ := h ⟨k⟩
set_option maxRecDepth 100000 in
set_option maxHeartbeats 2000000 in
theorem namesD_ok {K : List Fa} {g m ck : Nat} {lim : Int} {fs : List DF} (hB : At (dB g m lim) K) (hM : At (dM m fs ck) K) (hlen : fs.length ≤ 1000) :
    Fn Try.prog 28 #[.pointer (some ⟨g, 0, none⟩)] K (Ret (fun _ : Option Addr × Nat => True) (fun q => .slice q.1 fs.length q.2) (fun q => own 9 1 q.1 fs.length q.2 ((namesOf fs).map Go.Proofs.encStr) :: K)) := by
  refine fn_know (mp_nodup hM) ?_
  rintro ⟨hnd, hks⟩
  refine fn_enter Try.func28 rfl _ Try.ntmps28 (by simp) [(0, .pointer (some ⟨g, 0, none⟩))] (args_of (by simp)) ?_
  refine go_Dk7 ?_
  refine sl_range rfl (by exact at_) rfl rfl ?_
  intro r
  refine go_Dk7 ?_
  refine sc_for (fun p : Nm => [(3, .slice p.A p.us.length p.c), (11, .pointer (some ⟨r, 0, none⟩))]) (fun p => own 9 1 p.A p.us.length p.c (p.us.map (fun f => Value.string f.s)) :: itr r m ck (p.us.map DF.ent) :: K) (fun p => p.us.Nodup ∧ ∀ u ∈ p.us, u ∈ fs) (fun p => fs.length - p.us.length) ⟨[], none, 0⟩ (by exact has_) (Sub.own_nil Sub.refl) ⟨List.nodup_nil, fun _ h => by cases h⟩ ?_
  rintro ⟨us, A, c⟩ ⟨hun, hus⟩
  dsimp only at hun hus ⊢
  refine sc_seq ?_
  refine sc_region ?_
  refine sl_next rfl (by exact at_) (by exact pick_) (fun y hy => by obtain ⟨u, hu, rfl⟩ := List.mem_map.1 hy; exact List.mem_map_of_mem (hus u hu)) rfl (fun hall => ?_) (fun y hy hn => ?_)
  · have hp : us.Perm fs := (List.perm_ext_iff_of_nodup hun hnd).2 fun x => ⟨hus x, fun hx => by
      obtain ⟨u, hu, he⟩ := List.mem_map.1 (hall _ (List.mem_map_of_mem hx))
      rwa [← ent_inj hks (hus u hu) hx he]⟩
    have hul := hp.length_eq
    refine go_Dk7 ?_
    have hso := sorts_ok (K := itr r m ck (us.map DF.ent) :: K) (A := A) (c := c) (ss := us.map (·.s.data.toList)) (by rw [List.length_map]; omega)
    rw [enc_strs, List.length_map] at hso
    refine sl_call rfl rfl (by kernel_rfl) rfl Sub.refl hso ?_
    rintro _ -
    rw [show ((us.map (·.s.data.toList)).mergeSort fun x y => decide (x ≤ y)) = namesOf us from rfl, names_perm hp, hul]
    refine go_Dk7 ?_
    exact se_ret1 (A, c) trivial rfl rfl (by exact sub_)
  · obtain ⟨f, hf, rfl⟩ := List.mem_map.1 hy
    have hfu : f ∉ us := fun h => hn (List.mem_map_of_mem h)
    have hnd' : (us ++ [f]).Nodup := List.nodup_append.2 ⟨hun, List.nodup_cons.2 ⟨by simp, List.nodup_nil⟩, fun a ha b hb e => by rw [List.mem_singleton] at hb; exact hfu (by rw [← hb, ← e]; exact ha)⟩
    have hsub : ∀ u ∈ us ++ [f], u ∈ fs := fun u h => by
      rcases List.mem_append.1 h with h | h
      · exact hus u h
      · rw [List.mem_singleton] at h
        rw [h]
        exact hf
    obtain ⟨z, hz⟩ := sub_split hnd' hnd hsub
    have hlen2 := hz.length_eq
    rw [List.length_append, List.length_append, List.length_singleton] at hlen2
    have hm : us.map DF.ent ++ [f.ent] = (us ++ [f]).map DF.ent := by simp
    have hm2 : us.map (fun f => Value.string f.s) ++ [Value.string f.s] = (us ++ [f]).map (fun f => Value.string f.s) := by simp
    have hm3 : us.length + 1 = (us ++ [f]).length := by simp
    refine go_Dk7 ?_
    rw [hm]
    refine sl_build (size := 1) (e := 9) (cells := [Value.string f.s]) rfl (fun W => by kernel_rfl) rfl (by decide) rfl ?_
    intro gb
    refine sl_app (A := A) (k := us.length) (c := c) rfl (by exact pick_) rfl (Vw.of_own (e := 9) (A := some ⟨gb, 0, none⟩) (c := 1) (by exact at_)) str_one rfl infoStr (by decide) (by decide) rfl (by unfold maxLen; omega) (by omega) ?_
    intro A2 c2
    rw [hm2, hm3]
    refine go_Dk7 ?_
    refine se_round ⟨us ++ [f], A2, c2⟩ (by exact has_) (by exact sub_) ⟨hnd', hsub⟩ (by simp only [List.length_append, List.length_singleton]; omega)
end Go.Proofs.Ytemhhhikopemmaa
