/- Several texts of one claim, one behind the other (Dk7, Dk8, Sj, Skn). -/
import Derived.Test.YtocaabnbmcpjmaaGreatB16
import Derived.Test.YtocaabnbmcpjmaaGreatB13
set_option linter.unusedVariables false
set_option linter.unusedSimpArgs false
/- A disk: Names. -/
namespace Go.Proofs.YtocaabnbmcpjmaaGreat
open Go.RowKit Go.MapKept
attribute [local irreducible] Go.Calls Go.Exit.then Go.Exit.inBlock Go.bodyPost Go.Code.wp Go.wpList
def namesOf (fs : List DF) : List (List UInt8) := (fs.map (·.s.data.toList)).mergeSort (fun x y => decide (x ≤ y))
theorem names_perm {us fs : List DF} (h : us.Perm fs) : namesOf us = namesOf fs := by
  have ht : ∀ a b c : List UInt8, decide (a ≤ b) = true → decide (b ≤ c) = true → decide (a ≤ c) = true := fun a b c h1 h2 => decide_eq_true (List.le_trans (of_decide_eq_true h1) (of_decide_eq_true h2))
  have hl : ∀ a b : List UInt8, (decide (a ≤ b) || decide (b ≤ a)) = true := fun a b => by
    rcases List.le_total a b with h | h
    · simp [h]
    · simp [h]
  unfold namesOf
  refine List.Perm.eq_of_pairwise (le := fun x y => decide (x ≤ y) = true) ?_ (List.pairwise_mergeSort ht hl _) (List.pairwise_mergeSort ht hl _) ?_
  · intro a b _ _ h1 h2
    exact List.le_antisymm (of_decide_eq_true h1) (of_decide_eq_true h2)
  · exact (List.mergeSort_perm _ _).trans ((h.map _).trans (List.mergeSort_perm _ _).symm)
theorem names_len {fs : List DF} : (namesOf fs).length = fs.length := by simp [namesOf]
theorem enc_str (s : ByteArray) : Go.Proofs.encStr s.data.toList = .string s := by
  show Value.string ⟨s.data.toList.toArray⟩ = _
  rw [Array.toArray_toList]
theorem enc_strs (us : List DF) : (us.map (·.s.data.toList)).map Go.Proofs.encStr = us.map (fun f => Value.string f.s) := by
  rw [List.map_map]
  apply List.map_congr_left
  intro f _
  exact enc_str f.s
theorem str_one {s : ByteArray} : ∀ u ∈ [Value.string s], u.oneCell' = true := by
  intro u hu
  rw [List.mem_singleton] at hu
  subst hu
  rfl
theorem infoStr : (Tryz.prog.info? 9).map (fun i => (i.zero, i.size, i.bytes)) = some (some (.string ⟨#[]⟩), 1, 16) := by kernel_rfl
structure Nm where
  us : List DF
  A : Option Addr
  c : Nat
theorem nth_Dk7 {φ : Prop} (h : φ := by (first | rfl | rfl)) : φ := h
theorem mid_Dk7 {φ : Prop} (h : φ := by (first | exact Mid.all | exact Mid.all | exact Mid.head)) : φ := h
theorem sz_Dk7 {φ : Prop} (h : φ := by (first | rfl | (rfl; first | done | fail))) : φ := h
theorem one_Dk7 {φ : Prop} (h : φ := by (first | assumption | exact first | exact one_bytes _ | exact ff_one | (simp only [List.mem_cons, List.not_mem_nil, or_false, forall_eq_or_imp, forall_eq]; decide) | exact one_bytes _ | (intro v hv; (repeat (rcases List.mem_cons.1 hv with rfl | hv; rfl)); cases hv))) : φ := h
theorem set_Dk7 {φ : Prop} (h : φ := by (first | (fail) | ((repeat (first | exact SetAt.here | apply SetAt.there)); first | done | fail))) : φ := h
theorem cl_Dk7 {φ : Prop} (h : φ := by first | rfl | exact .t | exact .f | exact .t (by omega) | exact .f (by omega) | exact .u | exact .i (by (first | exact .t (by omega) | exact .f (by omega) | exact .u | exact .i (by omega) | exact .v (by omega) | exact .b (by omega) | exact .w | rfl | omega)) | exact .v (by omega) | exact .b (by omega) | exact .q (by omega) | exact .w | exact .b (by exact at_) rfl (by exact nth_Dk7) | exact .w (by exact at_) rfl rfl (by exact sz_Dk7) | exact .s (by exact at_) (by exact mid_Dk7) rfl rfl (by exact sz_Dk7) | exact .z rfl rfl ⟨by kernel_rfl⟩ | exact .b rfl rfl ⟨by kernel_rfl⟩ | exact .a rfl rfl ⟨by kernel_rfl⟩ | exact .o rfl | exact .s | exact .n | exact .p rfl | exact .q rfl | exact .c rfl | exact .d rfl | exact .n rfl rfl (by omega) | exact .a rfl rfl (by omega) | exact .p rfl rfl (by omega) (by omega) | exact .y rfl rfl (by omega) (by omega) | exact .o (by exact at_) (by omega) rfl (by exact nth_Dk7) | exact .m (by exact at_) (by omega) (by exact mid_Dk7) rfl rfl (by exact sz_Dk7) | exact .mlen (by exact at_) rfl | exact .t (by exact at_) rfl rfl (by first | exact True.intro | rfl) (by assumption) | exact .f (by exact at_) rfl rfl (by first | exact True.intro | rfl) (by assumption) rfl | exact .t1 (by exact at_) rfl rfl (by first | exact True.intro | rfl) (by assumption) | exact .f1 (by exact at_) rfl rfl (by first | exact True.intro | rfl) (by assumption) rfl | exact .r rfl rfl (by omega) (by omega) (by exact nth_Dk7) rfl | exact .s rfl (by omega) (by assumption) | exact at_ | assumption | exact .r rfl rfl | exact .h rfl rfl rfl (by omega) | exact .l rfl rfl rfl (by omega) (by omega) | exact .g rfl rfl rfl rfl (by omega) (by omega) | exact .h rfl rfl (toN_ (by omega)) (by omega) | exact .l rfl rfl (toN_ (by omega)) (by omega) (by omega) | exact .g rfl rfl (toN_ (by omega)) (toN_ (by omega)) (by omega) (by omega) | exact .o (by decide) | exact .f (by decide) | exact .n (by omega) (by first | decide | (show _ ≤ ((64 : Nat) : Int); omega)) | (constructor; (repeat (first | exact .t (by omega) | exact .f (by omega) | exact .u | exact .i (by omega) | exact .v (by omega) | exact .b (by omega) | exact .w | rfl | omega)); first | done | fail) | omega | (show _ ≤ ((64 : Nat) : Int); omega)) : φ := h
theorem pv_Dk7 {φ : Prop} (h : φ := by constructor; (repeat exact cl_Dk7); first | done | fail) : φ := h
theorem su_Dk7 {φ ψ : Prop} (k : ψ) (h : Hide ψ → φ := by (intro k; (first | refine sl_pu (PuI.sep (by exact pv_Dk7)) rfl ?_ | refine sl_yes rfl rfl ?_ | refine sl_no rfl rfl rfl ?_ | refine sl_off rfl rfl rfl ?_ | (fail)); exact k.out)) : φ := h ⟨k⟩
theorem sto_Dk7 {φ ψ : Prop} (k : ψ) (h : Hide ψ → φ := by (intro k; (first | refine sl_store rfl (by exact pick_) rfl rfl (by kernel_rfl) (by exact set_Dk7) ?_ | refine sl_store_whole rfl (by exact pick_) rfl (by exact sz_Dk7) (by exact sz_Dk7) (by exact one_Dk7) ?_); exact k.out)) : φ := h ⟨k⟩
theorem go_Dk7 {φ ψ : Prop} (k : ψ) (h : Hide ψ → φ := by (intro k; (repeat (first | refine su_Dk7 ?_ | refine so_ ?_ | refine sto_Dk7 ?_)); exact k.out)) : φ := h ⟨k⟩
set_option maxRecDepth 100000 in
set_option maxHeartbeats 2000000 in
theorem namesD_ok {K : List Fa} {g m ck : Nat} {lim : Int} {fs : List DF} (hB : At (dB g m lim) K) (hM : At (dM m fs ck) K) (hlen : fs.length ≤ 1000) :
    Fn Tryz.prog 82 #[.pointer (some ⟨g, 0, none⟩)] K (Ret (fun _ : Option Addr × Nat => True) (fun q => .slice q.1 fs.length q.2) (fun q => own 9 1 q.1 fs.length q.2 ((namesOf fs).map Go.Proofs.encStr) :: K)) := by
  refine fn_know (mp_nodup hM) ?_
  rintro ⟨hnd, hks⟩
  refine fn_enter Tryz.func82 rfl _ Tryz.ntmps82 (by simp) [(0, .pointer (some ⟨g, 0, none⟩))] (args_of (by simp)) ?_
  refine go_Dk7 ?_
  refine sl_range rfl (by exact at_) rfl rfl ?_
  intro r
  refine go_Dk7 ?_
  refine sc_for (fun p : Nm => [(3, .slice p.A p.us.length p.c), (11, .pointer (some ⟨r, 0, none⟩))]) (fun p => own 9 1 p.A p.us.length p.c (p.us.map (fun f => Value.string f.s)) :: itr r m ck (p.us.map DF.ent) :: K) (fun p => p.us.Nodup ∧ ∀ u ∈ p.us, u ∈ fs) (fun p => fs.length - p.us.length) ⟨[], none, 0⟩ (by exact has_) (Sub.own_nil Sub.refl) ⟨List.nodup_nil, fun _ h => by cases h⟩ ?_
  rintro ⟨us, A, c⟩ ⟨hun, hus⟩
  dsimp only at hun hus ⊢
  refine sc_seq ?_
  refine sc_region ?_
  refine sl_next rfl (by exact at_) (by exact pick_) (fun y hy => by obtain ⟨u, hu, rfl⟩ := List.mem_map.1 hy; exact List.mem_map_of_mem (hus u hu)) rfl (fun hall => ?_) (fun y hy hn => ?_)
  · have hp : us.Perm fs := (List.perm_ext_iff_of_nodup hun hnd).2 fun x => ⟨hus x, fun hx => by
      obtain ⟨u, hu, he⟩ := List.mem_map.1 (hall _ (List.mem_map_of_mem hx))
      rwa [← ent_inj hks (hus u hu) hx he]⟩
    have hul := hp.length_eq
    refine go_Dk7 ?_
    have hso := sorts_ok (K := itr r m ck (us.map DF.ent) :: K) (A := A) (c := c) (ss := us.map (·.s.data.toList)) (by rw [List.length_map]; omega)
    rw [enc_strs, List.length_map] at hso
    refine sl_call rfl rfl (by kernel_rfl) rfl Sub.refl hso ?_
    rintro _ -
    rw [show ((us.map (·.s.data.toList)).mergeSort fun x y => decide (x ≤ y)) = namesOf us from rfl, names_perm hp, hul]
    refine go_Dk7 ?_
    exact se_ret1 (A, c) trivial rfl rfl (by exact sub_)
  · obtain ⟨f, hf, rfl⟩ := List.mem_map.1 hy
    have hfu : f ∉ us := fun h => hn (List.mem_map_of_mem h)
    have hnd' : (us ++ [f]).Nodup := List.nodup_append.2 ⟨hun, List.nodup_cons.2 ⟨by simp, List.nodup_nil⟩, fun a ha b hb e => by rw [List.mem_singleton] at hb; exact hfu (by rw [← hb, ← e]; exact ha)⟩
    have hsub : ∀ u ∈ us ++ [f], u ∈ fs := fun u h => by
      rcases List.mem_append.1 h with h | h
      · exact hus u h
      · rw [List.mem_singleton] at h
        rw [h]
        exact hf
    obtain ⟨z, hz⟩ := sub_split hnd' hnd hsub
    have hlen2 := hz.length_eq
    rw [List.length_append, List.length_append, List.length_singleton] at hlen2
    have hm : us.map DF.ent ++ [f.ent] = (us ++ [f]).map DF.ent := by simp
    have hm2 : us.map (fun f => Value.string f.s) ++ [Value.string f.s] = (us ++ [f]).map (fun f => Value.string f.s) := by simp
    have hm3 : us.length + 1 = (us ++ [f]).length := by simp
    refine go_Dk7 ?_
    rw [hm]
    refine sl_build (size := 1) (e := 9) (cells := [Value.string f.s]) rfl (fun W => by kernel_rfl) rfl (by decide) rfl ?_
    intro gb
    refine sl_app (A := A) (k := us.length) (c := c) rfl (by exact pick_) rfl (Vw.of_own (e := 9) (A := some ⟨gb, 0, none⟩) (c := 1) (by exact at_)) str_one rfl infoStr (by decide) (by decide) rfl (by unfold maxLen; omega) (by omega) ?_
    intro A2 c2
    rw [hm2, hm3]
    refine go_Dk7 ?_
    refine se_round ⟨us ++ [f], A2, c2⟩ (by exact has_) (by exact sub_) ⟨hnd', hsub⟩ (by simp only [List.length_append, List.length_singleton]; omega)
end Go.Proofs.YtocaabnbmcpjmaaGreat
/- A disk: Crash. -/
namespace Go.Proofs.YtocaabnbmcpjmaaGreat
open Go.RowKit Go.MapKept
attribute [local irreducible] Go.Calls Go.Exit.then Go.Exit.inBlock Go.bodyPost Go.Code.wp Go.wpList
/-- A file in the abstract. -/
structure Fi where
  s : ByteArray
  l : List Int
  sy : Nat
def DF.ab (f : DF) : Fi := ⟨f.s, f.l, f.sy⟩
def crN (keep : Int) (l : List Int) (sy : Nat) : Nat := sy + (if (((l.length - sy : Nat) : Int)) < (if keep < 0 then 0 else keep) then (((l.length - sy : Nat) : Int)) else (if keep < 0 then 0 else keep)).toNat
def Fi.cr (keep : Int) (a : Fi) : Fi := ⟨a.s, a.l.take (crN keep a.l a.sy), crN keep a.l a.sy⟩
theorem crN_le {keep : Int} {l : List Int} {sy : Nat} (h : sy ≤ l.length) : sy ≤ crN keep l sy ∧ crN keep l sy ≤ l.length := by
  unfold crN
  split <;> split at * <;> omega
theorem crN_int {keep : Int} {l : List Int} {sy : Nat} (h : sy ≤ l.length) : ((crN keep l sy : Nat) : Int) = sy + (if ((l.length : Int) - sy) < (if keep < 0 then 0 else keep) then ((l.length : Int) - sy) else (if keep < 0 then 0 else keep)) := by
  unfold crN
  rw [show ((l.length : Int) - sy) = ((l.length - sy : Nat) : Int) by omega]
  split <;> split at * <;> omega
theorem dval_k {s : ByteArray} {A : Option Addr} {c k bn : Nat} {l : List Int} (hk : k ≤ l.length) : Value.agg #[.slice A k c, .int .i64 k] = DF.val ⟨s, A, c, l.take k, k, bn⟩ := by
  unfold DF.val
  have h1 : (l.take k).length = k := by rw [List.length_take]; omega
  show _ = Value.agg #[.slice A (l.take k).length c, .int .i64 k]
  rw [h1]
theorem nm_nodup {fs : List DF} (h : fs.Pairwise (fun a b => a.s ≠ b.s)) : (namesOf fs).Nodup := by
  unfold namesOf
  refine (List.mergeSort_perm _ _).nodup_iff.2 ?_
  unfold List.Nodup
  rw [List.pairwise_map]
  exact h.imp (fun {a b} hab e => hab (by
    have h2 := congrArg List.toArray e
    rw [Array.toArray_toList, Array.toArray_toList] at h2
    cases hx : a.s
    cases hy : b.s
    rw [hx, hy] at h2
    exact congrArg _ h2))
theorem nm_mem {fs : List DF} {x : List UInt8} : x ∈ namesOf fs ↔ ∃ f ∈ fs, f.s.data.toList = x := by
  unfold namesOf
  rw [(List.mergeSort_perm _ _).mem_iff, List.mem_map]
def phi (keep : Int) (ns : List (List UInt8)) (a : Fi) : Fi := if a.s.data.toList ∈ ns then a.cr keep else a
structure Cw where
  j : Nat
  cur : List DF
theorem data_inj {a b : ByteArray} (h : a.data.toList = b.data.toList) : a = b := by
  have h2 := congrArg List.toArray h
  rw [Array.toArray_toList, Array.toArray_toList] at h2
  cases a
  cases b
  exact congrArg _ h2
/-- Where the file of that name stands. -/
theorem cur_split {keep : Int} {fs cur : List DF} {ns : List (List UInt8)} {f0 : DF} (hcur : cur.map DF.ab = fs.map (fun f => phi keep ns f.ab)) (hf : f0 ∈ fs) (hks : fs.Pairwise (fun a b => a.s ≠ b.s)) (hn : f0.s.data.toList ∉ ns) : ∃ X f Y, cur = X ++ f :: Y ∧ f.ab = f0.ab ∧ ∀ f' : DF, f'.ab = f0.ab.cr keep → (X ++ f' :: Y).map DF.ab = fs.map (fun f => phi keep (ns ++ [f0.s.data.toList]) f.ab) := by
  obtain ⟨X0, Y0, rfl⟩ := List.append_of_mem hf
  rw [List.map_append, List.map_cons] at hcur
  obtain ⟨X, Z, rfl, hX, hZ⟩ := List.map_eq_append_iff.1 hcur
  obtain ⟨f, Y, rfl, hf', hY⟩ := List.map_eq_cons_iff.1 hZ
  refine ⟨X, f, Y, rfl, ?_, fun f' he => ?_⟩
  · rw [hf']
    exact if_neg hn
  · rw [List.pairwise_append, List.pairwise_cons] at hks
    obtain ⟨_, ⟨h1, _⟩, h2⟩ := hks
    rw [List.map_append, List.map_cons, List.map_append, List.map_cons, hX, hY, he]
    have hp : ∀ u : DF, u.s ≠ f0.s → phi keep (ns ++ [f0.s.data.toList]) u.ab = phi keep ns u.ab := fun u hu => by
      unfold phi
      have : u.ab.s.data.toList ∈ ns ++ [f0.s.data.toList] ↔ u.ab.s.data.toList ∈ ns := by
        rw [List.mem_append, List.mem_singleton]
        exact ⟨fun h => h.elim id (fun e => absurd (data_inj e) hu), .inl⟩
      simp only [this]
    have hp0 : phi keep (ns ++ [f0.s.data.toList]) f0.ab = f0.ab.cr keep := by
      exact if_pos (List.mem_append_right _ (by simp [DF.ab]))
    rw [hp0]
    congr 1
    · exact List.map_congr_left fun u hu => (hp u (h2 u hu f0 (List.mem_cons_self ..))).symm
    · congr 1
      exact List.map_congr_left fun u hu => (hp u (fun e => h1 u hu e.symm)).symm
theorem nth_Dk8 {φ : Prop} (h : φ := by (first | rfl | assumption)) : φ := h
theorem mid_Dk8 {φ : Prop} (h : φ := by (first | exact Mid.all | exact Mid.all | exact Mid.head)) : φ := h
theorem sz_Dk8 {φ : Prop} (h : φ := by (first | rfl | (rfl; first | done | fail))) : φ := h
theorem one_Dk8 {φ : Prop} (h : φ := by (first | assumption | exact first | exact one_bytes _ | exact ff_one | (simp only [List.mem_cons, List.not_mem_nil, or_false, forall_eq_or_imp, forall_eq]; decide) | exact one_bytes _ | (intro v hv; (repeat (rcases List.mem_cons.1 hv with rfl | hv; rfl)); cases hv))) : φ := h
theorem set_Dk8 {φ : Prop} (h : φ := by (first | (fail) | ((repeat (first | exact SetAt.here | apply SetAt.there)); first | done | fail))) : φ := h
theorem cl_Dk8 {φ : Prop} (h : φ := by first | rfl | exact .t | exact .f | exact .t (by omega) | exact .f (by omega) | exact .u | exact .i (by (first | exact .t (by omega) | exact .f (by omega) | exact .u | exact .i (by omega) | exact .v (by omega) | exact .b (by omega) | exact .w | rfl | omega)) | exact .v (by omega) | exact .b (by omega) | exact .q (by omega) | exact .w | exact .b (by exact at_) rfl (by exact nth_Dk8) | exact .w (by exact at_) rfl rfl (by exact sz_Dk8) | exact .s (by exact at_) (by exact mid_Dk8) rfl rfl (by exact sz_Dk8) | exact .z rfl rfl ⟨by kernel_rfl⟩ | exact .b rfl rfl ⟨by kernel_rfl⟩ | exact .a rfl rfl ⟨by kernel_rfl⟩ | exact .o rfl | exact .s | exact .n | exact .p rfl | exact .q rfl | exact .c rfl | exact .d rfl | exact .n rfl rfl (by omega) | exact .a rfl rfl (by omega) | exact .p rfl rfl (by omega) (by omega) | exact .y rfl rfl (by omega) (by omega) | exact .o (by exact at_) (by omega) rfl (by exact nth_Dk8) | exact .m (by exact at_) (by omega) (by exact mid_Dk8) rfl rfl (by exact sz_Dk8) | exact .mlen (by exact at_) rfl | exact .t (by exact at_) rfl rfl (by first | exact True.intro | rfl) (by assumption) | exact .f (by exact at_) rfl rfl (by first | exact True.intro | rfl) (by assumption) rfl | exact .t1 (by exact at_) rfl rfl (by first | exact True.intro | rfl) (by assumption) | exact .f1 (by exact at_) rfl rfl (by first | exact True.intro | rfl) (by assumption) rfl | exact .r rfl rfl (by omega) (by omega) (by exact nth_Dk8) rfl | exact .s rfl (by omega) (by assumption) | exact at_ | assumption | exact .r rfl rfl | exact .h rfl rfl rfl (by omega) | exact .l rfl rfl rfl (by omega) (by omega) | exact .g rfl rfl rfl rfl (by omega) (by omega) | exact .h rfl rfl (toN_ (by omega)) (by omega) | exact .l rfl rfl (toN_ (by omega)) (by omega) (by omega) | exact .g rfl rfl (toN_ (by omega)) (toN_ (by omega)) (by omega) (by omega) | exact .o (by decide) | exact .f (by decide) | exact .n (by omega) (by first | decide | (show _ ≤ ((64 : Nat) : Int); omega)) | (constructor; (repeat (first | exact .t (by omega) | exact .f (by omega) | exact .u | exact .i (by omega) | exact .v (by omega) | exact .b (by omega) | exact .w | rfl | omega)); first | done | fail) | omega | (show _ ≤ ((64 : Nat) : Int); omega)) : φ := h
theorem pv_Dk8 {φ : Prop} (h : φ := by constructor; (repeat exact cl_Dk8); first | done | fail) : φ := h
theorem su_Dk8 {φ ψ : Prop} (k : ψ) (h : Hide ψ → φ := by (intro k; (first | refine sl_pu (PuI.sep (by exact pv_Dk8)) rfl ?_ | refine sl_yes rfl rfl ?_ | refine sl_no rfl rfl rfl ?_ | refine sl_off rfl rfl rfl ?_ | (fail)); exact k.out)) : φ := h ⟨k⟩
theorem sto_Dk8 {φ ψ : Prop} (k : ψ) (h : Hide ψ → φ := by (intro k; (first | refine sl_store rfl (by exact pick_) rfl rfl (by kernel_rfl) (by exact set_Dk8) ?_ | refine sl_store_whole rfl (by exact pick_) rfl (by exact sz_Dk8) (by exact sz_Dk8) (by exact one_Dk8) ?_); exact k.out)) : φ := h ⟨k⟩
theorem go_Dk8 {φ ψ : Prop} (k : ψ) (h : Hide ψ → φ := by (intro k; (repeat (first | refine su_Dk8 ?_ | refine so_ ?_ | refine sto_Dk8 ?_)); exact k.out)) : φ := h ⟨k⟩
set_option maxRecDepth 100000 in
set_option maxHeartbeats 2000000 in
theorem crashD_ok {K : List Fa} {g m ck : Nat} {lim keep : Int} {fs : List DF} (hlen : fs.length ≤ 1000) (hok : ∀ f ∈ fs, f.sy ≤ f.l.length ∧ f.l.length ≤ 1048576) :
    Fn Tryz.prog 38 #[.pointer (some ⟨g, 0, none⟩), .int .i64 keep] (dB g m lim :: dM m fs ck :: dS fs :: K) (Ret (fun q : List DF => q.map DF.ab = fs.map (fun f => f.ab.cr keep)) (fun _ => .tuple #[]) (fun q => dB g m lim :: dM m q ck :: dS q :: K)) := by
  refine fn_know (mp_nodup (m := m) (ck := ck) (fs := fs) (by exact at_)) ?_
  rintro ⟨hnd, hks⟩
  refine fn_enter Tryz.func38 rfl _ Tryz.ntmps38 (by simp) [(0, .pointer (some ⟨g, 0, none⟩)), (1, .int .i64 keep)] (args_of (by simp)) ?_
  refine go_Dk8 ?_
  refine sl_call rfl rfl (by kernel_rfl) rfl Sub.refl (namesD_ok (by exact at_) (by exact at_) hlen) ?_
  rintro ⟨A, c⟩ -
  dsimp only
  refine go_Dk8 ?_
  have hnl : (namesOf fs).length = fs.length := names_len
  refine sc_for (fun p : Cw => [(0, .pointer (some ⟨g, 0, none⟩)), (1, .int .i64 keep), (9, .slice A fs.length c), (10, .int .i64 fs.length), (11, .int .i64 p.j)]) (fun p => own 9 1 A fs.length c ((namesOf fs).map Go.Proofs.encStr) :: dB g m lim :: dM m p.cur ck :: dS p.cur :: K) (fun p => p.j ≤ fs.length ∧ p.cur.map DF.ab = fs.map (fun f => phi keep ((namesOf fs).take p.j) f.ab)) (fun p => fs.length - p.j) ⟨0, fs⟩ (by exact has_) (by exact sub_) ⟨Nat.zero_le _, by simp [phi]⟩ ?_
  rintro ⟨j, cur⟩ ⟨hj, hcur⟩
  dsimp only at hj hcur ⊢
  by_cases hlt : j < fs.length
  · have hjn : j < (namesOf fs).length := by omega
    obtain ⟨f0, hf0, hs0⟩ := nm_mem.1 (List.getElem_mem hjn)
    have htk : (namesOf fs).take (j + 1) = (namesOf fs).take j ++ [f0.s.data.toList] := by rw [List.take_succ_eq_append_getElem hjn, hs0]
    have hnin : f0.s.data.toList ∉ (namesOf fs).take j := fun h => by
      rw [hs0] at h
      obtain ⟨i, hi, he⟩ := List.mem_iff_getElem.1 h
      rw [List.length_take] at hi
      rw [List.getElem_take] at he
      have := (List.getElem_inj (nm_nodup hks)).1 he
      omega
    obtain ⟨X, f, Y, rfl, hfab, hnext⟩ := cur_split hcur hf0 hks hnin
    have hfs : f.s = f0.s := congrArg Fi.s hfab
    obtain ⟨hsy, hbig⟩ : f.sy ≤ f.l.length ∧ f.l.length ≤ 1048576 := by
      have h1 : f.sy = f0.sy := congrArg Fi.sy hfab
      have h2 : f.l = f0.l := congrArg Fi.l hfab
      rw [h1, h2]
      exact hok f0 hf0
    have hnth : nth ((namesOf fs).map Go.Proofs.encStr) (j * 1) = some (.string f.s) := by
      rw [nth_eq, Nat.mul_one, List.getElem?_map, List.getElem?_eq_getElem hjn, ← hs0, hfs]
      exact congrArg some (enc_str f0.s)
    refine sc_form (e := 9) (size := 1) (A := A) (m := fs.length) (by exact at_) (by omega) ?_
    rintro gn rfl
    have hg := dget (mid_mem (X := X) (Y := Y) (f := f))
    unfold DF.val at hg
    refine go_Dk8 ?_
    refine sl_alloc rfl rfl rfl ?_; intro g6
    refine go_Dk8 ?_
    have hcr := crN_le (keep := keep) hsy
    have hci := crN_int (keep := keep) hsy
    rw [← hci]
    obtain ⟨k, hk⟩ : ∃ k, crN keep f.l f.sy = k := ⟨_, rfl⟩
    rw [hk] at hcr ⊢
    refine sc_know (ds_cap (fs := X ++ f :: Y) (f := f) (by exact at_) mid_mem) ?_
    intro hcap
    have hr : Vw (dS (X ++ f :: Y) :: K) (fun w => Reads w 1 f.A k (bytes (f.l.take k))) := fun w hw => by
      have h1 := (ds_get (fs := X ++ f :: Y) (f := f) (by exact at_) mid_mem w hw).take (k := k) (by omega)
      rwa [bytes_take] at h1
    refine sd_drawn (fun W => AllP W [blk g6 138 [.slice f.A f.l.length f.c, .int .i64 f.sy], dB g m lim]) (fun _ => true) (by kernel_rfl) 13 rfl ?_
    refine sd_yes2 0 rfl (by exact gd_) (by kernel_rfl) (by kernel_rfl) (by exact nop_) (PuI.all (by exact pv_Dk8)) rfl (fun w hw => all_ hw) ?_
    refine sd_yes2 1 rfl (by exact gd_) (by kernel_rfl) (by kernel_rfl) (by exact nop_) (PuI.all (by exact pv_Dk8)) rfl (fun w hw => all_ hw) ?_
    refine sd_yes2 2 rfl (by exact gd_) (by kernel_rfl) (by kernel_rfl) (by exact nop_) (PuI.all (by exact pv_Dk8)) rfl (fun w hw => all_ hw) ?_
    refine sd_yes2 3 rfl (by exact gd_) (by kernel_rfl) (by kernel_rfl) (by exact nop_) (PuI.all (by exact pv_Dk8)) rfl (fun w hw => all_ hw) ?_
    refine sd_yes2 4 rfl (by exact gd_) (by kernel_rfl) (by kernel_rfl) (by exact nop_) (PuI.all (by exact pv_Dk8)) rfl (fun w hw => all_ hw) ?_
    refine sd_yes2 5 rfl (by exact gd_) (by kernel_rfl) (by kernel_rfl) (by exact nop_) (PuI.all (by exact pv_Dk8)) rfl (fun w hw => all_ hw) ?_
    refine sd_yes2 6 rfl (by exact gd_) (by kernel_rfl) (by kernel_rfl) (by exact nop_) (PuI.all (by exact pv_Dk8)) rfl (fun w hw => all_ hw) ?_
    refine sd_yes2 7 rfl (by exact gd_) (by kernel_rfl) (by kernel_rfl) (by exact nop_) (PuI.all (by exact pv_Dk8)) rfl (fun w hw => all_ hw) ?_
    refine sd_yes2 8 rfl (by exact gd_) (by kernel_rfl) (by kernel_rfl) (by exact nop_) (PuI.all (by exact pv_Dk8)) rfl (fun w hw => all_ hw) ?_
    refine sd_yes2 10 rfl (by exact gd_) (by kernel_rfl) (by kernel_rfl) (by exact nop_) (PuI.all (by exact pv_Dk8)) rfl (fun w hw => all_ hw) ?_
    refine sd_one 9 (by kernel_rfl) (sa_sl 9 rfl ?_)
    refine sl_call rfl rfl (by kernel_rfl) rfl Sub.refl (clone_ok (hr.mono (by exact sub_)) (by omega)) ?_
    rintro ⟨A1, c1⟩ -
    refine sl_nil ?_
    refine se_sd (fun _ w hw => all_ hw) ?_
    refine sd_yes2 11 rfl (by exact gd_) (by kernel_rfl) (by kernel_rfl) (by exact nop_) (pu_build (v := .agg #[.slice A1 k c1, .int .i64 k]) rfl (fun W => by kernel_rfl)) rfl (fun w hw => all_ hw) ?_
    refine sd_one 12 (by kernel_rfl) (sa_sl 12 rfl ?_)
    refine sl_dput (f := f) (f' := ⟨f.s, A1, c1, f.l.take k, k, f.bn⟩) rfl rfl (congrArg some (dval_k (by omega))) rfl rfl (by exact pick_) rfl rfl ?_
    refine sl_nil ?_
    refine se_sd (fun _ w hw => all_ hw) ?_
    refine sd_done (by kernel_rfl) ?_
    refine go_Dk8 ?_
    refine se_sub (L' := own 5 1 A1 k c1 (bytes (f.l.take k)) :: dS (X ++ f :: Y) :: own 9 1 (some ⟨gn, 0, none⟩) fs.length c ((namesOf fs).map Go.Proofs.encStr) :: dB g m lim :: dM m (X ++ ⟨f.s, A1, c1, f.l.take k, k, f.bn⟩ :: Y) ck :: K) (by exact sub_) ?_
    refine se_ent (ds_put (s := f.s) (sy := k) (bn := f.bn) (by rw [List.length_take]; omega)) ?_
    refine se_round ⟨j + 1, X ++ ⟨f.s, A1, c1, f.l.take k, k, f.bn⟩ :: Y⟩ (by exact has_) (by exact sub_) ⟨hlt, ?_⟩ (by show fs.length - (j + 1) < fs.length - j; omega)
    rw [htk]
    refine hnext _ ?_
    rw [← hfab]
    show Fi.mk f.s (f.l.take k) k = Fi.mk f.s (f.l.take (crN keep f.l f.sy)) (crN keep f.l f.sy)
    rw [hk]
  · obtain rfl : j = fs.length := by omega
    rw [List.take_of_length_le (by omega)] at hcur
    have hend : cur.map DF.ab = fs.map (fun f => f.ab.cr keep) := by
      rw [hcur]
      refine List.map_congr_left fun u hu => ?_
      exact if_pos (nm_mem.2 ⟨u, hu, rfl⟩)
    refine go_Dk8 ?_
    exact se_end0 cur hend rfl rfl (by exact sub_)
end Go.Proofs.YtocaabnbmcpjmaaGreat
/- A journal over a disk of whatever size: Append, Sync, Cells; its states; Open after a cut; Crash. -/
namespace Go.Proofs.YtocaabnbmcpjmaaGreat
open Go.RowKit Go.MapKept
attribute [local irreducible] Go.Calls Go.Exit.then Go.Exit.inBlock Go.bodyPost Go.Code.wp Go.wpList takeL recordL hashL recL allL
theorem nth_Sj {φ : Prop} (h : φ := by (first | rfl | assumption)) : φ := h
theorem mid_Sj {φ : Prop} (h : φ := by (first | exact Mid.all | exact Mid.all | exact Mid.head)) : φ := h
theorem sz_Sj {φ : Prop} (h : φ := by (first | rfl | (rfl; first | done | fail))) : φ := h
theorem one_Sj {φ : Prop} (h : φ := by (first | assumption | exact first | exact one_bytes _ | exact ff_one | (simp only [List.mem_cons, List.not_mem_nil, or_false, forall_eq_or_imp, forall_eq]; decide) | exact one_bytes _ | (intro v hv; (repeat (rcases List.mem_cons.1 hv with rfl | hv; rfl)); cases hv))) : φ := h
theorem set_Sj {φ : Prop} (h : φ := by (first | (fail) | ((repeat (first | exact SetAt.here | apply SetAt.there)); first | done | fail))) : φ := h
theorem cl_Sj {φ : Prop} (h : φ := by first | rfl | exact .t | exact .f | exact .t (by omega) | exact .f (by omega) | exact .u | exact .i (by (first | exact .t (by omega) | exact .f (by omega) | exact .u | exact .i (by omega) | exact .v (by omega) | exact .b (by omega) | exact .w | rfl | omega)) | exact .v (by omega) | exact .b (by omega) | exact .q (by omega) | exact .w | exact .b (by exact at_) rfl (by exact nth_Sj) | exact .w (by exact at_) rfl rfl (by exact sz_Sj) | exact .s (by exact at_) (by exact mid_Sj) rfl rfl (by exact sz_Sj) | exact .z rfl rfl ⟨by kernel_rfl⟩ | exact .b rfl rfl ⟨by kernel_rfl⟩ | exact .a rfl rfl ⟨by kernel_rfl⟩ | exact .o rfl | exact .s | exact .n | exact .p rfl | exact .q rfl | exact .c rfl | exact .d rfl | exact .n rfl rfl (by omega) | exact .a rfl rfl (by omega) | exact .p rfl rfl (by omega) (by omega) | exact .y rfl rfl (by omega) (by omega) | exact .o (by exact at_) (by omega) rfl (by exact nth_Sj) | exact .m (by exact at_) (by omega) (by exact mid_Sj) rfl rfl (by exact sz_Sj) | exact .mlen (by exact at_) rfl | exact .t (by exact at_) rfl rfl (by first | exact True.intro | rfl) (by assumption) | exact .f (by exact at_) rfl rfl (by first | exact True.intro | rfl) (by assumption) rfl | exact .t1 (by exact at_) rfl rfl (by first | exact True.intro | rfl) (by assumption) | exact .f1 (by exact at_) rfl rfl (by first | exact True.intro | rfl) (by assumption) rfl | exact .tk (by exact at_) rfl (by assumption) (by assumption) | exact .fk (by exact at_) rfl (by assumption) (by assumption) rfl | exact .tk1 (by exact at_) rfl (by assumption) (by assumption) | exact .fk1 (by exact at_) rfl (by assumption) (by assumption) rfl | exact .r rfl rfl (by omega) (by omega) (by exact nth_Sj) rfl | exact .s rfl (by omega) (by assumption) | exact at_ | assumption | exact .r rfl rfl | exact .h rfl rfl rfl (by omega) | exact .l rfl rfl rfl (by omega) (by omega) | exact .g rfl rfl rfl rfl (by omega) (by omega) | exact .h rfl rfl (toN_ (by omega)) (by omega) | exact .l rfl rfl (toN_ (by omega)) (by omega) (by omega) | exact .g rfl rfl (toN_ (by omega)) (toN_ (by omega)) (by omega) (by omega) | exact .o (by decide) | exact .f (by decide) | exact .n (by omega) (by first | decide | (show _ ≤ ((64 : Nat) : Int); omega)) | (constructor; (repeat (first | exact .t (by omega) | exact .f (by omega) | exact .u | exact .i (by omega) | exact .v (by omega) | exact .b (by omega) | exact .w | rfl | omega)); first | done | fail) | omega | (show _ ≤ ((64 : Nat) : Int); omega)) : φ := h
theorem pv_Sj {φ : Prop} (h : φ := by constructor; (repeat exact cl_Sj); first | done | fail) : φ := h
theorem su_Sj {φ ψ : Prop} (k : ψ) (h : Hide ψ → φ := by (intro k; (first | refine sl_pu (PuI.sep (by exact pv_Sj)) rfl ?_ | refine sl_yes rfl rfl ?_ | refine sl_no rfl rfl rfl ?_ | refine sl_off rfl rfl rfl ?_ | (fail)); exact k.out)) : φ := h ⟨k⟩
theorem sto_Sj {φ ψ : Prop} (k : ψ) (h : Hide ψ → φ := by (intro k; (first | refine sl_store rfl (by exact pick_) rfl rfl (by kernel_rfl) (by exact set_Sj) ?_ | refine sl_store_whole rfl (by exact pick_) rfl (by exact sz_Sj) (by exact sz_Sj) (by exact one_Sj) ?_); exact k.out)) : φ := h ⟨k⟩
theorem go_Sj {φ ψ : Prop} (k : ψ) (h : Hide ψ → φ := by (intro k; (repeat (first | refine su_Sj ?_ | refine so_ ?_ | refine sto_Sj ?_)); exact k.out)) : φ := h ⟨k⟩
set_option maxRecDepth 100000 in
theorem cells_Jc {K : List Fa} {gj g n : Nat} {s : ByteArray} (hj : At (jC gj g s n) K) : Fn Tryz.prog 62 #[.pointer (some ⟨gj, 0, none⟩)] K (Ret (fun _ : Unit => True) (fun _ => .int .i64 n) (fun _ => K)) := by
  refine fn_enter Tryz.func62 rfl _ Tryz.ntmps62 (by simp) [(0, .pointer (some ⟨gj, 0, none⟩))] (args_of (by simp)) ?_
  refine go_Sj ?_
  exact se_ret1 () trivial rfl rfl (by exact sub_)
set_option maxRecDepth 100000 in
set_option maxHeartbeats 2000000 in
theorem app_Jnew {K : List Fa} {gj g m : Nat} {lim : Int} {A : Option Addr} {n c : Nat} {bs : List Int} (h : Rd K A n c bs) (hl : bs.length ≤ 5000) (hlim : ((manyL bs.length * 64 : Nat) : Int) ≤ lim) (hlm : lim ≤ 1048576) : Fn Tryz.prog 97 #[.pointer (some ⟨gj, 0, none⟩), .slice A n c] (jC gj g sj 0 :: dB g m lim :: dM m [] 0 :: dS [] :: K) (Ret (fun _ : Option Addr × Nat => True) (fun _ => .int .i64 0) (fun q => jC gj g sj (manyL bs.length) :: dB g m lim :: dM m [⟨sj, q.1, q.2, recL 0 bs, 0, 0⟩] 1 :: dS [⟨sj, q.1, q.2, recL 0 bs, 0, 0⟩] :: K)) := by
  refine fn_enter Tryz.func97 rfl _ Tryz.ntmps97 (by simp) [(0, .pointer (some ⟨gj, 0, none⟩)), (1, .slice A n c)] (args_of (by simp)) ?_
  have hly := Lay_ok (K := jC gj g sj 0 :: dB g m lim :: dM m [] 0 :: dS [] :: K) (number := ((0 : Nat) : Int)) (h.mono (by exact sub_)) (by decide)
  rw [LyA_ok (by decide) (by omega)] at hly
  have hlen := recL_len (k := 0) (bs := bs)
  have hm1 := many_pos bs.length
  have hm2 : manyL bs.length ≤ 105 := by unfold manyL; omega
  refine go_Sj ?_
  refine sl_call rfl rfl (by kernel_rfl) rfl Sub.refl hly ?_
  rintro ⟨A1, c1⟩ -
  dsimp only
  refine go_Sj ?_
  refine sd_drawn (fun W => AllP W [jC gj g sj 0]) (fun _ => true) (by kernel_rfl) 11 rfl ?_
  refine sd_yes2 0 rfl (by exact gd_) (by kernel_rfl) (by kernel_rfl) (by exact nop_) (PuI.all (by exact pv_Sj)) rfl (fun w hw => all_ hw) ?_
  refine sd_yes2 1 rfl (by exact gd_) (by kernel_rfl) (by kernel_rfl) (by exact nop_) (PuI.all (by exact pv_Sj)) rfl (fun w hw => all_ hw) ?_
  refine sd_yes2 2 rfl (by exact gd_) (by kernel_rfl) (by kernel_rfl) (by exact nop_) (PuI.all (by exact pv_Sj)) rfl (fun w hw => all_ hw) ?_
  refine sd_yes2 3 rfl (by exact gd_) (by kernel_rfl) (by kernel_rfl) (by exact nop_) (PuI.all (by exact pv_Sj)) rfl (fun w hw => all_ hw) ?_
  refine sd_yes2 4 rfl (by exact gd_) (by kernel_rfl) (by kernel_rfl) (by exact nop_) (PuI.all (by exact pv_Sj)) rfl (fun w hw => all_ hw) ?_
  refine sd_yes2 5 rfl (by exact gd_) (by kernel_rfl) (by kernel_rfl) (by exact nop_) (PuI.all (by exact pv_Sj)) rfl (fun w hw => all_ hw) ?_
  refine sd_yes2 6 rfl (by exact gd_) (by kernel_rfl) (by kernel_rfl) (by exact nop_) (PuI.all (by exact pv_Sj)) rfl (fun w hw => all_ hw) ?_
  refine sd_yes2 7 rfl (by exact gd_) (by kernel_rfl) (by kernel_rfl) (by exact nop_) (PuI.all (by exact pv_Sj)) rfl (fun w hw => all_ hw) ?_
  refine sd_yes2 8 rfl (by exact gd_) (by kernel_rfl) (by kernel_rfl) (by exact nop_) (PuI.all (by exact pv_Sj)) rfl (fun w hw => all_ hw) ?_
  refine sd_one 9 (by kernel_rfl) (sa_sl 9 rfl ?_)
  refine sl_call rfl rfl (by kernel_rfl) rfl (by exact sub_) (appD_new (K := u8o A1 c1 (recL 0 bs) :: jC gj g sj 0 :: K) (s := sj) (fs := []) (m := m) (ck := 0) (lim := lim) (by decide) (by decide) nohas (by decide) (by omega) (by simp [usedN]; omega) (Vw.of_own (e := 5) (c := c1) (by exact at_))) ?_
  rintro ⟨A2, c2⟩ -
  dsimp only [List.nil_append]
  refine sl_nil ?_
  refine se_sd (fun _ w hw => all_ hw) ?_
  refine sd_yes2 10 rfl (by exact gd_) (by kernel_rfl) (by kernel_rfl) (by exact nop_) (PuI.all (by exact pv_Sj)) rfl (fun w hw => all_ hw) ?_
  refine sd_done (by kernel_rfl) ?_
  refine go_Sj ?_
  rw [show ((0 : Nat) : Int) + ((recL 0 bs).length : Int) / 64 = ((manyL bs.length : Nat) : Int) by omega]
  exact se_ret1 (A2, c2) trivial rfl rfl (by exact sub_)
set_option maxRecDepth 100000 in
set_option maxHeartbeats 2000000 in
theorem app_Jyes {K : List Fa} {gj g m ck k : Nat} {lim : Int} {A : Option Addr} {n c : Nat} {bs : List Int} {f : DF} (h : Rd K A n c bs) (hl : bs.length ≤ 5000) (hk : k < 1048576) (hs : f.s.size ≤ 9223372036854775807) (hname : nameB f.s = true) (hf : ((f.l.length + manyL bs.length * 64 : Nat) : Int) ≤ lim) (hn : f.l.length ≤ 1048576) (hlm : lim ≤ 1048576) : Fn Tryz.prog 97 #[.pointer (some ⟨gj, 0, none⟩), .slice A n c] (jC gj g f.s k :: dB g m lim :: dM m [f] ck :: dS [f] :: K) (Ret (fun q : DF => q.s = f.s ∧ q.l = f.l ++ recL k bs ∧ q.sy = f.sy) (fun _ => .int .i64 0) (fun q => jC gj g f.s (k + manyL bs.length) :: dB g m lim :: dM m [q] ck :: dS [q] :: K)) := by
  refine fn_enter Tryz.func97 rfl _ Tryz.ntmps97 (by simp) [(0, .pointer (some ⟨gj, 0, none⟩)), (1, .slice A n c)] (args_of (by simp)) ?_
  have hly := Lay_ok (K := jC gj g f.s k :: dB g m lim :: dM m [f] ck :: dS [f] :: K) (number := (k : Int)) (h.mono (by exact sub_)) (by omega)
  rw [LyA_ok hk (by omega)] at hly
  have hlen := recL_len (k := k) (bs := bs)
  have hm1 := many_pos bs.length
  have hm2 : manyL bs.length ≤ 105 := by unfold manyL; omega
  refine go_Sj ?_
  refine sl_call rfl rfl (by kernel_rfl) rfl Sub.refl hly ?_
  rintro ⟨A1, c1⟩ -
  dsimp only
  refine go_Sj ?_
  refine sd_drawn (fun W => AllP W [jC gj g f.s k]) (fun _ => true) (by kernel_rfl) 11 rfl ?_
  refine sd_yes2 0 rfl (by exact gd_) (by kernel_rfl) (by kernel_rfl) (by exact nop_) (PuI.all (by exact pv_Sj)) rfl (fun w hw => all_ hw) ?_
  refine sd_yes2 1 rfl (by exact gd_) (by kernel_rfl) (by kernel_rfl) (by exact nop_) (PuI.all (by exact pv_Sj)) rfl (fun w hw => all_ hw) ?_
  refine sd_yes2 2 rfl (by exact gd_) (by kernel_rfl) (by kernel_rfl) (by exact nop_) (PuI.all (by exact pv_Sj)) rfl (fun w hw => all_ hw) ?_
  refine sd_yes2 3 rfl (by exact gd_) (by kernel_rfl) (by kernel_rfl) (by exact nop_) (PuI.all (by exact pv_Sj)) rfl (fun w hw => all_ hw) ?_
  refine sd_yes2 4 rfl (by exact gd_) (by kernel_rfl) (by kernel_rfl) (by exact nop_) (PuI.all (by exact pv_Sj)) rfl (fun w hw => all_ hw) ?_
  refine sd_yes2 5 rfl (by exact gd_) (by kernel_rfl) (by kernel_rfl) (by exact nop_) (PuI.all (by exact pv_Sj)) rfl (fun w hw => all_ hw) ?_
  refine sd_yes2 6 rfl (by exact gd_) (by kernel_rfl) (by kernel_rfl) (by exact nop_) (PuI.all (by exact pv_Sj)) rfl (fun w hw => all_ hw) ?_
  refine sd_yes2 7 rfl (by exact gd_) (by kernel_rfl) (by kernel_rfl) (by exact nop_) (PuI.all (by exact pv_Sj)) rfl (fun w hw => all_ hw) ?_
  refine sd_yes2 8 rfl (by exact gd_) (by kernel_rfl) (by kernel_rfl) (by exact nop_) (PuI.all (by exact pv_Sj)) rfl (fun w hw => all_ hw) ?_
  refine sd_one 9 (by kernel_rfl) (sa_sl 9 rfl ?_)
  refine sl_call rfl rfl (by kernel_rfl) rfl (by exact sub_) (appD_yes (K := u8o A1 c1 (recL k bs) :: jC gj g f.s k :: K) (X := []) (Y := []) (f := f) (m := m) (ck := ck) (lim := lim) hs hname (by omega) (by simp [usedN]; omega) (Vw.of_own (e := 5) (c := c1) (by exact at_))) ?_
  rintro ⟨A2, c2⟩ -
  dsimp only [List.nil_append]
  refine sl_nil ?_
  refine se_sd (fun _ w hw => all_ hw) ?_
  refine sd_yes2 10 rfl (by exact gd_) (by kernel_rfl) (by kernel_rfl) (by exact nop_) (PuI.all (by exact pv_Sj)) rfl (fun w hw => all_ hw) ?_
  refine sd_done (by kernel_rfl) ?_
  refine go_Sj ?_
  rw [show (k : Int) + ((recL k bs).length : Int) / 64 = ((k + manyL bs.length : Nat) : Int) by omega]
  exact se_ret1 ⟨f.s, A2, c2, f.l ++ recL k bs, f.sy, f.bn⟩ ⟨rfl, rfl, rfl⟩ rfl rfl (by exact sub_)
set_option maxRecDepth 100000 in
set_option maxHeartbeats 2000000 in
theorem sync_Jf {K : List Fa} {gj g m ck k : Nat} {lim : Int} {f : DF} (hsy : f.sy ≤ f.l.length) (hn : f.l.length ≤ 1048576) : Fn Tryz.prog 56 #[.pointer (some ⟨gj, 0, none⟩)] (jC gj g f.s k :: dB g m lim :: dM m [f] ck :: dS [f] :: K) (Ret (fun q : DF => q.s = f.s ∧ q.l = f.l ∧ q.sy = f.l.length) (fun _ => .int .i64 0) (fun q => jC gj g f.s k :: dB g m lim :: dM m [q] ck :: dS [q] :: K)) := by
  refine fn_enter Tryz.func56 rfl _ Tryz.ntmps56 (by simp) [(0, .pointer (some ⟨gj, 0, none⟩))] (args_of (by simp)) ?_
  by_cases hz : f.l.length - f.sy = 0
  · refine go_Sj ?_
    refine sd_drawn (fun W => AllP W [jC gj g f.s k]) (fun _ => true) (by kernel_rfl) 10 rfl ?_
    refine sd_yes2 0 rfl (by exact gd_) (by kernel_rfl) (by kernel_rfl) (by exact nop_) (PuI.all (by exact pv_Sj)) rfl (fun w hw => all_ hw) ?_
    refine sd_yes2 1 rfl (by exact gd_) (by kernel_rfl) (by kernel_rfl) (by exact nop_) (PuI.all (by exact pv_Sj)) rfl (fun w hw => all_ hw) ?_
    refine sd_yes2 2 rfl (by exact gd_) (by kernel_rfl) (by kernel_rfl) (by exact nop_) (PuI.all (by exact pv_Sj)) rfl (fun w hw => all_ hw) ?_
    refine sd_yes2 3 rfl (by exact gd_) (by kernel_rfl) (by kernel_rfl) (by exact nop_) (PuI.all (by exact pv_Sj)) rfl (fun w hw => all_ hw) ?_
    refine sd_yes2 4 rfl (by exact gd_) (by kernel_rfl) (by kernel_rfl) (by exact nop_) (PuI.all (by exact pv_Sj)) rfl (fun w hw => all_ hw) ?_
    refine sd_yes2 5 rfl (by exact gd_) (by kernel_rfl) (by kernel_rfl) (by exact nop_) (PuI.all (by exact pv_Sj)) rfl (fun w hw => all_ hw) ?_
    refine sd_yes2 6 rfl (by exact gd_) (by kernel_rfl) (by kernel_rfl) (by exact nop_) (PuI.all (by exact pv_Sj)) rfl (fun w hw => all_ hw) ?_
    refine sd_yes2 7 rfl (by exact gd_) (by kernel_rfl) (by kernel_rfl) (by exact nop_) (PuI.all (by exact pv_Sj)) rfl (fun w hw => all_ hw) ?_
    refine sd_one 8 (by kernel_rfl) (sa_sl 8 rfl ?_)
    refine sl_call rfl rfl (by kernel_rfl) rfl Sub.refl (looseD_ok (g := g) (m := m) (ck := ck) (lim := lim) (fs := [f]) (f := f) (by exact at_) (by exact at_) (List.mem_singleton.2 rfl) hsy hn) ?_
    rintro _ -
    rw [hz]
    refine sl_nil ?_
    refine se_sd (fun _ w hw => all_ hw) ?_
    refine sd_yes2 9 rfl (by exact gd_) (by kernel_rfl) (by kernel_rfl) (by exact nop_) (PuI.all (by exact pv_Sj)) rfl (fun w hw => all_ hw) ?_
    refine sd_done (by kernel_rfl) ?_
    refine go_Sj ?_
    exact se_ret1 f ⟨rfl, rfl, by omega⟩ rfl rfl (by exact sub_)
  · refine go_Sj ?_
    refine sd_drawn (fun W => AllP W [jC gj g f.s k]) (fun _ => true) (by kernel_rfl) 10 rfl ?_
    refine sd_yes2 0 rfl (by exact gd_) (by kernel_rfl) (by kernel_rfl) (by exact nop_) (PuI.all (by exact pv_Sj)) rfl (fun w hw => all_ hw) ?_
    refine sd_yes2 1 rfl (by exact gd_) (by kernel_rfl) (by kernel_rfl) (by exact nop_) (PuI.all (by exact pv_Sj)) rfl (fun w hw => all_ hw) ?_
    refine sd_yes2 2 rfl (by exact gd_) (by kernel_rfl) (by kernel_rfl) (by exact nop_) (PuI.all (by exact pv_Sj)) rfl (fun w hw => all_ hw) ?_
    refine sd_yes2 3 rfl (by exact gd_) (by kernel_rfl) (by kernel_rfl) (by exact nop_) (PuI.all (by exact pv_Sj)) rfl (fun w hw => all_ hw) ?_
    refine sd_yes2 4 rfl (by exact gd_) (by kernel_rfl) (by kernel_rfl) (by exact nop_) (PuI.all (by exact pv_Sj)) rfl (fun w hw => all_ hw) ?_
    refine sd_yes2 5 rfl (by exact gd_) (by kernel_rfl) (by kernel_rfl) (by exact nop_) (PuI.all (by exact pv_Sj)) rfl (fun w hw => all_ hw) ?_
    refine sd_yes2 6 rfl (by exact gd_) (by kernel_rfl) (by kernel_rfl) (by exact nop_) (PuI.all (by exact pv_Sj)) rfl (fun w hw => all_ hw) ?_
    refine sd_yes2 7 rfl (by exact gd_) (by kernel_rfl) (by kernel_rfl) (by exact nop_) (PuI.all (by exact pv_Sj)) rfl (fun w hw => all_ hw) ?_
    refine sd_one 8 (by kernel_rfl) (sa_sl 8 rfl ?_)
    refine sl_call rfl rfl (by kernel_rfl) rfl Sub.refl (looseD_ok (g := g) (m := m) (ck := ck) (lim := lim) (fs := [f]) (f := f) (by exact at_) (by exact at_) (List.mem_singleton.2 rfl) hsy hn) ?_
    rintro _ -
    refine sl_nil ?_
    refine se_sd (fun _ w hw => all_ hw) ?_
    refine sd_yes2 9 rfl (by exact gd_) (by kernel_rfl) (by kernel_rfl) (by exact nop_) (PuI.all (by exact pv_Sj)) rfl (fun w hw => all_ hw) ?_
    refine sd_done (by kernel_rfl) ?_
    refine go_Sj ?_
    refine sd_drawn (fun W => AllP W [jC gj g f.s k]) (fun _ => true) (by kernel_rfl) 10 rfl ?_
    refine sd_yes2 0 rfl (by exact gd_) (by kernel_rfl) (by kernel_rfl) (by exact nop_) (PuI.all (by exact pv_Sj)) rfl (fun w hw => all_ hw) ?_
    refine sd_yes2 1 rfl (by exact gd_) (by kernel_rfl) (by kernel_rfl) (by exact nop_) (PuI.all (by exact pv_Sj)) rfl (fun w hw => all_ hw) ?_
    refine sd_yes2 2 rfl (by exact gd_) (by kernel_rfl) (by kernel_rfl) (by exact nop_) (PuI.all (by exact pv_Sj)) rfl (fun w hw => all_ hw) ?_
    refine sd_yes2 3 rfl (by exact gd_) (by kernel_rfl) (by kernel_rfl) (by exact nop_) (PuI.all (by exact pv_Sj)) rfl (fun w hw => all_ hw) ?_
    refine sd_yes2 4 rfl (by exact gd_) (by kernel_rfl) (by kernel_rfl) (by exact nop_) (PuI.all (by exact pv_Sj)) rfl (fun w hw => all_ hw) ?_
    refine sd_yes2 5 rfl (by exact gd_) (by kernel_rfl) (by kernel_rfl) (by exact nop_) (PuI.all (by exact pv_Sj)) rfl (fun w hw => all_ hw) ?_
    refine sd_yes2 6 rfl (by exact gd_) (by kernel_rfl) (by kernel_rfl) (by exact nop_) (PuI.all (by exact pv_Sj)) rfl (fun w hw => all_ hw) ?_
    refine sd_yes2 7 rfl (by exact gd_) (by kernel_rfl) (by kernel_rfl) (by exact nop_) (PuI.all (by exact pv_Sj)) rfl (fun w hw => all_ hw) ?_
    refine sd_one 8 (by kernel_rfl) (sa_sl 8 rfl ?_)
    refine sl_call rfl rfl (by kernel_rfl) rfl (by exact sub_) (syncD_ok (K := dS [f] :: jC gj g f.s k :: K) (X := []) (Y := []) (f := f) (g := g) (m := m) (ck := ck) (lim := lim)) ?_
    rintro _ -
    dsimp only [List.nil_append]
    refine sl_nil ?_
    refine se_sd (fun _ w hw => all_ hw) ?_
    refine sd_yes2 9 rfl (by exact gd_) (by kernel_rfl) (by kernel_rfl) (by exact nop_) (PuI.all (by exact pv_Sj)) rfl (fun w hw => all_ hw) ?_
    refine sd_done (by kernel_rfl) ?_
    refine go_Sj ?_
    refine se_ret1 { f with sy := f.l.length } ⟨rfl, rfl, rfl⟩ rfl rfl ?_
    rw [show dS [{ f with sy := f.l.length }] = dS [f] from ds_sy (X := []) (Y := [])]
    exact sub_
/-- The file of a journal with these records, synced so far at least. -/
def JFl (ls : List (List Int)) (σ : Nat) (f : DF) : Prop := f.s = sj ∧ f.l = allL ls ∧ f.sy ≤ f.l.length ∧ σ ≤ f.sy
def JSt (ls : List (List Int)) (fs : List DF) (ck σ : Nat) : Prop := (ls = [] ∧ fs = [] ∧ ck = 0 ∧ σ = 0) ∨ ∃ f, fs = [f] ∧ JFl ls σ f
theorem many_le {n : Nat} (h : n ≤ 5000) : manyL n ≤ 105 := by
  unfold manyL
  omega
attribute [local semireducible] allL in
theorem allL_one (bs : List Int) : recL 0 bs = allL ([] ++ [bs]) := by
  rw [allL_next]
  rfl
theorem app_J {K : List Fa} {gj g m ck σ : Nat} {lim : Int} {A : Option Addr} {n c : Nat} {bs : List Int} {ls : List (List Int)} {fs : List DF} (hS : JSt ls fs ck σ) (h : Rd K A n c bs) (hl : bs.length ≤ 5000) (hcc : cellsA ls ≤ 16000) (hlim : (((cellsA ls + manyL bs.length) * 64 : Nat) : Int) ≤ lim) (hlm : lim ≤ 1048576) :
    Fn Tryz.prog 97 #[.pointer (some ⟨gj, 0, none⟩), .slice A n c] (jC gj g sj (cellsA ls) :: dB g m lim :: dM m fs ck :: dS fs :: K) (Ret (fun q : DF × Nat => JFl (ls ++ [bs]) σ q.1) (fun _ => .int .i64 0) (fun q => jC gj g sj (cellsA (ls ++ [bs])) :: dB g m lim :: dM m [q.1] q.2 :: dS [q.1] :: K)) := by
  rcases hS with ⟨rfl, rfl, rfl, rfl⟩ | ⟨f, rfl, h1, h2, h3, h4⟩
  · have e : cellsA ([] ++ [bs]) = manyL bs.length := by
      rw [cellsA_snoc]
      show 0 + _ = _
      omega
    have e0 : cellsA ([] : List (List Int)) = 0 := rfl
    have hlim0 : ((manyL bs.length * 64 : Nat) : Int) ≤ lim := by
      rw [e0, Nat.zero_add] at hlim
      exact hlim
    refine (app_Jnew (K := K) (gj := gj) (g := g) (m := m) (lim := lim) h hl hlim0 hlm).say fun q w _ hw => ⟨(⟨sj, q.1, q.2, recL 0 bs, 0, 0⟩, 1), ⟨rfl, allL_one bs, Nat.zero_le _, Nat.zero_le _⟩, rfl, ?_⟩
    rw [e]
    exact hw
  · have hm := many_le hl
    have h0 := app_Jyes (K := K) (gj := gj) (g := g) (m := m) (ck := ck) (k := cellsA ls) (f := f) h hl (by omega) (by rw [h1]; decide) (by rw [h1]; decide) (by rw [h2, allL_len]; omega) (by rw [h2, allL_len]; omega) hlm
    rw [h1] at h0
    refine h0.say fun q w hq hw => ?_
    obtain ⟨q1, q2, q3⟩ := hq
    refine ⟨(q, ck), ⟨q1, by rw [q2, h2, allL_next], by rw [q2, q3, List.length_append]; omega, by rw [q3]; exact h4⟩, rfl, ?_⟩
    rw [cellsA_snoc]
    exact hw
theorem sync_Js {K : List Fa} {gj g m ck k σ : Nat} {lim : Int} {ls : List (List Int)} {f : DF} (hF : JFl ls σ f) (hn : f.l.length ≤ 1048576) :
    Fn Tryz.prog 56 #[.pointer (some ⟨gj, 0, none⟩)] (jC gj g sj k :: dB g m lim :: dM m [f] ck :: dS [f] :: K) (Ret (fun q : DF => JFl ls f.l.length q) (fun _ => .int .i64 0) (fun q => jC gj g sj k :: dB g m lim :: dM m [q] ck :: dS [q] :: K)) := by
  obtain ⟨h1, h2, h3, h4⟩ := hF
  have h0 := sync_Jf (lim := lim) (K := K) (gj := gj) (g := g) (m := m) (ck := ck) (k := k) (f := f) h3 hn
  rw [h1] at h0
  refine h0.say fun q w hq hw => ?_
  obtain ⟨q1, q2, q3⟩ := hq
  exact ⟨q, ⟨q1, by rw [q2, h2], by rw [q2, q3]; omega, by rw [q3]; omega⟩, rfl, hw⟩
/-- Open at a journal that is cut: what is whole. -/
theorem open_cut {K : List Fa} {g m ck mm r : Nat} {lim : Int} {ls : List (List Int)} {f : DF} (hs : f.s = sj) (hl : f.l = (allL ls).take mm) (hmm : mm ≤ (allL ls).length) (hsy : f.sy ≤ f.l.length) (hW : Whole ls mm r) (hls : ∀ x ∈ ls, x.length ≤ 65536) (hlb : ∀ x ∈ ls, IsBytes x) (hc : cellsA ls ≤ 16000) :
    Fn Tryz.prog 42 #[.pointer (some ⟨g, 0, none⟩), .string sj] (dB g m lim :: dM m [f] ck :: dS [f] :: K) (Ret (fun p : Ok => (p.q.xs.map Sx.l = ls.take r ∧ ∀ x ∈ p.q.xs, x.ok) ∧ p.f.s = sj ∧ p.f.l = allL (ls.take r) ∧ p.f.sy = if cellsA (ls.take r) * 64 < mm then cellsA (ls.take r) * 64 else f.sy) (fun p => .tuple #[.pointer (some ⟨p.gj, 0, none⟩), .slice p.q.R p.q.xs.length p.q.c, .int .i64 0]) (fun p => jC p.gj g sj (cellsA (ls.take r)) :: p.q.row :: p.q.st :: dB g m lim :: dM m [p.f] ck :: dS [p.f] :: K)) := by
  have hlen := allL_len ls
  obtain ⟨⟨c1, c2, c3⟩, c4⟩ := cut_ok hls (by omega) hmm hW
  have hab := allL_bytes ls hlb
  have hfl : f.l.length = mm := by rw [hl, List.length_take]; omega
  have hlo := hW.lo
  have h0 := open_go (K := K) (g := g) (m := m) (ck := ck) (lim := lim) (f := f) (j0 := r) (k0 := cellsA (ls.take r)) (out0 := ls.take r) (by omega) (by rw [hl]; exact hab.take _) hsy (by omega) (by rw [hl]; exact c1) (by rw [hl]; exact c2) (by rw [hl]; exact c3)
  rw [hs, hfl, hl, c4] at h0
  exact h0
theorem crash_one {K : List Fa} {g m ck : Nat} {lim keep : Int} {f : DF} (hsy : f.sy ≤ f.l.length) (hn : f.l.length ≤ 1048576) :
    Fn Tryz.prog 38 #[.pointer (some ⟨g, 0, none⟩), .int .i64 keep] (dB g m lim :: dM m [f] ck :: dS [f] :: K) (Ret (fun q : DF => q.s = f.s ∧ q.l = f.l.take (crN keep f.l f.sy) ∧ q.sy = crN keep f.l f.sy) (fun _ => .tuple #[]) (fun q => dB g m lim :: dM m [q] ck :: dS [q] :: K)) := by
  have h0 := crashD_ok (K := K) (g := g) (m := m) (ck := ck) (lim := lim) (keep := keep) (fs := [f]) (by show 1 ≤ 1000; decide) (fun x hx => by rw [List.mem_singleton] at hx; subst hx; exact ⟨hsy, hn⟩)
  refine h0.say fun q w hq hw => ?_
  obtain ⟨q0, rfl⟩ : ∃ q0, q = [q0] := List.length_eq_one_iff.1 (by have := congrArg List.length hq; simpa using this)
  have h1 : q0.ab = f.ab.cr keep := by simpa using hq
  simp only [DF.ab, Fi.cr, Fi.mk.injEq] at h1
  exact ⟨q0, h1, rfl, hw⟩
end Go.Proofs.YtocaabnbmcpjmaaGreat
/- Package store: note, with the closures that fill a record. -/
namespace Go.Proofs.YtocaabnbmcpjmaaGreat
open Go.RowKit Go.MapKept
attribute [local irreducible] Go.Calls Go.Exit.then Go.Exit.inBlock Go.bodyPost Go.Code.wp Go.wpList takeL recordL hashL recL allL
theorem nth_Skn {φ : Prop} (h : φ := by (first | rfl | first | rfl | exact rpC_n16 | exact rpC_n17 | exact rpC_n18)) : φ := h
theorem mid_Skn {φ : Prop} (h : φ := by (first | first | exact rpC_id | exact Mid.all | exact Mid.all | exact Mid.head)) : φ := h
theorem sz_Skn {φ : Prop} (h : φ := by (first | rfl | ((try simp only [rpC_len, bytes_length, Id.len]); (first | done | rfl); first | done | fail))) : φ := h
theorem one_Skn {φ : Prop} (h : φ := by (first | assumption | exact exact one_bytes _ | (simp only [List.mem_cons, List.not_mem_nil, or_false, forall_eq_or_imp, forall_eq]; decide) | exact one_bytes _ | (intro v hv; (repeat (rcases List.mem_cons.1 hv with rfl | hv; rfl)); cases hv))) : φ := h
theorem set_Skn {φ : Prop} (h : φ := by (first | (fail) | ((repeat (first | exact SetAt.here | apply SetAt.there)); first | done | fail))) : φ := h
theorem cl_Skn {φ : Prop} (h : φ := by first | rfl | exact .t | exact .f | exact .t (by omega) | exact .f (by omega) | exact .u | exact .i (by (first | exact .t (by omega) | exact .f (by omega) | exact .u | exact .i (by omega) | exact .v (by omega) | exact .b (by omega) | exact .w | rfl | omega)) | exact .v (by omega) | exact .b (by omega) | exact .q (by omega) | exact .w | exact .b (by exact at_) rfl (by exact nth_Skn) | exact .w (by exact at_) rfl rfl (by exact sz_Skn) | exact .s (by exact at_) (by exact mid_Skn) rfl rfl (by exact sz_Skn) | exact .z rfl rfl ⟨by kernel_rfl⟩ | exact .b rfl rfl ⟨by kernel_rfl⟩ | exact .a rfl rfl ⟨by kernel_rfl⟩ | exact .o rfl | exact .s | exact .n | exact .p rfl | exact .q rfl | exact .c rfl | exact .d rfl | exact .n rfl rfl (by omega) | exact .a rfl rfl (by omega) | exact .p rfl rfl (by omega) (by omega) | exact .y rfl rfl (by omega) (by omega) | exact .o (by exact at_) (by omega) rfl (by exact nth_Skn) | exact .m (by exact at_) (by omega) (by exact mid_Skn) rfl rfl (by exact sz_Skn) | exact .mlen (by exact at_) rfl | exact .t (by exact at_) rfl rfl (by first | exact True.intro | rfl) (by assumption) | exact .f (by exact at_) rfl rfl (by first | exact True.intro | rfl) (by assumption) rfl | exact .t1 (by exact at_) rfl rfl (by first | exact True.intro | rfl) (by assumption) | exact .f1 (by exact at_) rfl rfl (by first | exact True.intro | rfl) (by assumption) rfl | exact .tk (by exact at_) rfl (by assumption) (by assumption) | exact .fk (by exact at_) rfl (by assumption) (by assumption) rfl | exact .tk1 (by exact at_) rfl (by assumption) (by assumption) | exact .fk1 (by exact at_) rfl (by assumption) (by assumption) rfl | exact .r rfl rfl (by omega) (by omega) (by exact nth_Skn) rfl | exact .s rfl (by omega) (by assumption) | exact at_ | assumption | exact .r rfl rfl | exact .h rfl rfl rfl (by omega) | exact .l rfl rfl rfl (by omega) (by omega) | exact .g rfl rfl rfl rfl (by omega) (by omega) | exact .h rfl rfl (toN_ (by omega)) (by omega) | exact .l rfl rfl (toN_ (by omega)) (by omega) (by omega) | exact .g rfl rfl (toN_ (by omega)) (toN_ (by omega)) (by omega) (by omega) | exact .o (by decide) | exact .f (by decide) | exact .n (by omega) (by first | decide | (show _ ≤ ((64 : Nat) : Int); omega)) | (constructor; (repeat (first | exact .t (by omega) | exact .f (by omega) | exact .u | exact .i (by omega) | exact .v (by omega) | exact .b (by omega) | exact .w | rfl | omega)); first | done | fail) | omega | (show _ ≤ ((64 : Nat) : Int); omega)) : φ := h
theorem pv_Skn {φ : Prop} (h : φ := by constructor; (repeat exact cl_Skn); first | done | fail) : φ := h
theorem su_Skn {φ ψ : Prop} (k : ψ) (h : Hide ψ → φ := by (intro k; (first | refine sl_pu (PuI.sep (by exact pv_Skn)) rfl ?_ | refine sl_yes rfl rfl ?_ | refine sl_no rfl rfl rfl ?_ | refine sl_off rfl rfl rfl ?_ | (fail)); exact k.out)) : φ := h ⟨k⟩
theorem sto_Skn {φ ψ : Prop} (k : ψ) (h : Hide ψ → φ := by (intro k; (first | refine sl_store rfl (by exact pick_) rfl rfl (by kernel_rfl) (by exact set_Skn) ?_ | refine sl_store_whole rfl (by exact pick_) rfl (by exact sz_Skn) (by exact sz_Skn) (by exact one_Skn) ?_); exact k.out)) : φ := h ⟨k⟩
theorem go_Skn {φ ψ : Prop} (k : ψ) (h : Hide ψ → φ := by (intro k; (repeat (first | refine su_Skn ?_ | refine so_ ?_ | refine sto_Skn ?_)); exact k.out)) : φ := h ⟨k⟩
set_option maxRecDepth 100000 in
set_option maxHeartbeats 4000000 in
theorem note_ok {K : List Fa} {g gj gi gb mw ms gd md σ ckd : Nat} {t : Ta} {life lim kind : Int} {ls : List (List Int)} {fs : List DF} {f : FuncId} {caps : List Value} {bs : List Int}
    (hf : callable Tryz.prog f = true) (hS : JSt ls fs ckd σ) (hb : IsBytes (kind :: bs)) (hl : (kind :: bs).length ≤ 5000) (hcc : cellsA ls ≤ 16000) (hlim : (((cellsA ls + manyL (kind :: bs).length) * 64 : Nat) : Int) ≤ lim) (hlm : lim ≤ 1048576)
    (hfill : ∀ (b : Nat) (A : Option Addr) (c : Nat), Fn Tryz.prog f ([Value.pointer (some ⟨b, 0, none⟩)] ++ caps).toArray (wrb b A [kind].length c :: u8o A c [kind] :: sB g t gj gi gb mw ms life :: jC gj gd sj (cellsA ls) :: dB gd md lim :: dM md fs ckd :: dS fs :: K)
      (Ret (fun _ : Option Addr × Nat => True) (fun _ => .tuple #[]) (fun p => wrb b p.1 (kind :: bs).length p.2 :: u8o p.1 p.2 (kind :: bs) :: sB g t gj gi gb mw ms life :: jC gj gd sj (cellsA ls) :: dB gd md lim :: dM md fs ckd :: dS fs :: K))) :
    Fn Tryz.prog 45 #[.pointer (some ⟨g, 0, none⟩), .int .u8 kind, .func (.func f) #[] caps.toArray] (sB g t gj gi gb mw ms life :: jC gj gd sj (cellsA ls) :: dB gd md lim :: dM md fs ckd :: dS fs :: K)
      (Ret (fun q : DF × Nat => JFl (ls ++ [kind :: bs]) σ q.1) (fun _ => .int .i64 0) (fun q => sB g t gj gi gb mw ms life :: jC gj gd sj (cellsA (ls ++ [kind :: bs])) :: dB gd md lim :: dM md [q.1] q.2 :: dS [q.1] :: K)) := by
  refine fn_enter Tryz.func45 rfl _ Tryz.ntmps45 (by simp) [(0, .pointer (some ⟨g, 0, none⟩)), (1, .int .u8 kind), (2, .func (.func f) #[] caps.toArray)] (args_of (by simp)) ?_
  refine go_Skn ?_
  refine sl_alloc rfl rfl rfl ?_; intro b
  refine go_Skn ?_
  refine sl_build (size := 1) (e := 5) (cells := [.int .u8 kind]) rfl (fun W => by kernel_rfl) rfl (by decide) rfl ?_
  intro g1
  refine go_Skn ?_
  refine sl_call rfl rfl (by kernel_rfl) rfl (by exact Sub.cons (by exact pick_) (Sub.own_nil Sub.refl)) (wRaw (bs := []) (xs := [kind]) (b := b) (A := none) (c := 0) (Vw.of_own (e := 5) (A := some ⟨g1, 0, none⟩) (c := 1) (by exact at_)) (by decide)) ?_
  rintro ⟨A1, c1⟩ -
  dsimp only [List.nil_append]
  refine go_Skn ?_
  refine sl_call rfl rfl hf rfl (by exact sub_) (hfill b A1 c1) ?_
  rintro ⟨A2, c2⟩ -
  dsimp only
  refine go_Skn ?_
  refine sd_drawn (fun W => AllP W [sB g t gj gi gb mw ms life]) (fun _ => true) (by kernel_rfl) 7 rfl ?_
  refine sd_yes2 0 rfl (by exact gd_) (by kernel_rfl) (by kernel_rfl) (by exact nop_) (PuI.all (by exact pv_Skn)) rfl (fun w hw => all_ hw) ?_
  refine sd_yes2 1 rfl (by exact gd_) (by kernel_rfl) (by kernel_rfl) (by exact nop_) (PuI.all (by exact pv_Skn)) rfl (fun w hw => all_ hw) ?_
  refine sd_yes2 2 rfl (by exact gd_) (by kernel_rfl) (by kernel_rfl) (by exact nop_) (PuI.all (by exact pv_Skn)) rfl (fun w hw => all_ hw) ?_
  refine sd_yes2 3 rfl (by exact gd_) (by kernel_rfl) (by kernel_rfl) (by exact nop_) (PuI.all (by exact pv_Skn)) rfl (fun w hw => all_ hw) ?_
  refine sd_one 4 (by kernel_rfl) (sa_sl 4 rfl ?_)
  refine sl_call rfl rfl (by kernel_rfl) rfl (by exact sub_) (wBytes (b := b) (A := A2) (c := c2) (bs := kind :: bs) (by omega)) ?_
  rintro ⟨A3, c3⟩ -
  dsimp only
  refine sl_know (fun w hw => own_len (e := 5) (size := 1) (A := A3) hw (by exact at_)) ?_
  rintro ⟨-, l1, l2⟩
  refine sl_nil ?_
  refine se_sd (fun _ w hw => all_ hw) ?_
  refine sd_one 5 (by kernel_rfl) (sa_sl 5 rfl ?_)
  refine sl_call rfl rfl (by kernel_rfl) rfl (by exact sub_) (app_J (K := u8o A3 c3 (kind :: bs) :: sB g t gj gi gb mw ms life :: K) (gj := gj) (g := gd) (m := md) (lim := lim) hS ⟨Vw.of_own (e := 5) (A := A3) (c := c3) .here, l1, by omega, l2, rfl, hb⟩ hl hcc hlim hlm) ?_
  rintro ⟨q, ck2⟩ hq
  refine sl_nil ?_
  refine se_sd (fun _ w hw => all_ hw) ?_
  refine sd_yes2 6 rfl (by exact gd_) (by kernel_rfl) (by kernel_rfl) (by exact nop_) (PuI.all (by exact pv_Skn)) rfl (fun w hw => all_ hw) ?_
  refine sd_done (by kernel_rfl) ?_
  refine go_Skn ?_
  exact se_ret1 (q, ck2) hq rfl rfl (by exact sub_)
end Go.Proofs.YtocaabnbmcpjmaaGreat
