/- Several texts of one claim, one behind the other (Dk3, Dk4, Dk6, Je, Jh, Dkt, Jg, Ji, Shl, Dk7, Dk8). -/
import Derived.Test.YtocaabnbmcpjmaaGreatDoorB11
import Derived.Shelf.Sort.Plain
import Derived.Shelf.Slices.In.SortNone
import Derived.Test.YtocaabnbmcpjmaaGreatDoorB07
import Derived.Test.YtocaabnbmcpjmaaGreatDoorB01
set_option linter.unusedVariables false
set_option linter.unusedSimpArgs false
/- A disk: names, what is used; reading; Sync, Cut, Turn, at a file that is there. -/
namespace Go.Proofs.YtocaabnbmcpjmaaGreatDoor
open Go.RowKit Go.MapKept
attribute [local irreducible] Go.Calls Go.Exit.then Go.Exit.inBlock Go.bodyPost Go.Code.wp Go.wpList
theorem own_PD {e : TypeId} {size n c : Nat} {A : Option Addr} {xs : List Value} {w : World} (h : (own e size A n c xs).P w) : w.ownsRow 0 e size (.slice A n c) n xs := by
  unfold own at h
  exact h
section
variable {P : Program} {ops : Array Oper} {Q : Exit → Act → World → Prop} {n : Nat} {l : Env} {L L' : List Fa} {rest : List Oper} {ty t kt e : TypeId} {pos : String} {after : Array Edge} {x y u : Operand} {m ck : Nat} {X Y fs : List DF} {f f' : DF} {K : List Fa}
theorem dM_split : dM m (X ++ f :: Y) ck = mp m .string (X.map DF.ent ++ f.ent :: Y.map DF.ent) ck := by
  show mp m .string ((X ++ f :: Y).map DF.ent) ck = _
  rw [List.map_append, List.map_cons]
theorem sl_dput (hx : ev l x = some (.map (some m))) (hy : ev l y = some (.string f.s)) (hu : ev l u = some f'.val) (hs : f'.s = f.s) (hb : f'.bn = f.bn) (hp : Pick (dM m (X ++ f :: Y) ck) L L') (ht : P.underlying t = some (.map kt e)) (hd : P.underlying kt = some .string)
    (h : SL P ops Q rest n l (dM m (X ++ f' :: Y) ck :: L')) : SL P ops Q (⟨none, .mapUpdate t x y u, ty, pos, after, none⟩ :: rest) n l L := by
  rw [dM_split] at hp h
  refine sl_mapPut (me := f.ent) hx hy hu hp ht hd True.intro ?_
  have he : (⟨f.ent.key, f'.val, f.ent.born⟩ : MapEntry) = f'.ent := by
    unfold DF.ent
    rw [hs, hb]
  rw [he]
  exact h
theorem sl_dnew {s : ByteArray} (hx : ev l x = some (.map (some m))) (hy : ev l y = some (.string s)) (hu : ev l u = some f'.val) (hs : f'.s = s) (hb : f'.bn = ck) (hn : ¬ DHas fs s) (hp : Pick (dM m fs ck) L L') (ht : P.underlying t = some (.map kt e)) (hd : P.underlying kt = some .string)
    (h : SL P ops Q rest n l (dM m (fs ++ [f']) (ck + 1) :: L')) : SL P ops Q (⟨none, .mapUpdate t x y u, ty, pos, after, none⟩ :: rest) n l L := by
  refine sl_mapNew hx hy hu hp ht hd True.intro (dno hn) ?_
  have he : fs.map DF.ent ++ [(⟨.string s, f'.val, ck⟩ : MapEntry)] = (fs ++ [f']).map DF.ent := by
    rw [List.map_append]
    unfold DF.ent
    simp [hs, hb]
  rw [he]
  exact h
theorem ds_swap : Ent_ (f'.fa :: dS (X ++ f :: Y) :: K) (dS (X ++ f' :: Y) :: K) := fun w hw => by
  have e1 : dS (X ++ f :: Y) = star (X.map DF.fa ++ f.fa :: Y.map DF.fa) := by
    show star _ = _
    rw [List.map_append, List.map_cons]
  have e2 : dS (X ++ f' :: Y) = star (X.map DF.fa ++ f'.fa :: Y.map DF.fa) := by
    show star _ = _
    rw [List.map_append, List.map_cons]
  rw [e1] at hw
  rw [e2]
  have h1 : Sep w (star (X.map DF.fa ++ f.fa :: Y.map DF.fa) :: f'.fa :: K) := hw.sub (Sub.cons (Pick.there Pick.here) (Sub.cons Pick.here Sub.refl))
  have h2 := star_pull w h1
  have h3 : Sep w (f'.fa :: star (X.map DF.fa ++ Y.map DF.fa) :: K) := h2.sub (Sub.cons (Pick.there (Pick.there Pick.here)) (Sub.skip (Sub.cons Pick.here Sub.refl)))
  exact star_push w h3
theorem ds_new : Ent_ (f'.fa :: dS fs :: K) (dS (fs ++ [f']) :: K) := fun w hw => by
  have e2 : dS (fs ++ [f']) = star (fs.map DF.fa ++ f'.fa :: []) := by
    show star _ = _
    rw [List.map_append, List.map_cons, List.map_nil]
  rw [e2]
  refine star_push w ?_
  rw [List.append_nil]
  exact hw
theorem ds_sy {k : Nat} : dS (X ++ { f with sy := k } :: Y) = dS (X ++ f :: Y) := by
  show star _ = star _
  rw [List.map_append, List.map_append, List.map_cons, List.map_cons]
theorem ds_get (h : At (dS fs) L) (hf : f ∈ fs) : Vw L (fun w => Reads w 1 f.A f.l.length (bytes f.l)) := fun w hw => Reads.of_own (own_PD (star_get h (List.mem_map.2 ⟨f, hf, rfl⟩) w hw))
theorem mid_mem : f ∈ X ++ f :: Y := by simp
end
def usedN (fs : List DF) : Nat := (fs.map (·.l.length)).sum
theorem used_app {X Y : List DF} : usedN (X ++ Y) = usedN X + usedN Y := by simp [usedN]
theorem used_cons {f : DF} {Y : List DF} : usedN (f :: Y) = f.l.length + usedN Y := by simp [usedN]
theorem used_le {f : DF} {fs : List DF} (h : f ∈ fs) : f.l.length ≤ usedN fs := by
  obtain ⟨X, Y, rfl⟩ := List.append_of_mem h
  rw [used_app, used_cons]
  omega
theorem used_perm {us fs : List DF} (h : us.Perm fs) : usedN us = usedN fs := (h.map _).sum_nat
theorem mp_nodup {L : List Fa} {m ck : Nat} {fs : List DF} (h : At (dM m fs ck) L) : ∀ w, Sep w L → fs.Nodup ∧ fs.Pairwise (fun a b => a.s ≠ b.s) := fun w hw => by
  have h1 : MapP m .string (fs.map DF.ent) ck w := mp_P ▸ hw.at h
  have h3 := ((stamped_iff _ _).1 h1.2.1).2.2
  rw [List.toList_toArray, List.pairwise_map] at h3
  have h4 : fs.Pairwise (fun a b => a.s ≠ b.s) := h3.imp (fun {a b} hab e => hab (congrArg Value.string e))
  exact ⟨h4.imp (fun {a b} hab e => hab (congrArg DF.s e)), h4⟩
theorem sub_split {α : Type} {us fs : List α} (h1 : us.Nodup) (h2 : fs.Nodup) (hs : ∀ u ∈ us, u ∈ fs) : ∃ z, (us ++ z).Perm fs := by
  classical
  refine ⟨fs.filter (fun x => decide (x ∉ us)), (List.perm_ext_iff_of_nodup (List.nodup_append.2 ⟨h1, h2.filter _, fun a ha b hb e => ?_⟩) h2).2 fun x => ?_⟩
  · subst e
    simp only [List.mem_filter, decide_eq_true_eq] at hb
    exact hb.2 ha
  · simp only [List.mem_append, List.mem_filter, decide_eq_true_eq]
    refine ⟨fun h => h.elim (hs x) (·.1), fun h => ?_⟩
    by_cases hx : x ∈ us
    · exact .inl hx
    · exact .inr ⟨h, hx⟩
theorem ent_inj {a b : DF} {fs : List DF} (hn : fs.Pairwise (fun a b => a.s ≠ b.s)) (ha : a ∈ fs) (hb : b ∈ fs) (h : a.ent = b.ent) : a = b := by
  have hk : Value.string a.s = .string b.s := congrArg MapEntry.key h
  injection hk with hk
  exact pw_one (f := DF.s) hn ha hb hk
theorem nth_Dk3 {φ : Prop} (h : φ := by (first | rfl | rfl)) : φ := h
theorem mid_Dk3 {φ : Prop} (h : φ := by (first | exact Mid.all | exact Mid.all | exact Mid.head)) : φ := h
theorem sz_Dk3 {φ : Prop} (h : φ := by (first | rfl | (rfl; first | done | fail))) : φ := h
theorem one_Dk3 {φ : Prop} (h : φ := by (first | assumption | exact first | exact one_bytes _ | exact ff_one | (simp only [List.mem_cons, List.not_mem_nil, or_false, forall_eq_or_imp, forall_eq]; decide) | exact one_bytes _ | (intro v hv; (repeat (rcases List.mem_cons.1 hv with rfl | hv; rfl)); cases hv))) : φ := h
theorem set_Dk3 {φ : Prop} (h : φ := by (first | (fail) | ((repeat (first | exact SetAt.here | apply SetAt.there)); first | done | fail))) : φ := h
theorem cl_Dk3 {φ : Prop} (h : φ := by first | rfl | exact .t | exact .f | exact .t (by omega) | exact .f (by omega) | exact .u | exact .i (by (first | exact .t (by omega) | exact .f (by omega) | exact .u | exact .i (by omega) | exact .v (by omega) | exact .b (by omega) | exact .w | rfl | omega)) | exact .v (by omega) | exact .b (by omega) | exact .q (by omega) | exact .w | exact .b (by exact at_) rfl (by exact nth_Dk3) | exact .w (by exact at_) rfl rfl (by exact sz_Dk3) | exact .s (by exact at_) (by exact mid_Dk3) rfl rfl (by exact sz_Dk3) | exact .z rfl rfl ⟨by kernel_rfl⟩ | exact .b rfl rfl ⟨by kernel_rfl⟩ | exact .a rfl rfl ⟨by kernel_rfl⟩ | exact .o rfl | exact .s | exact .n | exact .p rfl | exact .q rfl | exact .c rfl | exact .d rfl | exact .n rfl rfl (by omega) | exact .a rfl rfl (by omega) | exact .p rfl rfl (by omega) (by omega) | exact .y rfl rfl (by omega) (by omega) | exact .o (by exact at_) (by omega) rfl (by exact nth_Dk3) | exact .m (by exact at_) (by omega) (by exact mid_Dk3) rfl rfl (by exact sz_Dk3) | exact .mlen (by exact at_) rfl | exact .t (by exact at_) rfl rfl (by first | exact True.intro | rfl) (by assumption) | exact .f (by exact at_) rfl rfl (by first | exact True.intro | rfl) (by assumption) rfl | exact .t1 (by exact at_) rfl rfl (by first | exact True.intro | rfl) (by assumption) | exact .f1 (by exact at_) rfl rfl (by first | exact True.intro | rfl) (by assumption) rfl | exact .tk (by exact at_) rfl (by assumption) (by assumption) | exact .fk (by exact at_) rfl (by assumption) (by assumption) rfl | exact .tk1 (by exact at_) rfl (by assumption) (by assumption) | exact .fk1 (by exact at_) rfl (by assumption) (by assumption) rfl | exact .r rfl rfl (by omega) (by omega) (by exact nth_Dk3) rfl | exact .s rfl (by omega) (by assumption) | exact at_ | assumption | exact .r rfl rfl | exact .h rfl rfl rfl (by omega) | exact .l rfl rfl rfl (by omega) (by omega) | exact .g rfl rfl rfl rfl (by omega) (by omega) | exact .h rfl rfl (toN_ (by omega)) (by omega) | exact .l rfl rfl (toN_ (by omega)) (by omega) (by omega) | exact .g rfl rfl (toN_ (by omega)) (toN_ (by omega)) (by omega) (by omega) | exact .o (by decide) | exact .f (by decide) | exact .n (by omega) (by first | decide | (show _ ≤ ((64 : Nat) : Int); omega)) | (constructor; (repeat (first | exact .t (by omega) | exact .f (by omega) | exact .u | exact .i (by omega) | exact .v (by omega) | exact .b (by omega) | exact .w | rfl | omega)); first | done | fail) | omega | (show _ ≤ ((64 : Nat) : Int); omega)) : φ := h
theorem pv_Dk3 {φ : Prop} (h : φ := by constructor; (repeat exact cl_Dk3); first | done | fail) : φ := h
theorem su_Dk3 {φ ψ : Prop} (k : ψ) (h : Hide ψ → φ := by (intro k; (first | refine sl_pu (PuI.sep (by exact pv_Dk3)) rfl ?_ | refine sl_yes rfl rfl ?_ | refine sl_no rfl rfl rfl ?_ | refine sl_off rfl rfl rfl ?_ | (fail)); exact k.out)) : φ := h ⟨k⟩
theorem sto_Dk3 {φ ψ : Prop} (k : ψ) (h : Hide ψ → φ := by (intro k; (first | refine sl_store rfl (by exact pick_) rfl rfl (by kernel_rfl) (by exact set_Dk3) ?_ | refine sl_store_whole rfl (by exact pick_) rfl (by exact sz_Dk3) (by exact sz_Dk3) (by exact one_Dk3) ?_); exact k.out)) : φ := h ⟨k⟩
theorem go_Dk3 {φ ψ : Prop} (k : ψ) (h : Hide ψ → φ := by (intro k; (repeat (first | refine su_Dk3 ?_ | refine so_ ?_ | refine sto_Dk3 ?_)); exact k.out)) : φ := h ⟨k⟩
set_option maxRecDepth 100000 in
set_option maxHeartbeats 2000000 in
theorem name_ok {K : List Fa} {s : ByteArray} (hs : s.size ≤ 9223372036854775807) :
    Fn Tryz.prog 112 #[.string s] K (Ret (fun _ : Unit => True) (fun _ => .bool (nameB s)) (fun _ => K)) := by
  refine fn_enter Tryz.func112 rfl _ Tryz.ntmps112 (by simp) [(0, .string s)] (args_of (by simp)) ?_
  by_cases h1 : s.size < 1
  · rw [show nameB s = false from by unfold nameB; rw [decide_eq_false (by omega)]; rfl]
    refine go_Dk3 ?_
    exact se_ret1 () trivial rfl rfl (by exact sub_)
  by_cases h2 : 16 < s.size
  · rw [show nameB s = false from by unfold nameB; rw [decide_eq_false (by omega)]; rfl]
    refine go_Dk3 ?_
    exact se_ret1 () trivial rfl rfl (by exact sub_)
  rw [show nameB s = s.data.toList.all chB from by unfold nameB; rw [decide_eq_true (by omega)]; rfl]
  refine go_Dk3 ?_
  refine sc_for (fun i : Nat => [(0, .string s), (14, .int .i64 s.size), (15, .int .i64 i)]) (fun _ => K) (fun i => i ≤ s.size ∧ (s.data.toList.take i).all chB = true) (fun i => s.size - i) 0 (by exact has_) (by exact sub_) ⟨Nat.zero_le _, rfl⟩ ?_
  rintro i ⟨hi, hall⟩
  by_cases hlt : i < s.size
  · have hn := str_at hlt
    have hsn := all_snoc hlt
    have hno := all_not hlt
    have hc := ch_cases s[i]
    generalize s[i] = ch at hn hsn hno hc
    rcases hc with ⟨h1, h2⟩ | ⟨h1, h2⟩ | ⟨h1, h2⟩ | ⟨h1, h2⟩ | ⟨⟨h0, h1⟩, h2⟩ | ⟨⟨h0, h1⟩, h2⟩ | ⟨⟨h0, h1⟩, h2⟩ | ⟨h1, h2⟩
    all_goals
      refine go_Dk3 ?_
      first
        | exact se_round (i + 1) (by exact has_) (by exact sub_) ⟨hlt, by rw [hsn, hall, h2]; rfl⟩ (by omega)
        | (rw [show s.data.toList.all chB = false from hno h2]; exact se_ret1 () trivial rfl rfl (by exact sub_))
  · obtain rfl : i = s.size := by omega
    rw [List.take_of_length_le (by simp)] at hall
    rw [hall]
    refine go_Dk3 ?_
    exact se_ret1 () trivial rfl rfl (by exact sub_)
set_option maxRecDepth 100000 in
set_option maxHeartbeats 2000000 in
theorem used_ok {K : List Fa} {g m ck : Nat} {lim : Int} {fs : List DF} (hB : At (dB g m lim) K) (hM : At (dM m fs ck) K) (hu : usedN fs ≤ 1048576) :
    Fn Tryz.prog 113 #[.pointer (some ⟨g, 0, none⟩)] K (Ret (fun _ : Unit => True) (fun _ => .int .i64 (usedN fs)) (fun _ => K)) := by
  refine fn_know (mp_nodup hM) ?_
  rintro ⟨hnd, hks⟩
  refine fn_enter Tryz.func113 rfl _ Tryz.ntmps113 (by simp) [(0, .pointer (some ⟨g, 0, none⟩))] (args_of (by simp)) ?_
  refine go_Dk3 ?_
  refine sl_range rfl (by exact at_) rfl rfl ?_
  intro r
  refine go_Dk3 ?_
  refine sc_for (fun us : List DF => [(3, .int .i64 (usedN us)), (12, .pointer (some ⟨r, 0, none⟩))]) (fun us => itr r m ck (us.map DF.ent) :: K) (fun us => us.Nodup ∧ ∀ u ∈ us, u ∈ fs) (fun us => fs.length - us.length) [] (by exact has_) (by exact sub_) ⟨List.nodup_nil, fun _ h => by cases h⟩ ?_
  rintro us ⟨hun, hus⟩
  refine sc_seq ?_
  refine sc_region ?_
  refine sl_next rfl (by exact at_) .here (fun y hy => by obtain ⟨u, hu, rfl⟩ := List.mem_map.1 hy; exact List.mem_map_of_mem (hus u hu)) rfl (fun hall => ?_) (fun y hy hn => ?_)
  · have hp : us.Perm fs := (List.perm_ext_iff_of_nodup hun hnd).2 fun x => ⟨hus x, fun hx => by
      obtain ⟨u, hu, he⟩ := List.mem_map.1 (hall _ (List.mem_map_of_mem hx))
      rwa [← ent_inj hks (hus u hu) hx he]⟩
    rw [used_perm hp]
    refine go_Dk3 ?_
    exact se_ret1 () trivial rfl rfl (by exact sub_)
  · obtain ⟨f, hf, rfl⟩ := List.mem_map.1 hy
    have hfu : f ∉ us := fun h => hn (List.mem_map_of_mem h)
    have hnd' : (us ++ [f]).Nodup := List.nodup_append.2 ⟨hun, List.nodup_cons.2 ⟨by simp, List.nodup_nil⟩, fun a ha b hb e => by rw [List.mem_singleton] at hb; exact hfu (by rw [← hb, ← e]; exact ha)⟩
    have hsub : ∀ u ∈ us ++ [f], u ∈ fs := fun u h => by
      rcases List.mem_append.1 h with h | h
      · exact hus u h
      · rw [List.mem_singleton] at h
        rw [h]
        exact hf
    obtain ⟨z, hz⟩ := sub_split hnd' hnd hsub
    have hlen := hz.length_eq
    have hsum : usedN us + f.l.length ≤ 1048576 := by
      have h1 := used_perm hz
      rw [used_app, used_app, used_cons] at h1
      omega
    rw [List.length_append, List.length_append, List.length_singleton] at hlen
    have h1 : usedN (us ++ [f]) = usedN us + f.l.length := by rw [used_app, used_cons]; simp [usedN]
    have hm : us.map DF.ent ++ [f.ent] = (us ++ [f]).map DF.ent := by simp
    have hv : f.ent.val = .agg #[.slice f.A f.l.length f.c, .int .i64 f.sy] := rfl
    refine go_Dk3 ?_
    rw [hm]
    refine sl_alloc rfl rfl rfl ?_; intro g5
    refine go_Dk3 ?_
    refine se_round (us ++ [f]) (by rw [h1]; exact has_) (by exact sub_) ⟨hnd', hsub⟩ (by rw [List.length_append, List.length_singleton]; omega)
end Go.Proofs.YtocaabnbmcpjmaaGreatDoor
/- A disk: Read, Loose, Sync, Cut, Turn, at a file that is there. -/
namespace Go.Proofs.YtocaabnbmcpjmaaGreatDoor
open Go.RowKit Go.MapKept
attribute [local irreducible] Go.Calls Go.Exit.then Go.Exit.inBlock Go.bodyPost Go.Code.wp Go.wpList
theorem ds_put {K : List Fa} {X Y : List DF} {f : DF} {s : ByteArray} {A : Option Addr} {c k sy bn : Nat} {l : List Int} (hl : l.length = k) : Ent_ (own 5 1 A k c (bytes l) :: dS (X ++ f :: Y) :: K) (dS (X ++ ⟨s, A, c, l, sy, bn⟩ :: Y) :: K) := by
  subst hl
  exact ds_swap (f' := ⟨s, A, c, l, sy, bn⟩)
theorem ds_add {K : List Fa} {fs : List DF} {s : ByteArray} {A : Option Addr} {c k sy bn : Nat} {l : List Int} (hl : l.length = k) : Ent_ (own 5 1 A k c (bytes l) :: dS fs :: K) (dS (fs ++ [⟨s, A, c, l, sy, bn⟩]) :: K) := by
  subst hl
  exact ds_new (f' := ⟨s, A, c, l, sy, bn⟩)
theorem se_sub {Q : Exit → Act → World → Prop} {e : Exit} {n : Nat} {l : Env} {L L' : List Fa} (hs : Sub L L') (h : SE Q e n l L') : SE Q e n l L := se_ent (fun _ hw => hw.sub hs) h
theorem nth_Dk4 {φ : Prop} (h : φ := by (first | rfl | rfl)) : φ := h
theorem mid_Dk4 {φ : Prop} (h : φ := by (first | exact Mid.all | exact Mid.all | exact Mid.head)) : φ := h
theorem sz_Dk4 {φ : Prop} (h : φ := by (first | rfl | (rfl; first | done | fail))) : φ := h
theorem one_Dk4 {φ : Prop} (h : φ := by (first | assumption | exact first | exact one_bytes _ | exact ff_one | (simp only [List.mem_cons, List.not_mem_nil, or_false, forall_eq_or_imp, forall_eq]; decide) | exact one_bytes _ | (intro v hv; (repeat (rcases List.mem_cons.1 hv with rfl | hv; rfl)); cases hv))) : φ := h
theorem set_Dk4 {φ : Prop} (h : φ := by (first | (fail) | ((repeat (first | exact SetAt.here | apply SetAt.there)); first | done | fail))) : φ := h
theorem cl_Dk4 {φ : Prop} (h : φ := by first | rfl | exact .t | exact .f | exact .t (by omega) | exact .f (by omega) | exact .u | exact .i (by (first | exact .t (by omega) | exact .f (by omega) | exact .u | exact .i (by omega) | exact .v (by omega) | exact .b (by omega) | exact .w | rfl | omega)) | exact .v (by omega) | exact .b (by omega) | exact .q (by omega) | exact .w | exact .b (by exact at_) rfl (by exact nth_Dk4) | exact .w (by exact at_) rfl rfl (by exact sz_Dk4) | exact .s (by exact at_) (by exact mid_Dk4) rfl rfl (by exact sz_Dk4) | exact .z rfl rfl ⟨by kernel_rfl⟩ | exact .b rfl rfl ⟨by kernel_rfl⟩ | exact .a rfl rfl ⟨by kernel_rfl⟩ | exact .o rfl | exact .s | exact .n | exact .p rfl | exact .q rfl | exact .c rfl | exact .d rfl | exact .n rfl rfl (by omega) | exact .a rfl rfl (by omega) | exact .p rfl rfl (by omega) (by omega) | exact .y rfl rfl (by omega) (by omega) | exact .o (by exact at_) (by omega) rfl (by exact nth_Dk4) | exact .m (by exact at_) (by omega) (by exact mid_Dk4) rfl rfl (by exact sz_Dk4) | exact .mlen (by exact at_) rfl | exact .t (by exact at_) rfl rfl (by first | exact True.intro | rfl) (by assumption) | exact .f (by exact at_) rfl rfl (by first | exact True.intro | rfl) (by assumption) rfl | exact .t1 (by exact at_) rfl rfl (by first | exact True.intro | rfl) (by assumption) | exact .f1 (by exact at_) rfl rfl (by first | exact True.intro | rfl) (by assumption) rfl | exact .tk (by exact at_) rfl (by assumption) (by assumption) | exact .fk (by exact at_) rfl (by assumption) (by assumption) rfl | exact .tk1 (by exact at_) rfl (by assumption) (by assumption) | exact .fk1 (by exact at_) rfl (by assumption) (by assumption) rfl | exact .r rfl rfl (by omega) (by omega) (by exact nth_Dk4) rfl | exact .s rfl (by omega) (by assumption) | exact at_ | assumption | exact .r rfl rfl | exact .h rfl rfl rfl (by omega) | exact .l rfl rfl rfl (by omega) (by omega) | exact .g rfl rfl rfl rfl (by omega) (by omega) | exact .h rfl rfl (toN_ (by omega)) (by omega) | exact .l rfl rfl (toN_ (by omega)) (by omega) (by omega) | exact .g rfl rfl (toN_ (by omega)) (toN_ (by omega)) (by omega) (by omega) | exact .o (by decide) | exact .f (by decide) | exact .n (by omega) (by first | decide | (show _ ≤ ((64 : Nat) : Int); omega)) | (constructor; (repeat (first | exact .t (by omega) | exact .f (by omega) | exact .u | exact .i (by omega) | exact .v (by omega) | exact .b (by omega) | exact .w | rfl | omega)); first | done | fail) | omega | (show _ ≤ ((64 : Nat) : Int); omega)) : φ := h
theorem pv_Dk4 {φ : Prop} (h : φ := by constructor; (repeat exact cl_Dk4); first | done | fail) : φ := h
theorem su_Dk4 {φ ψ : Prop} (k : ψ) (h : Hide ψ → φ := by (intro k; (first | refine sl_pu (PuI.sep (by exact pv_Dk4)) rfl ?_ | refine sl_yes rfl rfl ?_ | refine sl_no rfl rfl rfl ?_ | refine sl_off rfl rfl rfl ?_ | (fail)); exact k.out)) : φ := h ⟨k⟩
theorem rq_Dk4 {φ ψ : Prop} (k : ψ) (h : Hide ψ → φ := by (intro k; (first | refine wq_pu (PuI.sep (by exact pv_Dk4)) rfl ?_ | refine wq_yes rfl rfl ?_ | refine wq_no rfl rfl rfl ?_ | refine wq_off rfl rfl rfl ?_ | (fail)); exact k.out)) : φ := h ⟨k⟩
theorem sto_Dk4 {φ ψ : Prop} (k : ψ) (h : Hide ψ → φ := by (intro k; (first | refine sl_store rfl (by exact pick_) rfl rfl (by kernel_rfl) (by exact set_Dk4) ?_ | refine sl_store_whole rfl (by exact pick_) rfl (by exact sz_Dk4) (by exact sz_Dk4) (by exact one_Dk4) ?_); exact k.out)) : φ := h ⟨k⟩
theorem go_Dk4 {φ ψ : Prop} (k : ψ) (h : Hide ψ → φ := by (intro k; (repeat (first | refine su_Dk4 ?_ | refine so_ ?_ | refine sto_Dk4 ?_)); exact k.out)) : φ := h ⟨k⟩
set_option maxRecDepth 100000 in
set_option maxHeartbeats 2000000 in
theorem readD_no {K : List Fa} {g m ck : Nat} {lim : Int} {fs : List DF} {s : ByteArray} (hB : At (dB g m lim) K) (hM : At (dM m fs ck) K) (hf : ¬ DHas fs s) :
    Fn Tryz.prog 38 #[.pointer (some ⟨g, 0, none⟩), .string s] K (Ret (fun _ : Unit => True) (fun _ => .tuple #[.slice none 0 0, .int .i64 19]) (fun _ => K)) := by
  refine fn_enter Tryz.func38 rfl _ Tryz.ntmps38 (by simp) [(0, .pointer (some ⟨g, 0, none⟩)), (1, .string s)] (args_of (by simp)) ?_
  refine go_Dk4 ?_
  refine sl_call rfl rfl (by kernel_rfl) rfl Sub.refl (has_no hB hM hf) ?_
  rintro _ -
  refine go_Dk4 ?_
  exact se_ret2 () trivial rfl rfl rfl rfl (by exact sub_)
set_option maxRecDepth 100000 in
set_option maxHeartbeats 2000000 in
theorem looseD_ok {K : List Fa} {g m ck : Nat} {lim : Int} {fs : List DF} {f : DF} (hB : At (dB g m lim) K) (hM : At (dM m fs ck) K) (hf : f ∈ fs) (hsy : f.sy ≤ f.l.length) (hn : f.l.length ≤ 1048576) :
    Fn Tryz.prog 87 #[.pointer (some ⟨g, 0, none⟩), .string f.s] K (Ret (fun _ : Unit => True) (fun _ => .int .i64 (f.l.length - f.sy : Nat)) (fun _ => K)) := by
  refine fn_enter Tryz.func87 rfl _ Tryz.ntmps87 (by simp) [(0, .pointer (some ⟨g, 0, none⟩)), (1, .string f.s)] (args_of (by simp)) ?_
  have hg := dget hf
  unfold DF.val at hg
  rw [show (((f.l.length - f.sy : Nat) : Int)) = f.l.length - f.sy by omega]
  refine go_Dk4 ?_
  refine sl_call rfl rfl (by kernel_rfl) rfl Sub.refl (has_yes hB hM hf) ?_
  rintro _ -
  refine go_Dk4 ?_
  refine sq_region (by kernel_rfl) (by kernel_rfl) ?_
  repeat refine rq_Dk4 ?_
  refine wq_pu (pu_field2 (cs := [.slice f.A f.l.length f.c, .int .i64 f.sy]) rfl rfl rfl rfl (by kernel_rfl) rfl) rfl ?_
  repeat refine rq_Dk4 ?_
  refine wq_pu (pu_field2 (cs := [.slice f.A f.l.length f.c, .int .i64 f.sy]) rfl rfl rfl rfl (by kernel_rfl) rfl) rfl ?_
  repeat refine rq_Dk4 ?_
  refine sq_end ?_
  refine go_Dk4 ?_
  exact se_ret1 () trivial rfl rfl (by exact sub_)
set_option maxRecDepth 100000 in
set_option maxHeartbeats 2000000 in
theorem syncD_ok {K : List Fa} {g m ck : Nat} {lim : Int} {X Y : List DF} {f : DF} :
    Fn Tryz.prog 41 #[.pointer (some ⟨g, 0, none⟩), .string f.s] (dB g m lim :: dM m (X ++ f :: Y) ck :: K) (Ret (fun _ : Unit => True) (fun _ => .int .i64 0) (fun _ => dB g m lim :: dM m (X ++ { f with sy := f.l.length } :: Y) ck :: K)) := by
  refine fn_enter Tryz.func41 rfl _ Tryz.ntmps41 (by simp) [(0, .pointer (some ⟨g, 0, none⟩)), (1, .string f.s)] (args_of (by simp)) ?_
  have hg := dget (mid_mem (X := X) (Y := Y) (f := f))
  unfold DF.val at hg
  refine go_Dk4 ?_
  refine sl_call rfl rfl (by kernel_rfl) rfl Sub.refl (has_yes (by exact at_) (by exact at_) mid_mem) ?_
  rintro _ -
  refine go_Dk4 ?_
  refine sl_alloc rfl rfl rfl ?_; intro g5
  refine go_Dk4 ?_
  refine sd_drawn (fun W => AllP W [blk g5 158 [.slice f.A f.l.length f.c, .int .i64 f.l.length], dB g m lim]) (fun _ => true) (by kernel_rfl) 7 rfl ?_
  refine sd_yes2 0 rfl (by exact gd_) (by kernel_rfl) (by kernel_rfl) (by exact nop_) (PuI.all (by exact pv_Dk4)) rfl (fun w hw => all_ hw) ?_
  refine sd_yes2 1 rfl (by exact gd_) (by kernel_rfl) (by kernel_rfl) (by exact nop_) (PuI.all (by exact pv_Dk4)) rfl (fun w hw => all_ hw) ?_
  refine sd_yes2 2 rfl (by exact gd_) (by kernel_rfl) (by kernel_rfl) (by exact nop_) (PuI.all (by exact pv_Dk4)) rfl (fun w hw => all_ hw) ?_
  refine sd_yes2 3 rfl (by exact gd_) (by kernel_rfl) (by kernel_rfl) (by exact nop_) (PuI.all (by exact pv_Dk4)) rfl (fun w hw => all_ hw) ?_
  refine sd_yes2 4 rfl (by exact gd_) (by kernel_rfl) (by kernel_rfl) (by exact nop_) (PuI.all (by exact pv_Dk4)) rfl (fun w hw => all_ hw) ?_
  refine sd_yes2 5 rfl (by exact gd_) (by kernel_rfl) (by kernel_rfl) (by exact nop_) (PuI.all (by exact pv_Dk4)) rfl (fun w hw => all_ hw) ?_
  refine sd_one 6 (by kernel_rfl) (sa_sl 6 rfl ?_)
  refine sl_dput (f := f) (f' := { f with sy := f.l.length }) rfl rfl rfl rfl rfl (by exact pick_) rfl rfl ?_
  refine sl_nil ?_
  refine se_sd (fun _ w hw => all_ hw) ?_
  refine sd_done (by kernel_rfl) ?_
  refine go_Dk4 ?_
  exact se_ret1 () trivial rfl rfl (by exact sub_)
end Go.Proofs.YtocaabnbmcpjmaaGreatDoor
/- A disk: Append. -/
namespace Go.Proofs.YtocaabnbmcpjmaaGreatDoor
open Go.RowKit Go.MapKept
attribute [local irreducible] Go.Calls Go.Exit.then Go.Exit.inBlock Go.bodyPost Go.Code.wp Go.wpList
theorem nth_Dk6 {φ : Prop} (h : φ := by (first | rfl | rfl)) : φ := h
theorem mid_Dk6 {φ : Prop} (h : φ := by (first | exact Mid.all | exact Mid.all | exact Mid.head)) : φ := h
theorem sz_Dk6 {φ : Prop} (h : φ := by (first | rfl | (rfl; first | done | fail))) : φ := h
theorem one_Dk6 {φ : Prop} (h : φ := by (first | assumption | exact first | exact one_bytes _ | exact ff_one | (simp only [List.mem_cons, List.not_mem_nil, or_false, forall_eq_or_imp, forall_eq]; decide) | exact one_bytes _ | (intro v hv; (repeat (rcases List.mem_cons.1 hv with rfl | hv; rfl)); cases hv))) : φ := h
theorem set_Dk6 {φ : Prop} (h : φ := by (first | (fail) | ((repeat (first | exact SetAt.here | apply SetAt.there)); first | done | fail))) : φ := h
theorem cl_Dk6 {φ : Prop} (h : φ := by first | rfl | exact .t | exact .f | exact .t (by omega) | exact .f (by omega) | exact .u | exact .i (by (first | exact .t (by omega) | exact .f (by omega) | exact .u | exact .i (by omega) | exact .v (by omega) | exact .b (by omega) | exact .w | rfl | omega)) | exact .v (by omega) | exact .b (by omega) | exact .q (by omega) | exact .w | exact .b (by exact at_) rfl (by exact nth_Dk6) | exact .w (by exact at_) rfl rfl (by exact sz_Dk6) | exact .s (by exact at_) (by exact mid_Dk6) rfl rfl (by exact sz_Dk6) | exact .z rfl rfl ⟨by kernel_rfl⟩ | exact .b rfl rfl ⟨by kernel_rfl⟩ | exact .a rfl rfl ⟨by kernel_rfl⟩ | exact .o rfl | exact .s | exact .n | exact .p rfl | exact .q rfl | exact .c rfl | exact .d rfl | exact .n rfl rfl (by omega) | exact .a rfl rfl (by omega) | exact .p rfl rfl (by omega) (by omega) | exact .y rfl rfl (by omega) (by omega) | exact .o (by exact at_) (by omega) rfl (by exact nth_Dk6) | exact .m (by exact at_) (by omega) (by exact mid_Dk6) rfl rfl (by exact sz_Dk6) | exact .mlen (by exact at_) rfl | exact .t (by exact at_) rfl rfl (by first | exact True.intro | rfl) (by assumption) | exact .f (by exact at_) rfl rfl (by first | exact True.intro | rfl) (by assumption) rfl | exact .t1 (by exact at_) rfl rfl (by first | exact True.intro | rfl) (by assumption) | exact .f1 (by exact at_) rfl rfl (by first | exact True.intro | rfl) (by assumption) rfl | exact .tk (by exact at_) rfl (by assumption) (by assumption) | exact .fk (by exact at_) rfl (by assumption) (by assumption) rfl | exact .tk1 (by exact at_) rfl (by assumption) (by assumption) | exact .fk1 (by exact at_) rfl (by assumption) (by assumption) rfl | exact .r rfl rfl (by omega) (by omega) (by exact nth_Dk6) rfl | exact .s rfl (by omega) (by assumption) | exact at_ | assumption | exact .r rfl rfl | exact .h rfl rfl rfl (by omega) | exact .l rfl rfl rfl (by omega) (by omega) | exact .g rfl rfl rfl rfl (by omega) (by omega) | exact .h rfl rfl (toN_ (by omega)) (by omega) | exact .l rfl rfl (toN_ (by omega)) (by omega) (by omega) | exact .g rfl rfl (toN_ (by omega)) (toN_ (by omega)) (by omega) (by omega) | exact .o (by decide) | exact .f (by decide) | exact .n (by omega) (by first | decide | (show _ ≤ ((64 : Nat) : Int); omega)) | (constructor; (repeat (first | exact .t (by omega) | exact .f (by omega) | exact .u | exact .i (by omega) | exact .v (by omega) | exact .b (by omega) | exact .w | rfl | omega)); first | done | fail) | omega | (show _ ≤ ((64 : Nat) : Int); omega)) : φ := h
theorem pv_Dk6 {φ : Prop} (h : φ := by constructor; (repeat exact cl_Dk6); first | done | fail) : φ := h
theorem su_Dk6 {φ ψ : Prop} (k : ψ) (h : Hide ψ → φ := by (intro k; (first | refine sl_pu (PuI.sep (by exact pv_Dk6)) rfl ?_ | refine sl_yes rfl rfl ?_ | refine sl_no rfl rfl rfl ?_ | refine sl_off rfl rfl rfl ?_ | (fail)); exact k.out)) : φ := h ⟨k⟩
theorem sto_Dk6 {φ ψ : Prop} (k : ψ) (h : Hide ψ → φ := by (intro k; (first | refine sl_store rfl (by exact pick_) rfl rfl (by kernel_rfl) (by exact set_Dk6) ?_ | refine sl_store_whole rfl (by exact pick_) rfl (by exact sz_Dk6) (by exact sz_Dk6) (by exact one_Dk6) ?_); exact k.out)) : φ := h ⟨k⟩
theorem go_Dk6 {φ ψ : Prop} (k : ψ) (h : Hide ψ → φ := by (intro k; (repeat (first | refine su_Dk6 ?_ | refine so_ ?_ | refine sto_Dk6 ?_)); exact k.out)) : φ := h ⟨k⟩
set_option maxRecDepth 100000 in
set_option maxHeartbeats 2000000 in
theorem appD_new {K : List Fa} {g m ck : Nat} {lim : Int} {fs : List DF} {s : ByteArray} {B : Option Addr} {cb : Nat} {b : List Int} (hs : s.size ≤ 9223372036854775807) (hname : nameB s = true) (hno : ¬ DHas fs s) (h64 : fs.length < 64) (hl : 0 ≤ lim ∧ lim ≤ 1048576) (hfit : (b.length : Int) + usedN fs ≤ lim) (hb : Vw (dB g m lim :: dM m fs ck :: dS fs :: K) (fun w => Reads w 1 B b.length (bytes b))) :
    Fn Tryz.prog 86 #[.pointer (some ⟨g, 0, none⟩), .string s, .slice B b.length cb] (dB g m lim :: dM m fs ck :: dS fs :: K) (Ret (fun _ : Option Addr × Nat => True) (fun _ => .int .i64 0) (fun q => dB g m lim :: dM m (fs ++ [⟨s, q.1, q.2, b, 0, ck⟩]) (ck + 1) :: dS (fs ++ [⟨s, q.1, q.2, b, 0, ck⟩]) :: K)) := by
  refine fn_enter Tryz.func86 rfl _ Tryz.ntmps86 (by simp) [(0, .pointer (some ⟨g, 0, none⟩)), (1, .string s), (2, .slice B b.length cb)] (args_of (by simp)) ?_
  have hml : (fs.map DF.ent).length = fs.length := List.length_map _
  have hg := dno hno
  refine go_Dk6 ?_
  refine sl_call rfl rfl (by kernel_rfl) rfl Sub.refl (name_ok hs) ?_
  rintro _ -
  rw [hname]
  refine go_Dk6 ?_
  refine sl_call rfl rfl (by kernel_rfl) rfl Sub.refl (has_no (by exact at_) (by exact at_) hno) ?_
  rintro _ -
  refine go_Dk6 ?_
  refine sd_drawn (fun W => AllP W [dB g m lim]) (fun _ => true) (by kernel_rfl) 11 rfl ?_
  refine sd_yes2 0 rfl (by exact gd_) (by kernel_rfl) (by kernel_rfl) (by exact nop_) (PuI.all (by exact pv_Dk6)) rfl (fun w hw => all_ hw) ?_
  refine sd_yes2 1 rfl (by exact gd_) (by kernel_rfl) (by kernel_rfl) (by exact nop_) (PuI.all (by exact pv_Dk6)) rfl (fun w hw => all_ hw) ?_
  refine sd_yes2 2 rfl (by exact gd_) (by kernel_rfl) (by kernel_rfl) (by exact nop_) (PuI.all (by exact pv_Dk6)) rfl (fun w hw => all_ hw) ?_
  refine sd_yes2 3 rfl (by exact gd_) (by kernel_rfl) (by kernel_rfl) (by exact nop_) (PuI.all (by exact pv_Dk6)) rfl (fun w hw => all_ hw) ?_
  refine sd_yes2 4 rfl (by exact gd_) (by kernel_rfl) (by kernel_rfl) (by exact nop_) (PuI.all (by exact pv_Dk6)) rfl (fun w hw => all_ hw) ?_
  refine sd_yes2 5 rfl (by exact gd_) (by kernel_rfl) (by kernel_rfl) (by exact nop_) (PuI.all (by exact pv_Dk6)) rfl (fun w hw => all_ hw) ?_
  refine sd_yes2 6 rfl (by exact gd_) (by kernel_rfl) (by kernel_rfl) (by exact nop_) (PuI.all (by exact pv_Dk6)) rfl (fun w hw => all_ hw) ?_
  refine sd_one 7 (by kernel_rfl) (sa_sl 7 rfl ?_)
  refine sl_call rfl rfl (by kernel_rfl) rfl Sub.refl (used_ok (by exact at_) (by exact at_) (by omega)) ?_
  rintro _ -
  refine sl_nil ?_
  refine se_sd (fun _ w hw => all_ hw) ?_
  refine sd_yes2 8 rfl (by exact gd_) (by kernel_rfl) (by kernel_rfl) (by exact nop_) (PuI.all (by exact pv_Dk6)) rfl (fun w hw => all_ hw) ?_
  refine sd_yes2 9 rfl (by exact gd_) (by kernel_rfl) (by kernel_rfl) (by exact nop_) (PuI.all (by exact pv_Dk6)) rfl (fun w hw => all_ hw) ?_
  refine sd_yes2 10 rfl (by exact gd_) (by kernel_rfl) (by kernel_rfl) (by exact nop_) (PuI.all (by exact pv_Dk6)) rfl (fun w hw => all_ hw) ?_
  refine sd_done (by kernel_rfl) ?_
  refine go_Dk6 ?_
  refine sl_alloc rfl rfl rfl ?_; intro g7
  refine go_Dk6 ?_
  refine sl_call rfl rfl (by kernel_rfl) rfl Sub.refl (clone_ok (A := none) (n := 0) (bs := []) (fun w _ => Reads.nil_ _) (by decide)) ?_
  rintro ⟨A1, c1⟩ -
  refine go_Dk6 ?_
  refine sl_app (A := A1) (k := 0) (c := c1) rfl (by exact pick_) rfl (hb.mono (by exact sub_)) (one_bytes _) rfl Tryz.info5 (by decide) (by decide) rfl (by unfold maxLen; omega) (by omega) ?_
  intro A2 c2
  rw [← bytes_app, List.nil_append, Nat.zero_add]
  refine go_Dk6 ?_
  refine sd_drawn (fun W => AllP W [blk g7 158 [.slice A2 b.length c2, .int .i64 0], dB g m lim]) (fun _ => true) (by kernel_rfl) 7 rfl ?_
  refine sd_yes2 0 rfl (by exact gd_) (by kernel_rfl) (by kernel_rfl) (by exact nop_) (PuI.all (by exact pv_Dk6)) rfl (fun w hw => all_ hw) ?_
  refine sd_yes2 1 rfl (by exact gd_) (by kernel_rfl) (by kernel_rfl) (by exact nop_) (PuI.all (by exact pv_Dk6)) rfl (fun w hw => all_ hw) ?_
  refine sd_yes2 2 rfl (by exact gd_) (by kernel_rfl) (by kernel_rfl) (by exact nop_) (PuI.all (by exact pv_Dk6)) rfl (fun w hw => all_ hw) ?_
  refine sd_yes2 3 rfl (by exact gd_) (by kernel_rfl) (by kernel_rfl) (by exact nop_) (PuI.all (by exact pv_Dk6)) rfl (fun w hw => all_ hw) ?_
  refine sd_yes2 4 rfl (by exact gd_) (by kernel_rfl) (by kernel_rfl) (by exact nop_) (PuI.all (by exact pv_Dk6)) rfl (fun w hw => all_ hw) ?_
  refine sd_yes2 5 rfl (by exact gd_) (by kernel_rfl) (by kernel_rfl) (by exact nop_) (PuI.all (by exact pv_Dk6)) rfl (fun w hw => all_ hw) ?_
  refine sd_one 6 (by kernel_rfl) (sa_sl 6 rfl ?_)
  refine sl_dnew (fs := fs) (f' := ⟨s, A2, c2, b, 0, ck⟩) rfl rfl rfl rfl rfl hno (by exact pick_) rfl rfl ?_
  refine sl_nil ?_
  refine se_sd (fun _ w hw => all_ hw) ?_
  refine sd_done (by kernel_rfl) ?_
  refine go_Dk6 ?_
  refine se_sub (L' := own 5 1 A2 b.length c2 (bytes b) :: dS fs :: dB g m lim :: dM m (fs ++ [⟨s, A2, c2, b, 0, ck⟩]) (ck + 1) :: K) (by exact sub_) ?_
  refine se_ent (ds_add (s := s) (sy := 0) (bn := ck) rfl) ?_
  exact se_ret1 (A2, c2) trivial rfl rfl (by exact sub_)
set_option maxRecDepth 100000 in
set_option maxHeartbeats 2000000 in
theorem appD_yes {K : List Fa} {g m ck : Nat} {lim : Int} {X Y : List DF} {f : DF} {B : Option Addr} {cb : Nat} {b : List Int} (hs : f.s.size ≤ 9223372036854775807) (hname : nameB f.s = true) (hl : 0 ≤ lim ∧ lim ≤ 1048576) (hfit : (b.length : Int) + usedN (X ++ f :: Y) ≤ lim) (hb : Vw (dB g m lim :: dM m (X ++ f :: Y) ck :: dS (X ++ f :: Y) :: K) (fun w => Reads w 1 B b.length (bytes b))) :
    Fn Tryz.prog 86 #[.pointer (some ⟨g, 0, none⟩), .string f.s, .slice B b.length cb] (dB g m lim :: dM m (X ++ f :: Y) ck :: dS (X ++ f :: Y) :: K) (Ret (fun _ : Option Addr × Nat => True) (fun _ => .int .i64 0) (fun q => dB g m lim :: dM m (X ++ ⟨f.s, q.1, q.2, f.l ++ b, f.sy, f.bn⟩ :: Y) ck :: dS (X ++ ⟨f.s, q.1, q.2, f.l ++ b, f.sy, f.bn⟩ :: Y) :: K)) := by
  refine fn_enter Tryz.func86 rfl _ Tryz.ntmps86 (by simp) [(0, .pointer (some ⟨g, 0, none⟩)), (1, .string f.s), (2, .slice B b.length cb)] (args_of (by simp)) ?_
  have hg := dget (mid_mem (X := X) (Y := Y) (f := f))
  unfold DF.val at hg
  have hle := used_le (mid_mem (X := X) (Y := Y) (f := f))
  refine go_Dk6 ?_
  refine sl_call rfl rfl (by kernel_rfl) rfl Sub.refl (name_ok hs) ?_
  rintro _ -
  rw [hname]
  refine go_Dk6 ?_
  refine sl_call rfl rfl (by kernel_rfl) rfl Sub.refl (has_yes (by exact at_) (by exact at_) mid_mem) ?_
  rintro _ -
  refine go_Dk6 ?_
  refine sd_drawn (fun W => AllP W [dB g m lim]) (fun _ => true) (by kernel_rfl) 11 rfl ?_
  refine sd_yes2 0 rfl (by exact gd_) (by kernel_rfl) (by kernel_rfl) (by exact nop_) (PuI.all (by exact pv_Dk6)) rfl (fun w hw => all_ hw) ?_
  refine sd_yes2 1 rfl (by exact gd_) (by kernel_rfl) (by kernel_rfl) (by exact nop_) (PuI.all (by exact pv_Dk6)) rfl (fun w hw => all_ hw) ?_
  refine sd_yes2 2 rfl (by exact gd_) (by kernel_rfl) (by kernel_rfl) (by exact nop_) (PuI.all (by exact pv_Dk6)) rfl (fun w hw => all_ hw) ?_
  refine sd_yes2 3 rfl (by exact gd_) (by kernel_rfl) (by kernel_rfl) (by exact nop_) (PuI.all (by exact pv_Dk6)) rfl (fun w hw => all_ hw) ?_
  refine sd_yes2 4 rfl (by exact gd_) (by kernel_rfl) (by kernel_rfl) (by exact nop_) (PuI.all (by exact pv_Dk6)) rfl (fun w hw => all_ hw) ?_
  refine sd_yes2 5 rfl (by exact gd_) (by kernel_rfl) (by kernel_rfl) (by exact nop_) (PuI.all (by exact pv_Dk6)) rfl (fun w hw => all_ hw) ?_
  refine sd_yes2 6 rfl (by exact gd_) (by kernel_rfl) (by kernel_rfl) (by exact nop_) (PuI.all (by exact pv_Dk6)) rfl (fun w hw => all_ hw) ?_
  refine sd_one 7 (by kernel_rfl) (sa_sl 7 rfl ?_)
  refine sl_call rfl rfl (by kernel_rfl) rfl Sub.refl (used_ok (by exact at_) (by exact at_) (by omega)) ?_
  rintro _ -
  refine sl_nil ?_
  refine se_sd (fun _ w hw => all_ hw) ?_
  refine sd_yes2 8 rfl (by exact gd_) (by kernel_rfl) (by kernel_rfl) (by exact nop_) (PuI.all (by exact pv_Dk6)) rfl (fun w hw => all_ hw) ?_
  refine sd_yes2 9 rfl (by exact gd_) (by kernel_rfl) (by kernel_rfl) (by exact nop_) (PuI.all (by exact pv_Dk6)) rfl (fun w hw => all_ hw) ?_
  refine sd_yes2 10 rfl (by exact gd_) (by kernel_rfl) (by kernel_rfl) (by exact nop_) (PuI.all (by exact pv_Dk6)) rfl (fun w hw => all_ hw) ?_
  refine sd_done (by kernel_rfl) ?_
  refine go_Dk6 ?_
  refine sl_alloc rfl rfl rfl ?_; intro g7
  refine go_Dk6 ?_
  refine sl_call rfl rfl (by kernel_rfl) rfl Sub.refl (clone_ok (ds_get (fs := X ++ f :: Y) (f := f) (by exact at_) mid_mem) (by omega)) ?_
  rintro ⟨A1, c1⟩ -
  refine go_Dk6 ?_
  refine sl_app (A := A1) (k := f.l.length) (c := c1) rfl (by exact pick_) rfl (hb.mono (by exact sub_)) (one_bytes _) rfl Tryz.info5 (by decide) (by decide) rfl (by unfold maxLen; omega) (by omega) ?_
  intro A2 c2
  rw [← bytes_app, ← List.length_append]
  refine go_Dk6 ?_
  refine sd_drawn (fun W => AllP W [blk g7 158 [.slice A2 (f.l ++ b).length c2, .int .i64 f.sy], dB g m lim]) (fun _ => true) (by kernel_rfl) 7 rfl ?_
  refine sd_yes2 0 rfl (by exact gd_) (by kernel_rfl) (by kernel_rfl) (by exact nop_) (PuI.all (by exact pv_Dk6)) rfl (fun w hw => all_ hw) ?_
  refine sd_yes2 1 rfl (by exact gd_) (by kernel_rfl) (by kernel_rfl) (by exact nop_) (PuI.all (by exact pv_Dk6)) rfl (fun w hw => all_ hw) ?_
  refine sd_yes2 2 rfl (by exact gd_) (by kernel_rfl) (by kernel_rfl) (by exact nop_) (PuI.all (by exact pv_Dk6)) rfl (fun w hw => all_ hw) ?_
  refine sd_yes2 3 rfl (by exact gd_) (by kernel_rfl) (by kernel_rfl) (by exact nop_) (PuI.all (by exact pv_Dk6)) rfl (fun w hw => all_ hw) ?_
  refine sd_yes2 4 rfl (by exact gd_) (by kernel_rfl) (by kernel_rfl) (by exact nop_) (PuI.all (by exact pv_Dk6)) rfl (fun w hw => all_ hw) ?_
  refine sd_yes2 5 rfl (by exact gd_) (by kernel_rfl) (by kernel_rfl) (by exact nop_) (PuI.all (by exact pv_Dk6)) rfl (fun w hw => all_ hw) ?_
  refine sd_one 6 (by kernel_rfl) (sa_sl 6 rfl ?_)
  refine sl_dput (f := f) (f' := ⟨f.s, A2, c2, f.l ++ b, f.sy, f.bn⟩) rfl rfl rfl rfl rfl (by exact pick_) rfl rfl ?_
  refine sl_nil ?_
  refine se_sd (fun _ w hw => all_ hw) ?_
  refine sd_done (by kernel_rfl) ?_
  refine go_Dk6 ?_
  refine se_sub (L' := own 5 1 A2 (f.l ++ b).length c2 (bytes (f.l ++ b)) :: dS (X ++ f :: Y) :: dB g m lim :: dM m (X ++ ⟨f.s, A2, c2, f.l ++ b, f.sy, f.bn⟩ :: Y) ck :: K) (by exact sub_) ?_
  refine se_ent (ds_put (s := f.s) (sy := f.sy) (bn := f.bn) rfl) ?_
  exact se_ret1 (A2, c2) trivial rfl rfl (by exact sub_)
end Go.Proofs.YtocaabnbmcpjmaaGreatDoor
/- JournalErrors: its walk. -/
namespace Go.Proofs.YtocaabnbmcpjmaaGreatDoor
open Go.RowKit Go.MapKept
attribute [local irreducible] Go.Calls Go.Exit.then Go.Exit.inBlock Go.bodyPost Go.Code.wp Go.wpList takeL recordL hashL recL allL
def sj : ByteArray := ⟨#[106, 111, 117, 114, 110, 97, 108]⟩
abbrev jB (gj g : Nat) (s : ByteArray) : Fa := blk gj 124 [.pointer (some ⟨g, 0, none⟩), .string s, .int .i64 0]
theorem nohas {s : ByteArray} : ¬ DHas [] s := fun ⟨_, h, _⟩ => by cases h
structure Oj where
  gj : Nat
  R : Option Addr
  c : Nat
theorem many_pos (n : Nat) : 1 ≤ manyL n := by
  unfold manyL
  omega
theorem nth_Je {φ : Prop} (h : φ := by (first | rfl | assumption)) : φ := h
theorem mid_Je {φ : Prop} (h : φ := by (first | exact Mid.all | exact Mid.all | exact Mid.head)) : φ := h
theorem sz_Je {φ : Prop} (h : φ := by (first | rfl | (rfl; first | done | fail))) : φ := h
theorem one_Je {φ : Prop} (h : φ := by (first | assumption | exact first | exact one_bytes _ | exact ff_one | (simp only [List.mem_cons, List.not_mem_nil, or_false, forall_eq_or_imp, forall_eq]; decide) | exact one_bytes _ | (intro v hv; (repeat (rcases List.mem_cons.1 hv with rfl | hv; rfl)); cases hv))) : φ := h
theorem set_Je {φ : Prop} (h : φ := by (first | (fail) | ((repeat (first | exact SetAt.here | apply SetAt.there)); first | done | fail))) : φ := h
theorem cl_Je {φ : Prop} (h : φ := by first | rfl | exact .t | exact .f | exact .t (by omega) | exact .f (by omega) | exact .u | exact .i (by (first | exact .t (by omega) | exact .f (by omega) | exact .u | exact .i (by omega) | exact .v (by omega) | exact .b (by omega) | exact .w | rfl | omega)) | exact .v (by omega) | exact .b (by omega) | exact .q (by omega) | exact .w | exact .b (by exact at_) rfl (by exact nth_Je) | exact .w (by exact at_) rfl rfl (by exact sz_Je) | exact .s (by exact at_) (by exact mid_Je) rfl rfl (by exact sz_Je) | exact .z rfl rfl ⟨by kernel_rfl⟩ | exact .b rfl rfl ⟨by kernel_rfl⟩ | exact .a rfl rfl ⟨by kernel_rfl⟩ | exact .o rfl | exact .s | exact .n | exact .p rfl | exact .q rfl | exact .c rfl | exact .d rfl | exact .n rfl rfl (by omega) | exact .a rfl rfl (by omega) | exact .p rfl rfl (by omega) (by omega) | exact .y rfl rfl (by omega) (by omega) | exact .o (by exact at_) (by omega) rfl (by exact nth_Je) | exact .m (by exact at_) (by omega) (by exact mid_Je) rfl rfl (by exact sz_Je) | exact .mlen (by exact at_) rfl | exact .t (by exact at_) rfl rfl (by first | exact True.intro | rfl) (by assumption) | exact .f (by exact at_) rfl rfl (by first | exact True.intro | rfl) (by assumption) rfl | exact .t1 (by exact at_) rfl rfl (by first | exact True.intro | rfl) (by assumption) | exact .f1 (by exact at_) rfl rfl (by first | exact True.intro | rfl) (by assumption) rfl | exact .tk (by exact at_) rfl (by assumption) (by assumption) | exact .fk (by exact at_) rfl (by assumption) (by assumption) rfl | exact .tk1 (by exact at_) rfl (by assumption) (by assumption) | exact .fk1 (by exact at_) rfl (by assumption) (by assumption) rfl | exact .r rfl rfl (by omega) (by omega) (by exact nth_Je) rfl | exact .s rfl (by omega) (by assumption) | exact at_ | assumption | exact .r rfl rfl | exact .h rfl rfl rfl (by omega) | exact .l rfl rfl rfl (by omega) (by omega) | exact .g rfl rfl rfl rfl (by omega) (by omega) | exact .h rfl rfl (toN_ (by omega)) (by omega) | exact .l rfl rfl (toN_ (by omega)) (by omega) (by omega) | exact .g rfl rfl (toN_ (by omega)) (toN_ (by omega)) (by omega) (by omega) | exact .o (by decide) | exact .f (by decide) | exact .n (by omega) (by first | decide | (show _ ≤ ((64 : Nat) : Int); omega)) | (constructor; (repeat (first | exact .t (by omega) | exact .f (by omega) | exact .u | exact .i (by omega) | exact .v (by omega) | exact .b (by omega) | exact .w | rfl | omega)); first | done | fail) | omega | (show _ ≤ ((64 : Nat) : Int); omega)) : φ := h
theorem pv_Je {φ : Prop} (h : φ := by constructor; (repeat exact cl_Je); first | done | fail) : φ := h
theorem su_Je {φ ψ : Prop} (k : ψ) (h : Hide ψ → φ := by (intro k; (first | refine sl_pu (PuI.sep (by exact pv_Je)) rfl ?_ | refine sl_yes rfl rfl ?_ | refine sl_no rfl rfl rfl ?_ | refine sl_off rfl rfl rfl ?_ | (fail)); exact k.out)) : φ := h ⟨k⟩
theorem sto_Je {φ ψ : Prop} (k : ψ) (h : Hide ψ → φ := by (intro k; (first | refine sl_store rfl (by exact pick_) rfl rfl (by kernel_rfl) (by exact set_Je) ?_ | refine sl_store_whole rfl (by exact pick_) rfl (by exact sz_Je) (by exact sz_Je) (by exact one_Je) ?_); exact k.out)) : φ := h ⟨k⟩
theorem go_Je {φ ψ : Prop} (k : ψ) (h : Hide ψ → φ := by (intro k; (repeat (first | refine su_Je ?_ | refine so_ ?_ | refine sto_Je ?_)); exact k.out)) : φ := h ⟨k⟩
set_option maxRecDepth 100000 in
set_option maxHeartbeats 2000000 in
theorem open_new {K : List Fa} {g m : Nat} {lim : Int} {s : ByteArray} :
    Fn Tryz.prog 23 #[.pointer (some ⟨g, 0, none⟩), .string s] (dB g m lim :: dM m [] 0 :: dS [] :: K) (Ret (fun _ : Oj => True) (fun q => .tuple #[.pointer (some ⟨q.gj, 0, none⟩), .slice q.R 0 q.c, .int .i64 0]) (fun q => jB q.gj g s :: dB g m lim :: dM m [] 0 :: dS [] :: K)) := by
  refine fn_enter Tryz.func23 rfl _ Tryz.ntmps23 (by simp) [(0, .pointer (some ⟨g, 0, none⟩)), (1, .string s)] (args_of (by simp)) ?_
  refine go_Je ?_
  refine sl_call rfl rfl (by kernel_rfl) rfl Sub.refl (readD_no (fs := []) (m := m) (ck := 0) (lim := lim) (by exact at_) (by exact at_) nohas) ?_
  rintro _ -
  refine go_Je ?_
  have hsc := scan_ok (K := dB g m lim :: dM m [] 0 :: dS [] :: K) (A := none) (n := 0) (c := 0) (j0 := 0) (k0 := 0) (bs := []) (out0 := []) ⟨fun w _ => Reads.nil_ _, Nat.le_refl _, by decide, Nat.zero_le _, rfl, fun _ h => by cases h⟩ (by decide) rfl (rec_out (by decide))
  rw [show haltB [] 0 (cutN [] - 0) = false from rfl, ScA_yes] at hsc
  refine sl_call rfl rfl (by kernel_rfl) rfl Sub.refl hsc ?_
  rintro ⟨xs, R, c⟩ ⟨hxs, -⟩
  obtain rfl : xs = [] := List.map_eq_nil_iff.1 hxs
  dsimp only
  refine sl_sub (L' := dB g m lim :: dM m [] 0 :: dS [] :: K) ?_ ?_
  · exact Sub.skip (Sub.skip Sub.refl)
  refine go_Je ?_
  refine sl_pu (pu_build (v := .agg #[.pointer (some ⟨g, 0, none⟩), .string s, .int .i64 0]) rfl (fun W => by kernel_rfl)) rfl ?_
  refine sl_box rfl rfl rfl ?_; intro gj
  refine go_Je ?_
  exact se_ret3 ⟨gj, R, c⟩ trivial rfl rfl rfl rfl rfl (by exact sub_)
end Go.Proofs.YtocaabnbmcpjmaaGreatDoor
/- A journal opened: Open's walk at a file that is there. -/
namespace Go.Proofs.YtocaabnbmcpjmaaGreatDoor
open Go.RowKit Go.MapKept
attribute [local irreducible] Go.Calls Go.Exit.then Go.Exit.inBlock Go.bodyPost Go.Code.wp Go.wpList takeL recordL hashL recL allL
abbrev jC (gj g : Nat) (s : ByteArray) (n : Nat) : Fa := blk gj 124 [.pointer (some ⟨g, 0, none⟩), .string s, .int .i64 n]
end Go.Proofs.YtocaabnbmcpjmaaGreatDoor
/- A disk: Turn. -/
namespace Go.Proofs.YtocaabnbmcpjmaaGreatDoor
open Go.RowKit Go.MapKept
attribute [local irreducible] Go.Calls Go.Exit.then Go.Exit.inBlock Go.bodyPost Go.Code.wp Go.wpList
end Go.Proofs.YtocaabnbmcpjmaaGreatDoor
/- A journal with a bit turned. Plain. -/
namespace Go.Proofs.YtocaabnbmcpjmaaGreatDoor
open Go.RowKit
attribute [local irreducible] takeL recordL hashL cellL
theorem cut_at {l : List Int} {j i : Nat} : (cutL l j)[i]? = if i < 64 then l[j * 64 + i]? else none := by
  unfold cutL
  rw [List.getElem?_take, List.getElem?_drop]
theorem cells_app (a b : List (List Int)) : cellsA (a ++ b) = cellsA a + cellsA b := by simp [cellsA]
theorem cut_take {l : List Int} {m j : Nat} (h : (j + 1) * 64 ≤ m) : cutL (l.take m) j = cutL l j := by
  apply List.ext_getElem?
  intro i
  rw [cut_at, cut_at]
  split
  · rw [List.getElem?_take, if_pos (by omega)]
  · rfl
attribute [local semireducible] takeL in
theorem take_take {l : List Int} {m j : Nat} (h : (j + 1) * 64 ≤ m) (hm : m ≤ l.length) : takeL (l.take m) j = takeL l j := by
  have e1 : ¬ (l.take m).length < (j + 1) * 64 := by rw [List.length_take]; omega
  have e2 : ¬ l.length < (j + 1) * 64 := by omega
  unfold takeL
  rw [if_neg e1, if_neg e2, cut_take h]
theorem cells_mono {ls : List (List Int)} {a b : Nat} (h : a ≤ b) : cellsA (ls.take a) ≤ cellsA (ls.take b) := by
  have h1 : ls.take b = ls.take a ++ (ls.take b).drop a := by
    have h2 := (List.take_append_drop a (ls.take b)).symm
    rw [List.take_take, Nat.min_eq_left h] at h2
    exact h2
  rw [h1, cells_app]
  omega
/-- How many records are whole in the first m bytes. -/
structure Whole (ls : List (List Int)) (m r : Nat) : Prop where
  hr : r ≤ ls.length
  lo : cellsA (ls.take r) * 64 ≤ m
  hi : r < ls.length → m < cellsA (ls.take (r + 1)) * 64
theorem Whole.le {ls : List (List Int)} {m r a : Nat} (h : Whole ls m r) (h' : cellsA (ls.take a) * 64 ≤ m) (ha : a ≤ ls.length) : a ≤ r := by
  rcases Nat.lt_or_ge r a with hl | hl
  · have h1 := h.hi (by omega)
    have h2 := cells_mono (ls := ls) (a := r + 1) (b := a) (by omega)
    omega
  · exact hl
end Go.Proofs.YtocaabnbmcpjmaaGreatDoor
/- A cell with a bit turned: is it right by its sum? And where a chain of records ends. -/
namespace Go.Proofs.YtocaabnbmcpjmaaGreatDoor
open Go.RowKit Go.MapKept
attribute [local irreducible] Go.Calls Go.Exit.then Go.Exit.inBlock Go.bodyPost Go.Code.wp Go.wpList takeL recordL hashL recL allL
theorem LsV.take {K : List Fa} {R : Option Addr} {xs : List Bx} (h : LsV K R xs) {m : Nat} (hm : m ≤ xs.length) : LsV K R (xs.take m) := by
  refine ⟨fun w hw => ?_, fun x hx => h.el x (List.mem_of_mem_take hx)⟩
  have h1 := (h.vw w hw).take (k := m) hm
  rw [Nat.mul_one, ← List.map_take] at h1
  rw [List.length_take, Nat.min_eq_left hm]
  exact h1
end Go.Proofs.YtocaabnbmcpjmaaGreatDoor
/- The shelf's contract of slices.Sort at strings, laid at this program (printed by the kit's lay-plain), and over facts. -/
namespace Go.Proofs.YtocaabnbmcpjmaaGreatDoor
open Go.Shelf Go.Sort Go.RowKit
end Go.Proofs.YtocaabnbmcpjmaaGreatDoor
/- A disk: Names. -/
namespace Go.Proofs.YtocaabnbmcpjmaaGreatDoor
open Go.RowKit Go.MapKept
attribute [local irreducible] Go.Calls Go.Exit.then Go.Exit.inBlock Go.bodyPost Go.Code.wp Go.wpList
end Go.Proofs.YtocaabnbmcpjmaaGreatDoor
/- A disk: Crash. -/
namespace Go.Proofs.YtocaabnbmcpjmaaGreatDoor
open Go.RowKit Go.MapKept
attribute [local irreducible] Go.Calls Go.Exit.then Go.Exit.inBlock Go.bodyPost Go.Code.wp Go.wpList
/-- A file in the abstract. -/
structure Fi where
  s : ByteArray
  l : List Int
  sy : Nat
def DF.ab (f : DF) : Fi := ⟨f.s, f.l, f.sy⟩
def crN (keep : Int) (l : List Int) (sy : Nat) : Nat := sy + (if (((l.length - sy : Nat) : Int)) < (if keep < 0 then 0 else keep) then (((l.length - sy : Nat) : Int)) else (if keep < 0 then 0 else keep)).toNat
def Fi.cr (keep : Int) (a : Fi) : Fi := ⟨a.s, a.l.take (crN keep a.l a.sy), crN keep a.l a.sy⟩
end Go.Proofs.YtocaabnbmcpjmaaGreatDoor
