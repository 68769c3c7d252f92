/- Several texts of one claim, one behind the other (Dk8, Dp, Dk9). -/
import Derived.Test.YtemhhhikopemmaaB13
import Derived.Test.YtemhhhikopemmaaB03
/- A disk: Crash. -/
namespace Go.Proofs.Ytemhhhikopemmaa
open Go.RowKit Go.MapKept
attribute [local irreducible] Go.Calls Go.Exit.then Go.Exit.inBlock Go.bodyPost Go.Code.wp Go.wpList
/-- A file in the abstract. -/
structure Fi where
  s : ByteArray
  l : List Int
  sy : Nat
def DF.ab (f : DF) : Fi := ⟨f.s, f.l, f.sy⟩
def maxI (a b : Int) : Int := if a < b then b else a
def crN (keep : Int) (l : List Int) (sy : Nat) : Nat := sy + (if (((l.length - sy : Nat) : Int)) < (if keep < 0 then 0 else keep) then (((l.length - sy : Nat) : Int)) else (if keep < 0 then 0 else keep)).toNat
def Fi.cr (keep : Int) (a : Fi) : Fi := ⟨a.s, a.l.take (crN keep a.l a.sy), crN keep a.l a.sy⟩
theorem crN_le {keep : Int} {l : List Int} {sy : Nat} (h : sy ≤ l.length) : sy ≤ crN keep l sy ∧ crN keep l sy ≤ l.length := by
  unfold crN
  split <;> split at * <;> omega
theorem crN_int {keep : Int} {l : List Int} {sy : Nat} (h : sy ≤ l.length) : ((crN keep l sy : Nat) : Int) = sy + (if ((l.length : Int) - sy) < (if keep < 0 then 0 else keep) then ((l.length : Int) - sy) else (if keep < 0 then 0 else keep)) := by
  unfold crN
  rw [show ((l.length : Int) - sy) = ((l.length - sy : Nat) : Int) by omega]
  split <;> split at * <;> omega
theorem dval_k {s : ByteArray} {A : Option Addr} {c k bn : Nat} {l : List Int} (hk : k ≤ l.length) : Value.agg #[.slice A k c, .int .i64 k] = DF.val ⟨s, A, c, l.take k, k, bn⟩ := by
  unfold DF.val
  have h1 : (l.take k).length = k := by rw [List.length_take]; omega
  show _ = Value.agg #[.slice A (l.take k).length c, .int .i64 k]
  rw [h1]
theorem nm_nodup {fs : List DF} (h : fs.Pairwise (fun a b => a.s ≠ b.s)) : (namesOf fs).Nodup := by
  unfold namesOf
  refine (List.mergeSort_perm _ _).nodup_iff.2 ?_
  unfold List.Nodup
  rw [List.pairwise_map]
  exact h.imp (fun {a b} hab e => hab (by
    have h2 := congrArg List.toArray e
    rw [Array.toArray_toList, Array.toArray_toList] at h2
    cases hx : a.s
    cases hy : b.s
    rw [hx, hy] at h2
    exact congrArg _ h2))
theorem nm_mem {fs : List DF} {x : List UInt8} : x ∈ namesOf fs ↔ ∃ f ∈ fs, f.s.data.toList = x := by
  unfold namesOf
  rw [(List.mergeSort_perm _ _).mem_iff, List.mem_map]
def phi (keep : Int) (ns : List (List UInt8)) (a : Fi) : Fi := if a.s.data.toList ∈ ns then a.cr keep else a
structure Cw where
  j : Nat
  cur : List DF
theorem data_inj {a b : ByteArray} (h : a.data.toList = b.data.toList) : a = b := by
  have h2 := congrArg List.toArray h
  rw [Array.toArray_toList, Array.toArray_toList] at h2
  cases a
  cases b
  exact congrArg _ h2
/-- Where the file of that name stands. -/
theorem cur_split {keep : Int} {fs cur : List DF} {ns : List (List UInt8)} {f0 : DF} (hcur : cur.map DF.ab = fs.map (fun f => phi keep ns f.ab)) (hf : f0 ∈ fs) (hks : fs.Pairwise (fun a b => a.s ≠ b.s)) (hn : f0.s.data.toList ∉ ns) : ∃ X f Y, cur = X ++ f :: Y ∧ f.ab = f0.ab ∧ ∀ f' : DF, f'.ab = f0.ab.cr keep → (X ++ f' :: Y).map DF.ab = fs.map (fun f => phi keep (ns ++ [f0.s.data.toList]) f.ab) := by
  obtain ⟨X0, Y0, rfl⟩ := List.append_of_mem hf
  rw [List.map_append, List.map_cons] at hcur
  obtain ⟨X, Z, rfl, hX, hZ⟩ := List.map_eq_append_iff.1 hcur
  obtain ⟨f, Y, rfl, hf', hY⟩ := List.map_eq_cons_iff.1 hZ
  refine ⟨X, f, Y, rfl, ?_, fun f' he => ?_⟩
  · rw [hf']
    exact if_neg hn
  · rw [List.pairwise_append, List.pairwise_cons] at hks
    obtain ⟨_, ⟨h1, _⟩, h2⟩ := hks
    rw [List.map_append, List.map_cons, List.map_append, List.map_cons, hX, hY, he]
    have hp : ∀ u : DF, u.s ≠ f0.s → phi keep (ns ++ [f0.s.data.toList]) u.ab = phi keep ns u.ab := fun u hu => by
      unfold phi
      have : u.ab.s.data.toList ∈ ns ++ [f0.s.data.toList] ↔ u.ab.s.data.toList ∈ ns := by
        rw [List.mem_append, List.mem_singleton]
        exact ⟨fun h => h.elim id (fun e => absurd (data_inj e) hu), .inl⟩
      simp only [this]
    have hp0 : phi keep (ns ++ [f0.s.data.toList]) f0.ab = f0.ab.cr keep := by
      exact if_pos (List.mem_append_right _ (by simp [DF.ab]))
    rw [hp0]
    congr 1
    · exact List.map_congr_left fun u hu => (hp u (h2 u hu f0 (List.mem_cons_self ..))).symm
    · congr 1
      exact List.map_congr_left fun u hu => (hp u (fun e => h1 u hu e.symm)).symm
theorem nth_Dk8 {φ : Prop} (h : φ := by (first | rfl | assumption)) : φ := h
theorem mid_Dk8 {φ : Prop} (h : φ := by (first | exact Mid.all | exact Mid.all | exact Mid.head)) : φ := h
theorem sz_Dk8 {φ : Prop} (h : φ := by (first | rfl | (rfl; first | done | fail))) : φ := h
theorem one_Dk8 {φ : Prop} (h : φ := by (first | assumption | exact first | exact one_bytes _ | exact ff_one | (simp only [List.mem_cons, List.not_mem_nil, or_false, forall_eq_or_imp, forall_eq]; decide) | exact one_bytes _)) : φ := h
theorem set_Dk8 {φ : Prop} (h : φ := by (first | (fail) | ((repeat (first | exact SetAt.here | apply SetAt.there)); first | done | fail))) : φ := h
theorem cl_Dk8 {φ : Prop} (h : φ := by first | rfl | exact .t | exact .f | exact .t (by omega) | exact .f (by omega) | exact .u | exact .i (by (first | exact .t (by omega) | exact .f (by omega) | exact .u | exact .i (by omega) | exact .v (by omega) | exact .b (by omega) | exact .w | rfl | omega)) | exact .v (by omega) | exact .b (by omega) | exact .q (by omega) | exact .w | exact .b (by exact at_) rfl (by exact nth_Dk8) | exact .w (by exact at_) rfl rfl (by exact sz_Dk8) | exact .s (by exact at_) (by exact mid_Dk8) rfl rfl (by exact sz_Dk8) | exact .z rfl rfl ⟨by kernel_rfl⟩ | exact .b rfl rfl ⟨by kernel_rfl⟩ | exact .a rfl rfl ⟨by kernel_rfl⟩ | exact .o rfl | exact .s | exact .n | exact .p rfl | exact .q rfl | exact .c rfl | exact .d rfl | exact .n rfl rfl (by omega) | exact .a rfl rfl (by omega) | exact .p rfl rfl (by omega) (by omega) | exact .y rfl rfl (by omega) (by omega) | exact .o (by exact at_) (by omega) rfl (by exact nth_Dk8) | exact .m (by exact at_) (by omega) (by exact mid_Dk8) rfl rfl (by exact sz_Dk8) | exact .mlen (by exact at_) rfl | exact .t (by exact at_) rfl rfl (by first | exact True.intro | rfl) (by assumption) | exact .f (by exact at_) rfl rfl (by first | exact True.intro | rfl) (by assumption) rfl | exact .t1 (by exact at_) rfl rfl (by first | exact True.intro | rfl) (by assumption) | exact .f1 (by exact at_) rfl rfl (by first | exact True.intro | rfl) (by assumption) rfl | exact .r rfl rfl (by omega) (by omega) (by exact nth_Dk8) rfl | exact .s rfl (by omega) (by assumption) | exact at_ | assumption | exact .r rfl rfl | exact .h rfl rfl rfl (by omega) | exact .l rfl rfl rfl (by omega) (by omega) | exact .g rfl rfl rfl rfl (by omega) (by omega) | exact .h rfl rfl (toN_ (by omega)) (by omega) | exact .l rfl rfl (toN_ (by omega)) (by omega) (by omega) | exact .g rfl rfl (toN_ (by omega)) (toN_ (by omega)) (by omega) (by omega) | exact .o (by decide) | exact .f (by decide) | exact .n (by omega) (by first | decide | (show _ ≤ ((64 : Nat) : Int); omega)) | (constructor; (repeat (first | exact .t (by omega) | exact .f (by omega) | exact .u | exact .i (by omega) | exact .v (by omega) | exact .b (by omega) | exact .w | rfl | omega)); first | done | fail) | omega | (show _ ≤ ((64 : Nat) : Int); omega)) : φ := h
theorem pv_Dk8 {φ : Prop} (h : φ := by constructor; (repeat exact cl_Dk8); first | done | fail) : φ := h
theorem su_Dk8 {φ ψ : Prop} (k : ψ) (h : Hide ψ → φ := by (intro k; (first | refine sl_pu (PuI.sep (by exact pv_Dk8)) rfl ?_ | refine sl_yes rfl rfl ?_ | refine sl_no rfl rfl rfl ?_ | refine sl_off rfl rfl rfl ?_ | (fail)); exact k.out)) : φ := h ⟨k⟩
theorem rq_Dk8 {φ ψ : Prop} (k : ψ) (h : Hide ψ → φ := by (intro k; (first | refine wq_pu (PuI.sep (by exact pv_Dk8)) rfl ?_ | refine wq_yes rfl rfl ?_ | refine wq_no rfl rfl rfl ?_ | refine wq_off rfl rfl rfl ?_ | (fail)); exact k.out)) : φ := h ⟨k⟩
theorem sto_Dk8 {φ ψ : Prop} (k : ψ) (h : Hide ψ → φ := by (intro k; (first | refine sl_store rfl (by exact pick_) rfl rfl (by kernel_rfl) (by exact set_Dk8) ?_ | refine sl_store_whole rfl (by exact pick_) rfl (by exact sz_Dk8) (by exact sz_Dk8) (by exact one_Dk8) ?_); exact k.out)) : φ := h ⟨k⟩
theorem go_Dk8 {φ ψ : Prop} (k : ψ) (h : Hide ψ → φ := by (intro k; (repeat (first | refine su_Dk8 ?_ | refine so_ ?_ | refine sto_Dk8 ?_)); exact k.out)) : φ := h ⟨k⟩
set_option maxRecDepth 100000 in
set_option maxHeartbeats 2000000 in
theorem crashD_ok {K : List Fa} {g m ck : Nat} {lim keep : Int} {fs : List DF} (hlen : fs.length ≤ 1000) (hok : ∀ f ∈ fs, f.sy ≤ f.l.length ∧ f.l.length ≤ 1048576) :
    Fn Try.prog 30 #[.pointer (some ⟨g, 0, none⟩), .int .i64 keep] (dB g m lim :: dM m fs ck :: dS fs :: K) (Ret (fun q : List DF => q.map DF.ab = fs.map (fun f => f.ab.cr keep)) (fun _ => .tuple #[]) (fun q => dB g m lim :: dM m q ck :: dS q :: K)) := by
  refine fn_know (mp_nodup (m := m) (ck := ck) (fs := fs) (by exact at_)) ?_
  rintro ⟨hnd, hks⟩
  refine fn_enter Try.func30 rfl _ Try.ntmps30 (by simp) [(0, .pointer (some ⟨g, 0, none⟩)), (1, .int .i64 keep)] (args_of (by simp)) ?_
  refine go_Dk8 ?_
  refine sl_call rfl rfl (by kernel_rfl) rfl Sub.refl (namesD_ok (by exact at_) (by exact at_) hlen) ?_
  rintro ⟨A, c⟩ -
  dsimp only
  refine go_Dk8 ?_
  have hnl : (namesOf fs).length = fs.length := names_len
  refine sc_for (fun p : Cw => [(0, .pointer (some ⟨g, 0, none⟩)), (1, .int .i64 keep), (9, .slice A fs.length c), (10, .int .i64 fs.length), (11, .int .i64 p.j)]) (fun p => own 9 1 A fs.length c ((namesOf fs).map Go.Proofs.encStr) :: dB g m lim :: dM m p.cur ck :: dS p.cur :: K) (fun p => p.j ≤ fs.length ∧ p.cur.map DF.ab = fs.map (fun f => phi keep ((namesOf fs).take p.j) f.ab)) (fun p => fs.length - p.j) ⟨0, fs⟩ (by exact has_) (by exact sub_) ⟨Nat.zero_le _, by simp [phi]⟩ ?_
  rintro ⟨j, cur⟩ ⟨hj, hcur⟩
  dsimp only at hj hcur ⊢
  by_cases hlt : j < fs.length
  · have hjn : j < (namesOf fs).length := by omega
    obtain ⟨f0, hf0, hs0⟩ := nm_mem.1 (List.getElem_mem hjn)
    have htk : (namesOf fs).take (j + 1) = (namesOf fs).take j ++ [f0.s.data.toList] := by rw [List.take_succ_eq_append_getElem hjn, hs0]
    have hnin : f0.s.data.toList ∉ (namesOf fs).take j := fun h => by
      rw [hs0] at h
      obtain ⟨i, hi, he⟩ := List.mem_iff_getElem.1 h
      rw [List.length_take] at hi
      rw [List.getElem_take] at he
      have := (List.getElem_inj (nm_nodup hks)).1 he
      omega
    obtain ⟨X, f, Y, rfl, hfab, hnext⟩ := cur_split hcur hf0 hks hnin
    have hfs : f.s = f0.s := congrArg Fi.s hfab
    obtain ⟨hsy, hbig⟩ : f.sy ≤ f.l.length ∧ f.l.length ≤ 1048576 := by
      have h1 : f.sy = f0.sy := congrArg Fi.sy hfab
      have h2 : f.l = f0.l := congrArg Fi.l hfab
      rw [h1, h2]
      exact hok f0 hf0
    have hnth : nth ((namesOf fs).map Go.Proofs.encStr) (j * 1) = some (.string f.s) := by
      rw [nth_eq, Nat.mul_one, List.getElem?_map, List.getElem?_eq_getElem hjn, ← hs0, hfs]
      exact congrArg some (enc_str f0.s)
    refine sc_form (e := 9) (size := 1) (A := A) (m := fs.length) (by exact at_) (by omega) ?_
    rintro gn rfl
    have hg := dget (mid_mem (X := X) (Y := Y) (f := f))
    unfold DF.val at hg
    refine go_Dk8 ?_
    refine sl_alloc rfl rfl rfl ?_; intro g6
    refine go_Dk8 ?_
    have hcr := crN_le (keep := keep) hsy
    have hci := crN_int (keep := keep) hsy
    rw [← hci]
    obtain ⟨k, hk⟩ : ∃ k, crN keep f.l f.sy = k := ⟨_, rfl⟩
    rw [hk] at hcr ⊢
    refine sc_know (ds_cap (fs := X ++ f :: Y) (f := f) (by exact at_) mid_mem) ?_
    intro hcap
    have hr : Vw (dS (X ++ f :: Y) :: K) (fun w => Reads w 1 f.A k (bytes (f.l.take k))) := fun w hw => by
      have h1 := (ds_get (fs := X ++ f :: Y) (f := f) (by exact at_) mid_mem w hw).take (k := k) (by omega)
      rwa [bytes_take] at h1
    refine sd_drawn (fun W => AllP W [blk g6 88 [.slice f.A f.l.length f.c, .int .i64 f.sy], dB g m lim]) (fun _ => true) (by kernel_rfl) 13 rfl ?_
    refine sd_yes2 0 rfl (by exact gd_) (by kernel_rfl) (by kernel_rfl) (by exact nop_) (PuI.all (by exact pv_Dk8)) rfl (fun w hw => all_ hw) ?_
    refine sd_yes2 1 rfl (by exact gd_) (by kernel_rfl) (by kernel_rfl) (by exact nop_) (PuI.all (by exact pv_Dk8)) rfl (fun w hw => all_ hw) ?_
    refine sd_yes2 2 rfl (by exact gd_) (by kernel_rfl) (by kernel_rfl) (by exact nop_) (PuI.all (by exact pv_Dk8)) rfl (fun w hw => all_ hw) ?_
    refine sd_yes2 3 rfl (by exact gd_) (by kernel_rfl) (by kernel_rfl) (by exact nop_) (PuI.all (by exact pv_Dk8)) rfl (fun w hw => all_ hw) ?_
    refine sd_yes2 4 rfl (by exact gd_) (by kernel_rfl) (by kernel_rfl) (by exact nop_) (PuI.all (by exact pv_Dk8)) rfl (fun w hw => all_ hw) ?_
    refine sd_yes2 5 rfl (by exact gd_) (by kernel_rfl) (by kernel_rfl) (by exact nop_) (PuI.all (by exact pv_Dk8)) rfl (fun w hw => all_ hw) ?_
    refine sd_yes2 6 rfl (by exact gd_) (by kernel_rfl) (by kernel_rfl) (by exact nop_) (PuI.all (by exact pv_Dk8)) rfl (fun w hw => all_ hw) ?_
    refine sd_yes2 7 rfl (by exact gd_) (by kernel_rfl) (by kernel_rfl) (by exact nop_) (PuI.all (by exact pv_Dk8)) rfl (fun w hw => all_ hw) ?_
    refine sd_yes2 8 rfl (by exact gd_) (by kernel_rfl) (by kernel_rfl) (by exact nop_) (PuI.all (by exact pv_Dk8)) rfl (fun w hw => all_ hw) ?_
    refine sd_yes2 10 rfl (by exact gd_) (by kernel_rfl) (by kernel_rfl) (by exact nop_) (PuI.all (by exact pv_Dk8)) rfl (fun w hw => all_ hw) ?_
    refine sd_one 9 (by kernel_rfl) (sa_sl 9 rfl ?_)
    refine sl_call rfl rfl (by kernel_rfl) rfl Sub.refl (clone_ok (hr.mono (by exact sub_)) (by omega)) ?_
    rintro ⟨A1, c1⟩ -
    refine sl_nil ?_
    refine se_sd (fun _ w hw => all_ hw) ?_
    refine sd_yes2 11 rfl (by exact gd_) (by kernel_rfl) (by kernel_rfl) (by exact nop_) (pu_build (v := .agg #[.slice A1 k c1, .int .i64 k]) rfl (fun W => by kernel_rfl)) rfl (fun w hw => all_ hw) ?_
    refine sd_one 12 (by kernel_rfl) (sa_sl 12 rfl ?_)
    refine sl_dput (f := f) (f' := ⟨f.s, A1, c1, f.l.take k, k, f.bn⟩) rfl rfl (congrArg some (dval_k (by omega))) rfl rfl (by exact pick_) rfl rfl ?_
    refine sl_nil ?_
    refine se_sd (fun _ w hw => all_ hw) ?_
    refine sd_done (by kernel_rfl) ?_
    refine go_Dk8 ?_
    refine se_sub (L' := own 5 1 A1 k c1 (bytes (f.l.take k)) :: dS (X ++ f :: Y) :: own 9 1 (some ⟨gn, 0, none⟩) fs.length c ((namesOf fs).map Go.Proofs.encStr) :: dB g m lim :: dM m (X ++ ⟨f.s, A1, c1, f.l.take k, k, f.bn⟩ :: Y) ck :: K) (by exact sub_) ?_
    refine se_ent (ds_put (s := f.s) (sy := k) (bn := f.bn) (by rw [List.length_take]; omega)) ?_
    refine se_round ⟨j + 1, X ++ ⟨f.s, A1, c1, f.l.take k, k, f.bn⟩ :: Y⟩ (by exact has_) (by exact sub_) ⟨hlt, ?_⟩ (by show fs.length - (j + 1) < fs.length - j; omega)
    rw [htk]
    refine hnext _ ?_
    rw [← hfab]
    show Fi.mk f.s (f.l.take k) k = Fi.mk f.s (f.l.take (crN keep f.l f.sy)) (crN keep f.l f.sy)
    rw [hk]
  · obtain rfl : j = fs.length := by omega
    rw [List.take_of_length_le (by omega)] at hcur
    have hend : cur.map DF.ab = fs.map (fun f => f.ab.cr keep) := by
      rw [hcur]
      refine List.map_congr_left fun u hu => ?_
      exact if_pos (nm_mem.2 ⟨u, hu, rfl⟩)
    refine go_Dk8 ?_
    exact se_end0 cur hend rfl rfl (by exact sub_)
end Go.Proofs.Ytemhhhikopemmaa
/- A disk as the law means it: files one by one. No program is in sight but for the types' numbers. -/
namespace Go.Proofs.Ytemhhhikopemmaa
open Go.RowKit Go.ChangeShapes Go.WideShapes
/-- A file as it is meant. -/
structure MF where
  s : ByteArray
  A : Option Addr
  c : Nat
  l : List Int
  sy : Nat
def MF.C (f : MF) : List Value := [.string f.s, .slice f.A f.l.length f.c, .int .i64 f.sy]
theorem MF.len (f : MF) : f.C.length = 3 := rfl
theorem MF.one : ∀ f : MF, ∀ v ∈ f.C, v.oneCell' = true := fun f v hv => by
  simp only [MF.C, List.mem_cons, List.not_mem_nil, or_false] at hv
  rcases hv with rfl | rfl | rfl <;> rfl
def MF.ab (f : MF) : Fi := ⟨f.s, f.l, f.sy⟩
def usedM (ms : List MF) : Nat := (ms.map (·.l.length)).sum
theorem usedM_snoc {ms : List MF} {f : MF} : usedM (ms ++ [f]) = usedM ms + f.l.length := by simp [usedM]
theorem usedM_take {ms : List MF} {k : Nat} {f : MF} (h : ms[k]? = some f) : usedM (ms.take (k + 1)) = usedM (ms.take k) + f.l.length := by
  obtain ⟨hk, rfl⟩ := List.getElem?_eq_some_iff.1 h
  rw [List.take_succ_eq_append_getElem hk, usedM_snoc]
theorem usedM_set {ms : List MF} {f f' : MF} : ∀ {k : Nat}, ms[k]? = some f → usedM (ms.set k f') + f.l.length = usedM ms + f'.l.length := by
  induction ms with
  | nil => intro k h; simp at h
  | cons a r ih =>
    intro k h
    cases k with
    | zero =>
      obtain rfl : a = f := by simpa using h
      simp [usedM]
      omega
    | succ k =>
      have := ih (k := k) (by simpa using h)
      simp [usedM] at this ⊢
      omega
theorem usedM_le {ms : List MF} {f : MF} (h : f ∈ ms) : f.l.length ≤ usedM ms := by
  obtain ⟨a, b, rfl⟩ := List.append_of_mem h
  simp [usedM]
  omega
/-- What is known of the files that are meant, beside the disk's. -/
structure MOk (w : World) (lim : Int) (G : Fa) (ms : List MF) (fs : List DF) : Prop where
  ab : fs.map DF.ab = ms.map MF.ab
  sy : ∀ f ∈ ms, f.sy ≤ f.l.length
  c : ∀ f ∈ ms, f.l.length ≤ f.c
  by' : ∀ f ∈ ms, IsBytes f.l
  vw : ∀ f ∈ ms, Vw [G, old w] (fun w => Reads w 1 f.A f.l.length (bytes f.l))
  us : (usedM ms : Int) ≤ lim
section
variable {w : World} {lim : Int} {G : Fa} {ms : List MF} {fs : List DF}
theorem MOk.used (h : MOk w lim G ms fs) : usedN fs = usedM ms := by
  have h1 := congrArg (fun l => (l.map (fun a : Fi => a.l.length)).sum) h.ab
  simpa [usedN, usedM, DF.ab, MF.ab, Function.comp_def] using h1
theorem MOk.len (h : MOk w lim G ms fs) : fs.length = ms.length := by simpa using congrArg List.length h.ab
theorem MOk.get (h : MOk w lim G ms fs) {k : Nat} {f : MF} (hk : ms[k]? = some f) : ∃ d, fs[k]? = some d ∧ d.ab = f.ab := by
  have h1 := congrArg (fun l => l[k]?) h.ab
  simp only [List.getElem?_map, hk, Option.map_some] at h1
  obtain ⟨d, hd, he⟩ := Option.map_eq_some_iff.1 h1
  exact ⟨d, hd, he⟩
theorem split_at {α : Type} {l : List α} {k : Nat} {x : α} (h : l[k]? = some x) : l = l.take k ++ x :: l.drop (k + 1) ∧ (l.take k).length = k := by
  obtain ⟨hk, rfl⟩ := List.getElem?_eq_some_iff.1 h
  exact ⟨by rw [List.getElem_cons_drop, List.take_append_drop], by rw [List.length_take]; omega⟩
theorem MOk.split (h : MOk w lim G ms fs) {k : Nat} {f : MF} (hk : ms[k]? = some f) : ∃ X A c bn Y, fs = X ++ ⟨f.s, A, c, f.l, f.sy, bn⟩ :: Y ∧ X.length = k := by
  obtain ⟨d, hd, he⟩ := h.get hk
  obtain ⟨h1, h2⟩ := split_at hd
  obtain ⟨s, A, c, l, sy, bn⟩ := d
  obtain rfl : s = f.s := congrArg Fi.s he
  obtain rfl : l = f.l := congrArg Fi.l he
  obtain rfl : sy = f.sy := congrArg Fi.sy he
  exact ⟨_, A, c, bn, _, h1, h2⟩
theorem MOk.put {X Y : List DF} {d d' : DF} (h : MOk w lim G ms (X ++ d :: Y)) {k : Nat} {f f' : MF} {G' : Fa} (hk : ms[k]? = some f) (hX : X.length = k) (he : d'.ab = f'.ab) (hG : Ent_ [G', old w] [G, old w]) (h1 : f'.sy ≤ f'.l.length) (h2 : f'.l.length ≤ f'.c) (h3 : IsBytes f'.l) (h4 : Vw [G', old w] (fun w => Reads w 1 f'.A f'.l.length (bytes f'.l))) (h5 : (usedM ms : Int) + f'.l.length ≤ lim + f.l.length) :
    MOk w lim G' (ms.set k f') (X ++ d' :: Y) := by
  have hm : ∀ g ∈ ms.set k f', g ∈ ms ∨ g = f' := fun g hg => List.mem_or_eq_of_mem_set hg
  refine ⟨?_, fun g hg => ?_, fun g hg => ?_, fun g hg => ?_, fun g hg => ?_, ?_⟩
  · have h6 := congrArg (fun l => l.set k d'.ab) h.ab
    subst hX
    rw [List.map_set, ← he, ← h6]
    simp
  · rcases hm g hg with e | rfl
    · exact h.sy g e
    · exact h1
  · rcases hm g hg with e | rfl
    · exact h.c g e
    · exact h2
  · rcases hm g hg with e | rfl
    · exact h.by' g e
    · exact h3
  · rcases hm g hg with e | rfl
    · exact fun w' hw' => h.vw g e w' (hG w' hw')
    · exact h4
  · have := usedM_set (f' := f') hk
    omega
theorem MOk.grow (h : MOk w lim G ms fs) {f' : MF} {d' : DF} {G' : Fa} (he : d'.ab = f'.ab) (hG : Ent_ [G', old w] [G, old w]) (h1 : f'.sy ≤ f'.l.length) (h2 : f'.l.length ≤ f'.c) (h3 : IsBytes f'.l) (h4 : Vw [G', old w] (fun w => Reads w 1 f'.A f'.l.length (bytes f'.l))) (h5 : (usedM ms : Int) + f'.l.length ≤ lim) :
    MOk w lim G' (ms ++ [f']) (fs ++ [d']) := by
  have hm : ∀ g ∈ ms ++ [f'], g ∈ ms ∨ g = f' := fun g hg => by simpa using hg
  refine ⟨by rw [List.map_append, List.map_append, h.ab, List.map_singleton, List.map_singleton, he], fun g hg => ?_, fun g hg => ?_, fun g hg => ?_, fun g hg => ?_, ?_⟩
  · rcases hm g hg with e | rfl
    · exact h.sy g e
    · exact h1
  · rcases hm g hg with e | rfl
    · exact h.c g e
    · exact h2
  · rcases hm g hg with e | rfl
    · exact h.by' g e
    · exact h3
  · rcases hm g hg with e | rfl
    · exact fun w' hw' => h.vw g e w' (hG w' hw')
    · exact h4
  · rw [usedM_snoc]
    omega
/-- A file after a crash. -/
def MF.cr (n : Int) (f : MF) : MF := ⟨f.s, f.A, crN n f.l f.sy, f.l.take (crN n f.l f.sy), crN n f.l f.sy⟩
theorem MF.cr_ab (n : Int) (f : MF) : (f.cr n).ab = f.ab.cr n := rfl
theorem usedM_cr {n : Int} : usedM (ms.map (MF.cr n)) ≤ usedM ms := by
  induction ms with
  | nil => exact Nat.le_refl _
  | cons a r ih =>
    simp [usedM, MF.cr] at ih ⊢
    omega
theorem MOk.crash (h : MOk w lim G ms fs) {n : Int} {fs' : List DF} (hf : fs'.map DF.ab = fs.map (fun f => f.ab.cr n)) : MOk w lim G (ms.map (MF.cr n)) fs' := by
  have hle : ∀ f ∈ ms, crN n f.l f.sy ≤ f.l.length := fun f hf => (crN_le (h.sy f hf)).2
  refine ⟨?_, fun g hg => ?_, fun g hg => ?_, fun g hg => ?_, fun g hg => ?_, ?_⟩
  · have h1 : fs.map (fun f => f.ab.cr n) = (fs.map DF.ab).map (Fi.cr n) := by rw [List.map_map]; rfl
    rw [hf, h1, h.ab, List.map_map, List.map_map]
    rfl
  · obtain ⟨f, hf, rfl⟩ := List.mem_map.1 hg
    have := hle f hf
    show crN n f.l f.sy ≤ (f.l.take (crN n f.l f.sy)).length
    rw [List.length_take]
    omega
  · obtain ⟨f, hf, rfl⟩ := List.mem_map.1 hg
    show (f.l.take (crN n f.l f.sy)).length ≤ crN n f.l f.sy
    rw [List.length_take]
    omega
  · obtain ⟨f, hf, rfl⟩ := List.mem_map.1 hg
    exact fun x hx => h.by' f hf x (List.mem_of_mem_take hx)
  · obtain ⟨f, hf, rfl⟩ := List.mem_map.1 hg
    have hl := hle f hf
    intro w' hw'
    have h1 := (h.vw f hf w' hw').take (k := crN n f.l f.sy) (by omega)
    rw [bytes_take] at h1
    show Reads w' 1 f.A (f.l.take (crN n f.l f.sy)).length (bytes (f.l.take (crN n f.l f.sy)))
    rw [List.length_take, Nat.min_eq_left hl]
    exact h1
  · have := usedM_cr (ms := ms) (n := n)
    have := h.us
    omega
end
/-- Where a name stands among those so far. -/
def AtN (ms : List MF) (s : ByteArray) (at' : Int) : Prop := (at' = -1 ∧ ∀ f ∈ ms, f.s ≠ s) ∨ ∃ (j : Nat) (f : MF), at' = j ∧ ms[j]? = some f ∧ f.s = s
theorem AtN.skip {ms : List MF} {k : Nat} {f : MF} {s : ByteArray} {a : Int} (h : AtN (ms.take k) s a) (hk : ms[k]? = some f) (hs : f.s ≠ s) : AtN (ms.take (k + 1)) s a := by
  obtain ⟨hk1, rfl⟩ := List.getElem?_eq_some_iff.1 hk
  rw [List.take_succ_eq_append_getElem hk1]
  rcases h with ⟨h1, h2⟩ | ⟨j, g, h1, h2, h3⟩
  · refine .inl ⟨h1, fun g hg => ?_⟩
    rcases List.mem_append.1 hg with e | e
    · exact h2 g e
    · rw [List.mem_singleton] at e
      rw [e]
      exact hs
  · obtain ⟨hj, _⟩ := List.getElem?_eq_some_iff.1 h2
    exact .inr ⟨j, g, h1, by rw [List.getElem?_append_left hj]; exact h2, h3⟩
theorem AtN.hit {ms : List MF} {k : Nat} {f : MF} (hk : ms[k]? = some f) : AtN (ms.take (k + 1)) f.s k := by
  refine .inr ⟨k, f, rfl, ?_, rfl⟩
  rw [List.getElem?_take, if_pos (by omega)]
  exact hk
theorem MOk.no {w : World} {lim : Int} {G : Fa} {ms : List MF} {fs : List DF} {s : ByteArray} (h : MOk w lim G ms fs) (hn : ∀ f ∈ ms, f.s ≠ s) : ¬ DHas fs s := fun ⟨d, hd, hs⟩ => by
  have h1 : d.ab ∈ ms.map MF.ab := by rw [← h.ab]; exact List.mem_map_of_mem hd
  obtain ⟨f, hf, he⟩ := List.mem_map.1 h1
  exact hn f hf ((congrArg Fi.s he).trans hs)
theorem usedM_take_le {ms : List MF} {k : Nat} : usedM (ms.take k) ≤ usedM ms := by
  have h : usedM ms = usedM (ms.take k) + usedM (ms.drop k) := by
    conv => lhs; rw [← List.take_append_drop k ms]
    unfold usedM
    rw [List.map_append, List.sum_append]
  omega
theorem star2 {a b : Fa} {K : List Fa} : Ent_ (a :: b :: K) (star [a, b] :: K) := fun w hw => star_in (G := [a, b]) w hw
theorem star2_out {a b c : Fa} : Ent_ [star [a, b], c] [b, c] := fun w hw => (star_out (G := [a, b]) (K := [c]) w hw).sub (.skip .refl)
theorem star2_hd {a b c : Fa} : Ent_ [star [a, b], c] [a] := fun w hw => (star_out (G := [a, b]) (K := [c]) w hw).sub (.cons .here (.skip (.skip .refl)))
/-- A call as it came in. -/
structure Ac where
  k : Int
  nm : Int
  A : Option Addr
  c : Nat
  l : List Int
  n : Int
  s : ByteArray
  r : Bool
def Ac.C (a : Ac) : List Value := [.int .u8 a.k, .int .u8 a.nm, .slice a.A a.l.length a.c, .int .i64 a.n, .string a.s, .bool a.r]
theorem Ac.len (a : Ac) : a.C.length = 6 := rfl
theorem Ac.one (a : Ac) : ∀ v ∈ a.C, v.oneCell' = true := fun v hv => by
  simp only [Ac.C, List.mem_cons, List.not_mem_nil, or_false] at hv
  rcases hv with rfl | rfl | rfl | rfl | rfl | rfl <;> rfl
def Ac.ok (w : World) (a : Ac) : Prop := (0 ≤ a.k ∧ a.k ≤ 255) ∧ (0 ≤ a.nm ∧ a.nm ≤ 255) ∧ (-9223372036854775808 ≤ a.n ∧ a.n ≤ 9223372036854775807) ∧ Reads w 1 a.A a.l.length (bytes a.l) ∧ IsBytes a.l ∧ a.l.length ≤ a.c ∧ a.c ≤ maxLen
/-- The three names. -/
def nm0 : ByteArray := ⟨#[97]⟩
def nm1 : ByteArray := ⟨#[98, 46, 49]⟩
def nm2 : ByteArray := ⟨#[99, 45, 99]⟩
def nmOf (k : Int) : ByteArray := if k = 0 then nm0 else if k = 1 then nm1 else nm2
theorem nmOf_size (k : Int) : (nmOf k).size ≤ 3 := by
  unfold nmOf
  split
  · exact (by decide : nm0.size ≤ 3)
  · split
    · exact (by decide : nm1.size ≤ 3)
    · exact (by decide : nm2.size ≤ 3)
theorem nmOf_nth {k : Int} (h0 : 0 ≤ k) (h3 : k < 3) : nth [.string nm0, .string nm1, .string nm2] (k.toNat * 1) = some (.string (nmOf k)) := by
  obtain rfl | rfl | rfl : k = 0 ∨ k = 1 ∨ k = 2 := by omega
  · rfl
  · rfl
  · rfl
theorem bless : ∀ x y : List UInt8, Op.bytesLess x y = decide (x < y)
  | [], [] => by simp [Op.bytesLess]
  | _ :: _, [] => by simp [Op.bytesLess]
  | [], _ :: _ => by simp [Op.bytesLess]
  | a :: x, b :: y => by
    rw [Op.bytesLess, bless x y]
    simp only [List.cons_lt_cons_iff]
    by_cases h1 : a < b
    · simp [h1]
    · by_cases h2 : a = b
      · subst h2
        simp
      · simp [h1, h2]
/-- Names in order: each ahead of the next. -/
theorem names_lt {fs : List DF} (h : fs.Pairwise (fun a b => a.s ≠ b.s)) {i : Nat} {x y : List UInt8} (hx : (namesOf fs)[i]? = some x) (hy : (namesOf fs)[i + 1]? = some y) : Op.bytesLess x y = true := by
  obtain ⟨h1, rfl⟩ := List.getElem?_eq_some_iff.1 hx
  obtain ⟨h2, rfl⟩ := List.getElem?_eq_some_iff.1 hy
  have hnd := nm_nodup h
  have hs : (namesOf fs).Pairwise (fun x y => decide (x ≤ y) = true) := List.pairwise_mergeSort (fun a b c h1 h2 => by
    rw [decide_eq_true_eq] at h1 h2 ⊢
    exact List.le_trans h1 h2) (fun a b => by
    rw [Bool.or_eq_true, decide_eq_true_eq, decide_eq_true_eq]
    exact List.le_total a b) _
  have h3 := List.pairwise_iff_getElem.1 hs i (i + 1) h1 h2 (by omega)
  rw [decide_eq_true_eq] at h3
  have h4 := List.pairwise_iff_getElem.1 hnd i (i + 1) h1 h2 (by omega)
  rw [bless, decide_eq_true_eq]
  exact Std.lt_of_le_of_ne h3 h4
theorem enc_toList {x : List UInt8} {s : ByteArray} (h : Go.Proofs.encStr x = .string s) : s.toList = x := by
  have h' : Value.string ⟨x.toArray⟩ = .string s := h
  injection h' with h'
  subst h'
  rw [ByteArray.toList_eq]
theorem pu_geq_str {P : Program} {C : World → Prop} {n : Nat} {l : Env} {x y : Operand} {t t' ty : TypeId} {s u : ByteArray} (hx : ev l x = some (.string s)) (hy : ev l y = some (.string u)) : Pu P C n l (.binOp .geq t x y t') ty (.bool (!Op.bytesLess s.toList u.toList)) := by
  unfold Pu
  intro a _ _ _ _ W hs _
  simp only [execOp, hs.ev hx, hs.ev hy]
  rw [Sem.run_bind, Sem.run_bind]
  simp [go_sem, Op.stringOp]
end Go.Proofs.Ytemhhhikopemmaa
/- A disk: Copy. -/
namespace Go.Proofs.Ytemhhhikopemmaa
open Go.RowKit Go.MapKept
attribute [local irreducible] Go.Calls Go.Exit.then Go.Exit.inBlock Go.bodyPost Go.Code.wp Go.wpList
structure Cp where
  g : Nat
  m : Nat
  fs : List DF
  ck : Nat
structure Cq where
  us : List DF
  nf : List DF
  ck : Nat
theorem nth_Dk9 {φ : Prop} (h : φ := by (first | rfl | rfl)) : φ := h
theorem mid_Dk9 {φ : Prop} (h : φ := by (first | exact Mid.all | exact Mid.all | exact Mid.head)) : φ := h
theorem sz_Dk9 {φ : Prop} (h : φ := by (first | rfl | (rfl; first | done | fail))) : φ := h
theorem one_Dk9 {φ : Prop} (h : φ := by (first | assumption | exact first | exact one_bytes _ | exact ff_one | (simp only [List.mem_cons, List.not_mem_nil, or_false, forall_eq_or_imp, forall_eq]; decide) | exact one_bytes _)) : φ := h
theorem set_Dk9 {φ : Prop} (h : φ := by (first | (fail) | ((repeat (first | exact SetAt.here | apply SetAt.there)); first | done | fail))) : φ := h
theorem cl_Dk9 {φ : Prop} (h : φ := by first | rfl | exact .t | exact .f | exact .t (by omega) | exact .f (by omega) | exact .u | exact .i (by (first | exact .t (by omega) | exact .f (by omega) | exact .u | exact .i (by omega) | exact .v (by omega) | exact .b (by omega) | exact .w | rfl | omega)) | exact .v (by omega) | exact .b (by omega) | exact .q (by omega) | exact .w | exact .b (by exact at_) rfl (by exact nth_Dk9) | exact .w (by exact at_) rfl rfl (by exact sz_Dk9) | exact .s (by exact at_) (by exact mid_Dk9) rfl rfl (by exact sz_Dk9) | exact .z rfl rfl ⟨by kernel_rfl⟩ | exact .b rfl rfl ⟨by kernel_rfl⟩ | exact .a rfl rfl ⟨by kernel_rfl⟩ | exact .o rfl | exact .s | exact .n | exact .p rfl | exact .q rfl | exact .c rfl | exact .d rfl | exact .n rfl rfl (by omega) | exact .a rfl rfl (by omega) | exact .p rfl rfl (by omega) (by omega) | exact .y rfl rfl (by omega) (by omega) | exact .o (by exact at_) (by omega) rfl (by exact nth_Dk9) | exact .m (by exact at_) (by omega) (by exact mid_Dk9) rfl rfl (by exact sz_Dk9) | exact .mlen (by exact at_) rfl | exact .t (by exact at_) rfl rfl (by first | exact True.intro | rfl) (by assumption) | exact .f (by exact at_) rfl rfl (by first | exact True.intro | rfl) (by assumption) rfl | exact .t1 (by exact at_) rfl rfl (by first | exact True.intro | rfl) (by assumption) | exact .f1 (by exact at_) rfl rfl (by first | exact True.intro | rfl) (by assumption) rfl | exact .r rfl rfl (by omega) (by omega) (by exact nth_Dk9) rfl | exact .s rfl (by omega) (by assumption) | exact at_ | assumption | exact .r rfl rfl | exact .h rfl rfl rfl (by omega) | exact .l rfl rfl rfl (by omega) (by omega) | exact .g rfl rfl rfl rfl (by omega) (by omega) | exact .h rfl rfl (toN_ (by omega)) (by omega) | exact .l rfl rfl (toN_ (by omega)) (by omega) (by omega) | exact .g rfl rfl (toN_ (by omega)) (toN_ (by omega)) (by omega) (by omega) | exact .o (by decide) | exact .f (by decide) | exact .n (by omega) (by first | decide | (show _ ≤ ((64 : Nat) : Int); omega)) | (constructor; (repeat (first | exact .t (by omega) | exact .f (by omega) | exact .u | exact .i (by omega) | exact .v (by omega) | exact .b (by omega) | exact .w | rfl | omega)); first | done | fail) | omega | (show _ ≤ ((64 : Nat) : Int); omega)) : φ := h
theorem pv_Dk9 {φ : Prop} (h : φ := by constructor; (repeat exact cl_Dk9); first | done | fail) : φ := h
theorem su_Dk9 {φ ψ : Prop} (k : ψ) (h : Hide ψ → φ := by (intro k; (first | refine sl_pu (PuI.sep (by exact pv_Dk9)) rfl ?_ | refine sl_yes rfl rfl ?_ | refine sl_no rfl rfl rfl ?_ | refine sl_off rfl rfl rfl ?_ | (fail)); exact k.out)) : φ := h ⟨k⟩
theorem rq_Dk9 {φ ψ : Prop} (k : ψ) (h : Hide ψ → φ := by (intro k; (first | refine wq_pu (PuI.sep (by exact pv_Dk9)) rfl ?_ | refine wq_yes rfl rfl ?_ | refine wq_no rfl rfl rfl ?_ | refine wq_off rfl rfl rfl ?_ | (fail)); exact k.out)) : φ := h ⟨k⟩
theorem sto_Dk9 {φ ψ : Prop} (k : ψ) (h : Hide ψ → φ := by (intro k; (first | refine sl_store rfl (by exact pick_) rfl rfl (by kernel_rfl) (by exact set_Dk9) ?_ | refine sl_store_whole rfl (by exact pick_) rfl (by exact sz_Dk9) (by exact sz_Dk9) (by exact one_Dk9) ?_); exact k.out)) : φ := h ⟨k⟩
theorem go_Dk9 {φ ψ : Prop} (k : ψ) (h : Hide ψ → φ := by (intro k; (repeat (first | refine su_Dk9 ?_ | refine so_ ?_ | refine sto_Dk9 ?_)); exact k.out)) : φ := h ⟨k⟩
set_option maxRecDepth 100000 in
set_option maxHeartbeats 2000000 in
theorem copyD_ok {K : List Fa} {g m ck : Nat} {lim : Int} {fs : List DF} (hl : 0 ≤ lim ∧ lim ≤ 1048576) (hok : ∀ f ∈ fs, f.l.length ≤ 1048576) :
    Fn Try.prog 29 #[.pointer (some ⟨g, 0, none⟩)] (dB g m lim :: dM m fs ck :: dS fs :: K) (Ret (fun q : Cp => (q.fs.map DF.ab).Perm (fs.map DF.ab)) (fun q => .pointer (some ⟨q.g, 0, none⟩)) (fun q => dB q.g q.m lim :: dM q.m q.fs q.ck :: dS q.fs :: dB g m lim :: dM m fs ck :: dS fs :: K)) := by
  refine fn_know (mp_nodup (m := m) (ck := ck) (fs := fs) (by exact at_)) ?_
  rintro ⟨hnd, hks⟩
  refine fn_enter Try.func29 rfl _ Try.ntmps29 (by simp) [(0, .pointer (some ⟨g, 0, none⟩))] (args_of (by simp)) ?_
  refine go_Dk9 ?_
  refine sl_call rfl rfl (by kernel_rfl) rfl Sub.refl newD_ok ?_
  rintro ⟨g2, m2⟩ -
  dsimp only
  rw [show limL lim = lim by unfold limL; split <;> split at * <;> omega]
  refine go_Dk9 ?_
  refine sl_range (g := m) (es := fs.map DF.ent) rfl (by exact at_) rfl rfl ?_
  intro r
  refine go_Dk9 ?_
  refine sc_for (fun _ : Cq => [(3, .pointer (some ⟨g2, 0, none⟩)), (17, .pointer (some ⟨r, 0, none⟩))]) (fun p => dB g2 m2 lim :: dM m2 p.nf p.ck :: dS p.nf :: itr r m ck (p.us.map DF.ent) :: dB g m lim :: dM m fs ck :: dS fs :: K) (fun p => (p.us.Nodup ∧ ∀ u ∈ p.us, u ∈ fs) ∧ p.nf.map DF.ab = p.us.map DF.ab) (fun p => fs.length - p.us.length) ⟨[], [], 0⟩ (by exact has_) (by exact sub_) ⟨⟨List.nodup_nil, fun _ h => by cases h⟩, rfl⟩ ?_
  rintro ⟨us, nf, ck2⟩ ⟨⟨hun, hus⟩, hab⟩
  dsimp only at hun hus hab ⊢
  refine sc_seq ?_
  refine sc_region ?_
  refine sl_next (g := m) (es := fs.map DF.ent) rfl (by exact at_) (by exact pick_) (fun y hy => by obtain ⟨u, hu, rfl⟩ := List.mem_map.1 hy; exact List.mem_map_of_mem (hus u hu)) rfl (fun hall => ?_) (fun y hy hn => ?_)
  · have hp : us.Perm fs := (List.perm_ext_iff_of_nodup hun hnd).2 fun x => ⟨hus x, fun hx => by
      obtain ⟨u, hu, he⟩ := List.mem_map.1 (hall _ (List.mem_map_of_mem hx))
      rwa [← ent_inj hks (hus u hu) hx he]⟩
    refine go_Dk9 ?_
    exact se_ret1 ⟨g2, m2, nf, ck2⟩ (by show (nf.map DF.ab).Perm _; rw [hab]; exact hp.map _) rfl rfl (by exact sub_)
  · obtain ⟨f, hf, rfl⟩ := List.mem_map.1 hy
    have hfu : f ∉ us := fun h => hn (List.mem_map_of_mem h)
    have hnd' : (us ++ [f]).Nodup := List.nodup_append.2 ⟨hun, List.nodup_cons.2 ⟨by simp, List.nodup_nil⟩, fun a ha b hb e => by rw [List.mem_singleton] at hb; exact hfu (by rw [← hb, ← e]; exact ha)⟩
    have hsub : ∀ u ∈ us ++ [f], u ∈ fs := fun u h => by
      rcases List.mem_append.1 h with h | h
      · exact hus u h
      · rw [List.mem_singleton] at h
        rw [h]
        exact hf
    obtain ⟨z, hz⟩ := sub_split hnd' hnd hsub
    have hlen2 := hz.length_eq
    rw [List.length_append, List.length_append, List.length_singleton] at hlen2
    have hm : us.map DF.ent ++ [f.ent] = (us ++ [f]).map DF.ent := by simp
    have hno : ¬ DHas nf f.s := fun ⟨u, hu, he⟩ => by
      have h1 : u.ab ∈ us.map DF.ab := by rw [← hab]; exact List.mem_map_of_mem hu
      obtain ⟨v, hv, hvab⟩ := List.mem_map.1 h1
      have h2 : v.s = f.s := (congrArg Fi.s hvab).trans he
      exact hfu (by rw [← pw_one (f := DF.s) hks (hus v hv) hf h2]; exact hv)
    have hbig := hok f hf
    refine go_Dk9 ?_
    rw [hm]
    refine sl_alloc rfl rfl rfl ?_; intro g5
    refine go_Dk9 ?_
    refine sd_drawn (fun W => AllP W [blk g5 88 [.slice f.A f.l.length f.c, .int .i64 f.sy], dB g2 m2 lim]) (fun _ => true) (by kernel_rfl) 12 rfl ?_
    refine sd_yes2 0 rfl (by exact gd_) (by kernel_rfl) (by kernel_rfl) (by exact nop_) (PuI.all (by exact pv_Dk9)) rfl (fun w hw => all_ hw) ?_
    refine sd_yes2 1 rfl (by exact gd_) (by kernel_rfl) (by kernel_rfl) (by exact nop_) (PuI.all (by exact pv_Dk9)) rfl (fun w hw => all_ hw) ?_
    refine sd_yes2 2 rfl (by exact gd_) (by kernel_rfl) (by kernel_rfl) (by exact nop_) (PuI.all (by exact pv_Dk9)) rfl (fun w hw => all_ hw) ?_
    refine sd_yes2 3 rfl (by exact gd_) (by kernel_rfl) (by kernel_rfl) (by exact nop_) (PuI.all (by exact pv_Dk9)) rfl (fun w hw => all_ hw) ?_
    refine sd_yes2 4 rfl (by exact gd_) (by kernel_rfl) (by kernel_rfl) (by exact nop_) (PuI.all (by exact pv_Dk9)) rfl (fun w hw => all_ hw) ?_
    refine sd_yes2 5 rfl (by exact gd_) (by kernel_rfl) (by kernel_rfl) (by exact nop_) (PuI.all (by exact pv_Dk9)) rfl (fun w hw => all_ hw) ?_
    refine sd_yes2 6 rfl (by exact gd_) (by kernel_rfl) (by kernel_rfl) (by exact nop_) (PuI.all (by exact pv_Dk9)) rfl (fun w hw => all_ hw) ?_
    refine sd_yes2 8 rfl (by exact gd_) (by kernel_rfl) (by kernel_rfl) (by exact nop_) (PuI.all (by exact pv_Dk9)) rfl (fun w hw => all_ hw) ?_
    refine sd_yes2 9 rfl (by exact gd_) (by kernel_rfl) (by kernel_rfl) (by exact nop_) (PuI.all (by exact pv_Dk9)) rfl (fun w hw => all_ hw) ?_
    refine sd_one 7 (by kernel_rfl) (sa_sl 7 rfl ?_)
    refine sl_call rfl rfl (by kernel_rfl) rfl Sub.refl (clone_ok (ds_get (fs := fs) (f := f) (by exact at_) hf) (by omega)) ?_
    rintro ⟨A1, c1⟩ -
    refine sl_nil ?_
    refine se_sd (fun _ w hw => all_ hw) ?_
    refine sd_yes2 10 rfl (by exact gd_) (by kernel_rfl) (by kernel_rfl) (by exact nop_) (pu_build (v := .agg #[.slice A1 f.l.length c1, .int .i64 f.sy]) rfl (fun W => by kernel_rfl)) rfl (fun w hw => all_ hw) ?_
    refine sd_one 11 (by kernel_rfl) (sa_sl 11 rfl ?_)
    refine sl_dnew (fs := nf) (f' := ⟨f.s, A1, c1, f.l, f.sy, ck2⟩) rfl rfl rfl rfl rfl hno (by exact pick_) rfl rfl ?_
    refine sl_nil ?_
    refine se_sd (fun _ w hw => all_ hw) ?_
    refine sd_done (by kernel_rfl) ?_
    refine go_Dk9 ?_
    refine se_sub (L' := own 5 1 A1 f.l.length c1 (bytes f.l) :: dS nf :: dB g2 m2 lim :: dM m2 (nf ++ [⟨f.s, A1, c1, f.l, f.sy, ck2⟩]) (ck2 + 1) :: itr r m ck ((us ++ [f]).map DF.ent) :: dB g m lim :: dM m fs ck :: dS fs :: K) (by exact sub_) ?_
    refine se_ent (ds_add (s := f.s) (sy := f.sy) (bn := ck2) rfl) ?_
    refine se_round ⟨us ++ [f], nf ++ [⟨f.s, A1, c1, f.l, f.sy, ck2⟩], ck2 + 1⟩ (by exact has_) (by exact sub_) ⟨⟨hnd', hsub⟩, ?_⟩ (by simp only [List.length_append, List.length_singleton]; omega)
    show (nf ++ [_]).map DF.ab = (us ++ [f]).map DF.ab
    rw [List.map_append, List.map_append, hab]
    rfl
end Go.Proofs.Ytemhhhikopemmaa
