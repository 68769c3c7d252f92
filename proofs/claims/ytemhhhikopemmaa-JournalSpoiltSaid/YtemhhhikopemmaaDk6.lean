/- A disk: Append. -/
import Derived.Test.YtemhhhikopemmaaDk4
namespace Go.Proofs.Ytemhhhikopemmaa
open Go.RowKit Go.MapKept
attribute [local irreducible] Go.Calls Go.Exit.then Go.Exit.inBlock Go.bodyPost Go.Code.wp Go.wpList
theorem nth_Dk6 {φ : Prop} (h : φ := by (first | rfl | rfl)) : φ := h
theorem mid_Dk6 {φ : Prop} (h : φ := by (first | exact Mid.all | exact Mid.all | exact Mid.head)) : φ := h
theorem sz_Dk6 {φ : Prop} (h : φ := by (first | rfl | (rfl; first | done | fail))) : φ := h
theorem one_Dk6 {φ : Prop} (h : φ := by (first | assumption | exact first | exact one_bytes _ | exact ff_one | (simp only [List.mem_cons, List.not_mem_nil, or_false, forall_eq_or_imp, forall_eq]; decide) | exact one_bytes _)) : φ := h
theorem set_Dk6 {φ : Prop} (h : φ := by (first | (fail) | ((repeat (first | exact SetAt.here | apply SetAt.there)); first | done | fail))) : φ := h
theorem cl_Dk6 {φ : Prop} (h : φ := by first | rfl | exact .t | exact .f | exact .t (by omega) | exact .f (by omega) | exact .u | exact .i (by (first | exact .t (by omega) | exact .f (by omega) | exact .u | exact .i (by omega) | exact .v (by omega) | exact .b (by omega) | exact .w | rfl | omega)) | exact .v (by omega) | exact .b (by omega) | exact .q (by omega) | exact .w | exact .b (by exact at_) rfl (by exact nth_Dk6) | exact .w (by exact at_) rfl rfl (by exact sz_Dk6) | exact .s (by exact at_) (by exact mid_Dk6) rfl rfl (by exact sz_Dk6) | exact .z rfl rfl ⟨by kernel_rfl⟩ | exact .b rfl rfl ⟨by kernel_rfl⟩ | exact .a rfl rfl ⟨by kernel_rfl⟩ | exact .o rfl | exact .s | exact .n | exact .p rfl | exact .q rfl | exact .c rfl | exact .d rfl | exact .n rfl rfl (by omega) | exact .a rfl rfl (by omega) | exact .p rfl rfl (by omega) (by omega) | exact .y rfl rfl (by omega) (by omega) | exact .o (by exact at_) (by omega) rfl (by exact nth_Dk6) | exact .m (by exact at_) (by omega) (by exact mid_Dk6) rfl rfl (by exact sz_Dk6) | exact .mlen (by exact at_) rfl | exact .t (by exact at_) rfl rfl (by first | exact True.intro | rfl) (by assumption) | exact .f (by exact at_) rfl rfl (by first | exact True.intro | rfl) (by assumption) rfl | exact .t1 (by exact at_) rfl rfl (by first | exact True.intro | rfl) (by assumption) | exact .f1 (by exact at_) rfl rfl (by first | exact True.intro | rfl) (by assumption) rfl | exact .r rfl rfl (by omega) (by omega) (by exact nth_Dk6) rfl | exact .s rfl (by omega) (by assumption) | exact at_ | assumption | exact .r rfl rfl | exact .h rfl rfl rfl (by omega) | exact .l rfl rfl rfl (by omega) (by omega) | exact .g rfl rfl rfl rfl (by omega) (by omega) | exact .h rfl rfl (toN_ (by omega)) (by omega) | exact .l rfl rfl (toN_ (by omega)) (by omega) (by omega) | exact .g rfl rfl (toN_ (by omega)) (toN_ (by omega)) (by omega) (by omega) | exact .o (by decide) | exact .f (by decide) | exact .n (by omega) (by first | decide | (show _ ≤ ((64 : Nat) : Int); omega)) | (constructor; (repeat (first | exact .t (by omega) | exact .f (by omega) | exact .u | exact .i (by omega) | exact .v (by omega) | exact .b (by omega) | exact .w | rfl | omega)); first | done | fail) | omega | (show _ ≤ ((64 : Nat) : Int); omega)) : φ := h
theorem pv_Dk6 {φ : Prop} (h : φ := by constructor; (repeat exact cl_Dk6); first | done | fail) : φ := h
theorem su_Dk6 {φ ψ : Prop} (k : ψ) (h : Hide ψ → φ := by (intro k; (first | refine sl_pu (PuI.sep (by exact pv_Dk6)) rfl ?_ | refine sl_yes rfl rfl ?_ | refine sl_no rfl rfl rfl ?_ | refine sl_off rfl rfl rfl ?_); exact k.out)) : φ := h ⟨k⟩
theorem rq_Dk6 {φ ψ : Prop} (k : ψ) (h : Hide ψ → φ := by (intro k; (first | refine wq_pu (PuI.sep (by exact pv_Dk6)) rfl ?_ | refine wq_yes rfl rfl ?_ | refine wq_no rfl rfl rfl ?_ | refine wq_off rfl rfl rfl ?_); exact k.out)) : φ := h ⟨k⟩
theorem sto_Dk6 {φ ψ : Prop} (k : ψ) (h : Hide ψ → φ := by (intro k; (first | refine sl_store rfl (by exact pick_) rfl rfl (by kernel_rfl) (by exact set_Dk6) ?_ | refine sl_store_whole rfl (by exact pick_) rfl (by exact sz_Dk6) (by exact sz_Dk6) (by exact one_Dk6) ?_); exact k.out)) : φ := h ⟨k⟩
theorem go_Dk6 {φ ψ : Prop} (k : ψ) (h : Hide ψ → φ := by (intro k; (repeat (first | refine su_Dk6 ?_ | refine so_ ?_ | refine sto_Dk6 ?_)); exact k.out)) : φ := h ⟨k⟩
set_option maxRecDepth 100000 in
set_option maxHeartbeats 2000000 in
theorem appD_bad {K : List Fa} {g : Nat} {s : ByteArray} {v : Value} (hs : s.size ≤ 9223372036854775807) (hname : nameB s = false) :
    Fn Try.prog 19 #[.pointer (some ⟨g, 0, none⟩), .string s, v] K (Ret (fun _ : Unit => True) (fun _ => .int .i64 25) (fun _ => K)) := by
  refine fn_enter Try.func19 rfl _ Try.ntmps19 (by simp) [(0, .pointer (some ⟨g, 0, none⟩)), (1, .string s), (2, v)] (args_of (by simp)) ?_
  refine go_Dk6 ?_
  refine sl_call rfl rfl (by kernel_rfl) rfl Sub.refl (name_ok hs) ?_
  rintro _ -
  rw [hname]
  refine go_Dk6 ?_
  exact se_ret1 () trivial rfl rfl (by exact sub_)
set_option maxRecDepth 100000 in
set_option maxHeartbeats 2000000 in
theorem appD_many {K : List Fa} {g m ck : Nat} {lim : Int} {fs : List DF} {s : ByteArray} {v : Value} (hB : At (dB g m lim) K) (hM : At (dM m fs ck) K) (hs : s.size ≤ 9223372036854775807) (hname : nameB s = true) (hno : ¬ DHas fs s) (h64 : fs.length = 64) :
    Fn Try.prog 19 #[.pointer (some ⟨g, 0, none⟩), .string s, v] K (Ret (fun _ : Unit => True) (fun _ => .int .i64 5) (fun _ => K)) := by
  refine fn_enter Try.func19 rfl _ Try.ntmps19 (by simp) [(0, .pointer (some ⟨g, 0, none⟩)), (1, .string s), (2, v)] (args_of (by simp)) ?_
  have hml : (fs.map DF.ent).length = 64 := by rw [List.length_map]; exact h64
  refine go_Dk6 ?_
  refine sl_call rfl rfl (by kernel_rfl) rfl Sub.refl (name_ok hs) ?_
  rintro _ -
  rw [hname]
  refine go_Dk6 ?_
  refine sl_call rfl rfl (by kernel_rfl) rfl Sub.refl (has_no hB hM hno) ?_
  rintro _ -
  refine go_Dk6 ?_
  exact se_ret1 () trivial rfl rfl (by exact sub_)
set_option maxRecDepth 100000 in
set_option maxHeartbeats 2000000 in
theorem appD_full {K : List Fa} {g m ck : Nat} {lim : Int} {fs : List DF} {s : ByteArray} {B : Option Addr} {n cb : Nat} (hB : At (dB g m lim) K) (hM : At (dM m fs ck) K) (hs : s.size ≤ 9223372036854775807) (hname : nameB s = true) (hh : (∃ f ∈ fs, f.s = s) ∨ (¬ DHas fs s ∧ fs.length ≠ 64)) (hl : 0 ≤ lim ∧ lim ≤ 1048576) (hu : (usedN fs : Int) ≤ lim) (hn : n ≤ 9223372036854775807) (hfull : lim < (n : Int) + usedN fs) :
    Fn Try.prog 19 #[.pointer (some ⟨g, 0, none⟩), .string s, .slice B n cb] K (Ret (fun _ : Unit => True) (fun _ => .int .i64 18) (fun _ => K)) := by
  refine fn_enter Try.func19 rfl _ Try.ntmps19 (by simp) [(0, .pointer (some ⟨g, 0, none⟩)), (1, .string s), (2, .slice B n cb)] (args_of (by simp)) ?_
  have hml : (fs.map DF.ent).length = fs.length := List.length_map _
  refine go_Dk6 ?_
  refine sl_call rfl rfl (by kernel_rfl) rfl Sub.refl (name_ok hs) ?_
  rintro _ -
  rw [hname]
  refine go_Dk6 ?_
  rcases hh with ⟨f, hf, rfl⟩ | ⟨hno, h64⟩
  · refine sl_call rfl rfl (by kernel_rfl) rfl Sub.refl (has_yes hB hM hf) ?_
    rintro _ -
    refine go_Dk6 ?_
    refine sd_drawn (fun W => AllP W [dB g m lim]) (fun _ => true) (by kernel_rfl) 11 rfl ?_
    refine sd_yes2 0 rfl (by exact gd_) (by kernel_rfl) (by kernel_rfl) (by exact nop_) (PuI.all (by exact pv_Dk6)) rfl (fun w hw => all_ hw) ?_
    refine sd_yes2 1 rfl (by exact gd_) (by kernel_rfl) (by kernel_rfl) (by exact nop_) (PuI.all (by exact pv_Dk6)) rfl (fun w hw => all_ hw) ?_
    refine sd_yes2 2 rfl (by exact gd_) (by kernel_rfl) (by kernel_rfl) (by exact nop_) (PuI.all (by exact pv_Dk6)) rfl (fun w hw => all_ hw) ?_
    refine sd_yes2 3 rfl (by exact gd_) (by kernel_rfl) (by kernel_rfl) (by exact nop_) (PuI.all (by exact pv_Dk6)) rfl (fun w hw => all_ hw) ?_
    refine sd_yes2 4 rfl (by exact gd_) (by kernel_rfl) (by kernel_rfl) (by exact nop_) (PuI.all (by exact pv_Dk6)) rfl (fun w hw => all_ hw) ?_
    refine sd_yes2 5 rfl (by exact gd_) (by kernel_rfl) (by kernel_rfl) (by exact nop_) (PuI.all (by exact pv_Dk6)) rfl (fun w hw => all_ hw) ?_
    refine sd_yes2 6 rfl (by exact gd_) (by kernel_rfl) (by kernel_rfl) (by exact nop_) (PuI.all (by exact pv_Dk6)) rfl (fun w hw => all_ hw) ?_
    refine sd_one 7 (by kernel_rfl) (sa_sl 7 rfl ?_)
    refine sl_call rfl rfl (by kernel_rfl) rfl Sub.refl (used_ok hB hM (by omega)) ?_
    rintro _ -
    refine sl_nil ?_
    refine se_sd (fun _ w hw => all_ hw) ?_
    refine sd_yes2 8 rfl (by exact gd_) (by kernel_rfl) (by kernel_rfl) (by exact nop_) (PuI.all (by exact pv_Dk6)) rfl (fun w hw => all_ hw) ?_
    refine sd_yes2 9 rfl (by exact gd_) (by kernel_rfl) (by kernel_rfl) (by exact nop_) (PuI.all (by exact pv_Dk6)) rfl (fun w hw => all_ hw) ?_
    refine sd_yes2 10 rfl (by exact gd_) (by kernel_rfl) (by kernel_rfl) (by exact nop_) (PuI.all (by exact pv_Dk6)) rfl (fun w hw => all_ hw) ?_
    refine sd_done (by kernel_rfl) ?_
    refine go_Dk6 ?_
    exact se_ret1 () trivial rfl rfl (by exact sub_)
  · refine sl_call rfl rfl (by kernel_rfl) rfl Sub.refl (has_no hB hM hno) ?_
    rintro _ -
    refine go_Dk6 ?_
    refine sd_drawn (fun W => AllP W [dB g m lim]) (fun _ => true) (by kernel_rfl) 11 rfl ?_
    refine sd_yes2 0 rfl (by exact gd_) (by kernel_rfl) (by kernel_rfl) (by exact nop_) (PuI.all (by exact pv_Dk6)) rfl (fun w hw => all_ hw) ?_
    refine sd_yes2 1 rfl (by exact gd_) (by kernel_rfl) (by kernel_rfl) (by exact nop_) (PuI.all (by exact pv_Dk6)) rfl (fun w hw => all_ hw) ?_
    refine sd_yes2 2 rfl (by exact gd_) (by kernel_rfl) (by kernel_rfl) (by exact nop_) (PuI.all (by exact pv_Dk6)) rfl (fun w hw => all_ hw) ?_
    refine sd_yes2 3 rfl (by exact gd_) (by kernel_rfl) (by kernel_rfl) (by exact nop_) (PuI.all (by exact pv_Dk6)) rfl (fun w hw => all_ hw) ?_
    refine sd_yes2 4 rfl (by exact gd_) (by kernel_rfl) (by kernel_rfl) (by exact nop_) (PuI.all (by exact pv_Dk6)) rfl (fun w hw => all_ hw) ?_
    refine sd_yes2 5 rfl (by exact gd_) (by kernel_rfl) (by kernel_rfl) (by exact nop_) (PuI.all (by exact pv_Dk6)) rfl (fun w hw => all_ hw) ?_
    refine sd_yes2 6 rfl (by exact gd_) (by kernel_rfl) (by kernel_rfl) (by exact nop_) (PuI.all (by exact pv_Dk6)) rfl (fun w hw => all_ hw) ?_
    refine sd_one 7 (by kernel_rfl) (sa_sl 7 rfl ?_)
    refine sl_call rfl rfl (by kernel_rfl) rfl Sub.refl (used_ok hB hM (by omega)) ?_
    rintro _ -
    refine sl_nil ?_
    refine se_sd (fun _ w hw => all_ hw) ?_
    refine sd_yes2 8 rfl (by exact gd_) (by kernel_rfl) (by kernel_rfl) (by exact nop_) (PuI.all (by exact pv_Dk6)) rfl (fun w hw => all_ hw) ?_
    refine sd_yes2 9 rfl (by exact gd_) (by kernel_rfl) (by kernel_rfl) (by exact nop_) (PuI.all (by exact pv_Dk6)) rfl (fun w hw => all_ hw) ?_
    refine sd_yes2 10 rfl (by exact gd_) (by kernel_rfl) (by kernel_rfl) (by exact nop_) (PuI.all (by exact pv_Dk6)) rfl (fun w hw => all_ hw) ?_
    refine sd_done (by kernel_rfl) ?_
    refine go_Dk6 ?_
    exact se_ret1 () trivial rfl rfl (by exact sub_)
set_option maxRecDepth 100000 in
set_option maxHeartbeats 2000000 in
theorem appD_new {K : List Fa} {g m ck : Nat} {lim : Int} {fs : List DF} {s : ByteArray} {B : Option Addr} {cb : Nat} {b : List Int} (hs : s.size ≤ 9223372036854775807) (hname : nameB s = true) (hno : ¬ DHas fs s) (h64 : fs.length < 64) (hl : 0 ≤ lim ∧ lim ≤ 1048576) (hfit : (b.length : Int) + usedN fs ≤ lim) (hb : Vw (dB g m lim :: dM m fs ck :: dS fs :: K) (fun w => Reads w 1 B b.length (bytes b))) :
    Fn Try.prog 19 #[.pointer (some ⟨g, 0, none⟩), .string s, .slice B b.length cb] (dB g m lim :: dM m fs ck :: dS fs :: K) (Ret (fun _ : Option Addr × Nat => True) (fun _ => .int .i64 0) (fun q => dB g m lim :: dM m (fs ++ [⟨s, q.1, q.2, b, 0, ck⟩]) (ck + 1) :: dS (fs ++ [⟨s, q.1, q.2, b, 0, ck⟩]) :: K)) := by
  refine fn_enter Try.func19 rfl _ Try.ntmps19 (by simp) [(0, .pointer (some ⟨g, 0, none⟩)), (1, .string s), (2, .slice B b.length cb)] (args_of (by simp)) ?_
  have hml : (fs.map DF.ent).length = fs.length := List.length_map _
  have hg := dno hno
  refine go_Dk6 ?_
  refine sl_call rfl rfl (by kernel_rfl) rfl Sub.refl (name_ok hs) ?_
  rintro _ -
  rw [hname]
  refine go_Dk6 ?_
  refine sl_call rfl rfl (by kernel_rfl) rfl Sub.refl (has_no (by exact at_) (by exact at_) hno) ?_
  rintro _ -
  refine go_Dk6 ?_
  refine sd_drawn (fun W => AllP W [dB g m lim]) (fun _ => true) (by kernel_rfl) 11 rfl ?_
  refine sd_yes2 0 rfl (by exact gd_) (by kernel_rfl) (by kernel_rfl) (by exact nop_) (PuI.all (by exact pv_Dk6)) rfl (fun w hw => all_ hw) ?_
  refine sd_yes2 1 rfl (by exact gd_) (by kernel_rfl) (by kernel_rfl) (by exact nop_) (PuI.all (by exact pv_Dk6)) rfl (fun w hw => all_ hw) ?_
  refine sd_yes2 2 rfl (by exact gd_) (by kernel_rfl) (by kernel_rfl) (by exact nop_) (PuI.all (by exact pv_Dk6)) rfl (fun w hw => all_ hw) ?_
  refine sd_yes2 3 rfl (by exact gd_) (by kernel_rfl) (by kernel_rfl) (by exact nop_) (PuI.all (by exact pv_Dk6)) rfl (fun w hw => all_ hw) ?_
  refine sd_yes2 4 rfl (by exact gd_) (by kernel_rfl) (by kernel_rfl) (by exact nop_) (PuI.all (by exact pv_Dk6)) rfl (fun w hw => all_ hw) ?_
  refine sd_yes2 5 rfl (by exact gd_) (by kernel_rfl) (by kernel_rfl) (by exact nop_) (PuI.all (by exact pv_Dk6)) rfl (fun w hw => all_ hw) ?_
  refine sd_yes2 6 rfl (by exact gd_) (by kernel_rfl) (by kernel_rfl) (by exact nop_) (PuI.all (by exact pv_Dk6)) rfl (fun w hw => all_ hw) ?_
  refine sd_one 7 (by kernel_rfl) (sa_sl 7 rfl ?_)
  refine sl_call rfl rfl (by kernel_rfl) rfl Sub.refl (used_ok (by exact at_) (by exact at_) (by omega)) ?_
  rintro _ -
  refine sl_nil ?_
  refine se_sd (fun _ w hw => all_ hw) ?_
  refine sd_yes2 8 rfl (by exact gd_) (by kernel_rfl) (by kernel_rfl) (by exact nop_) (PuI.all (by exact pv_Dk6)) rfl (fun w hw => all_ hw) ?_
  refine sd_yes2 9 rfl (by exact gd_) (by kernel_rfl) (by kernel_rfl) (by exact nop_) (PuI.all (by exact pv_Dk6)) rfl (fun w hw => all_ hw) ?_
  refine sd_yes2 10 rfl (by exact gd_) (by kernel_rfl) (by kernel_rfl) (by exact nop_) (PuI.all (by exact pv_Dk6)) rfl (fun w hw => all_ hw) ?_
  refine sd_done (by kernel_rfl) ?_
  refine go_Dk6 ?_
  refine sl_alloc rfl rfl rfl ?_; intro g7
  refine go_Dk6 ?_
  refine sl_call rfl rfl (by kernel_rfl) rfl Sub.refl (clone_ok (A := none) (n := 0) (bs := []) (fun w _ => Reads.nil_ _) (by decide)) ?_
  rintro ⟨A1, c1⟩ -
  refine go_Dk6 ?_
  refine sl_app (A := A1) (k := 0) (c := c1) rfl (by exact pick_) rfl (hb.mono (by exact sub_)) (one_bytes _) rfl Try.info5 (by decide) (by decide) rfl (by unfold maxLen; omega) (by omega) ?_
  intro A2 c2
  rw [← bytes_app, List.nil_append, Nat.zero_add]
  refine go_Dk6 ?_
  refine sd_drawn (fun W => AllP W [blk g7 88 [.slice A2 b.length c2, .int .i64 0], dB g m lim]) (fun _ => true) (by kernel_rfl) 7 rfl ?_
  refine sd_yes2 0 rfl (by exact gd_) (by kernel_rfl) (by kernel_rfl) (by exact nop_) (PuI.all (by exact pv_Dk6)) rfl (fun w hw => all_ hw) ?_
  refine sd_yes2 1 rfl (by exact gd_) (by kernel_rfl) (by kernel_rfl) (by exact nop_) (PuI.all (by exact pv_Dk6)) rfl (fun w hw => all_ hw) ?_
  refine sd_yes2 2 rfl (by exact gd_) (by kernel_rfl) (by kernel_rfl) (by exact nop_) (PuI.all (by exact pv_Dk6)) rfl (fun w hw => all_ hw) ?_
  refine sd_yes2 3 rfl (by exact gd_) (by kernel_rfl) (by kernel_rfl) (by exact nop_) (PuI.all (by exact pv_Dk6)) rfl (fun w hw => all_ hw) ?_
  refine sd_yes2 4 rfl (by exact gd_) (by kernel_rfl) (by kernel_rfl) (by exact nop_) (PuI.all (by exact pv_Dk6)) rfl (fun w hw => all_ hw) ?_
  refine sd_yes2 5 rfl (by exact gd_) (by kernel_rfl) (by kernel_rfl) (by exact nop_) (PuI.all (by exact pv_Dk6)) rfl (fun w hw => all_ hw) ?_
  refine sd_one 6 (by kernel_rfl) (sa_sl 6 rfl ?_)
  refine sl_dnew (fs := fs) (f' := ⟨s, A2, c2, b, 0, ck⟩) rfl rfl rfl rfl rfl hno (by exact pick_) rfl rfl ?_
  refine sl_nil ?_
  refine se_sd (fun _ w hw => all_ hw) ?_
  refine sd_done (by kernel_rfl) ?_
  refine go_Dk6 ?_
  refine se_sub (L' := own 5 1 A2 b.length c2 (bytes b) :: dS fs :: dB g m lim :: dM m (fs ++ [⟨s, A2, c2, b, 0, ck⟩]) (ck + 1) :: K) (by exact sub_) ?_
  refine se_ent (ds_add (s := s) (sy := 0) (bn := ck) rfl) ?_
  exact se_ret1 (A2, c2) trivial rfl rfl (by exact sub_)
set_option maxRecDepth 100000 in
set_option maxHeartbeats 2000000 in
theorem appD_yes {K : List Fa} {g m ck : Nat} {lim : Int} {X Y : List DF} {f : DF} {B : Option Addr} {cb : Nat} {b : List Int} (hs : f.s.size ≤ 9223372036854775807) (hname : nameB f.s = true) (hl : 0 ≤ lim ∧ lim ≤ 1048576) (hfit : (b.length : Int) + usedN (X ++ f :: Y) ≤ lim) (hb : Vw (dB g m lim :: dM m (X ++ f :: Y) ck :: dS (X ++ f :: Y) :: K) (fun w => Reads w 1 B b.length (bytes b))) :
    Fn Try.prog 19 #[.pointer (some ⟨g, 0, none⟩), .string f.s, .slice B b.length cb] (dB g m lim :: dM m (X ++ f :: Y) ck :: dS (X ++ f :: Y) :: K) (Ret (fun _ : Option Addr × Nat => True) (fun _ => .int .i64 0) (fun q => dB g m lim :: dM m (X ++ ⟨f.s, q.1, q.2, f.l ++ b, f.sy, f.bn⟩ :: Y) ck :: dS (X ++ ⟨f.s, q.1, q.2, f.l ++ b, f.sy, f.bn⟩ :: Y) :: K)) := by
  refine fn_enter Try.func19 rfl _ Try.ntmps19 (by simp) [(0, .pointer (some ⟨g, 0, none⟩)), (1, .string f.s), (2, .slice B b.length cb)] (args_of (by simp)) ?_
  have hg := dget (mid_mem (X := X) (Y := Y) (f := f))
  unfold DF.val at hg
  have hle := used_le (mid_mem (X := X) (Y := Y) (f := f))
  refine go_Dk6 ?_
  refine sl_call rfl rfl (by kernel_rfl) rfl Sub.refl (name_ok hs) ?_
  rintro _ -
  rw [hname]
  refine go_Dk6 ?_
  refine sl_call rfl rfl (by kernel_rfl) rfl Sub.refl (has_yes (by exact at_) (by exact at_) mid_mem) ?_
  rintro _ -
  refine go_Dk6 ?_
  refine sd_drawn (fun W => AllP W [dB g m lim]) (fun _ => true) (by kernel_rfl) 11 rfl ?_
  refine sd_yes2 0 rfl (by exact gd_) (by kernel_rfl) (by kernel_rfl) (by exact nop_) (PuI.all (by exact pv_Dk6)) rfl (fun w hw => all_ hw) ?_
  refine sd_yes2 1 rfl (by exact gd_) (by kernel_rfl) (by kernel_rfl) (by exact nop_) (PuI.all (by exact pv_Dk6)) rfl (fun w hw => all_ hw) ?_
  refine sd_yes2 2 rfl (by exact gd_) (by kernel_rfl) (by kernel_rfl) (by exact nop_) (PuI.all (by exact pv_Dk6)) rfl (fun w hw => all_ hw) ?_
  refine sd_yes2 3 rfl (by exact gd_) (by kernel_rfl) (by kernel_rfl) (by exact nop_) (PuI.all (by exact pv_Dk6)) rfl (fun w hw => all_ hw) ?_
  refine sd_yes2 4 rfl (by exact gd_) (by kernel_rfl) (by kernel_rfl) (by exact nop_) (PuI.all (by exact pv_Dk6)) rfl (fun w hw => all_ hw) ?_
  refine sd_yes2 5 rfl (by exact gd_) (by kernel_rfl) (by kernel_rfl) (by exact nop_) (PuI.all (by exact pv_Dk6)) rfl (fun w hw => all_ hw) ?_
  refine sd_yes2 6 rfl (by exact gd_) (by kernel_rfl) (by kernel_rfl) (by exact nop_) (PuI.all (by exact pv_Dk6)) rfl (fun w hw => all_ hw) ?_
  refine sd_one 7 (by kernel_rfl) (sa_sl 7 rfl ?_)
  refine sl_call rfl rfl (by kernel_rfl) rfl Sub.refl (used_ok (by exact at_) (by exact at_) (by omega)) ?_
  rintro _ -
  refine sl_nil ?_
  refine se_sd (fun _ w hw => all_ hw) ?_
  refine sd_yes2 8 rfl (by exact gd_) (by kernel_rfl) (by kernel_rfl) (by exact nop_) (PuI.all (by exact pv_Dk6)) rfl (fun w hw => all_ hw) ?_
  refine sd_yes2 9 rfl (by exact gd_) (by kernel_rfl) (by kernel_rfl) (by exact nop_) (PuI.all (by exact pv_Dk6)) rfl (fun w hw => all_ hw) ?_
  refine sd_yes2 10 rfl (by exact gd_) (by kernel_rfl) (by kernel_rfl) (by exact nop_) (PuI.all (by exact pv_Dk6)) rfl (fun w hw => all_ hw) ?_
  refine sd_done (by kernel_rfl) ?_
  refine go_Dk6 ?_
  refine sl_alloc rfl rfl rfl ?_; intro g7
  refine go_Dk6 ?_
  refine sl_call rfl rfl (by kernel_rfl) rfl Sub.refl (clone_ok (ds_get (fs := X ++ f :: Y) (f := f) (by exact at_) mid_mem) (by omega)) ?_
  rintro ⟨A1, c1⟩ -
  refine go_Dk6 ?_
  refine sl_app (A := A1) (k := f.l.length) (c := c1) rfl (by exact pick_) rfl (hb.mono (by exact sub_)) (one_bytes _) rfl Try.info5 (by decide) (by decide) rfl (by unfold maxLen; omega) (by omega) ?_
  intro A2 c2
  rw [← bytes_app, ← List.length_append]
  refine go_Dk6 ?_
  refine sd_drawn (fun W => AllP W [blk g7 88 [.slice A2 (f.l ++ b).length c2, .int .i64 f.sy], dB g m lim]) (fun _ => true) (by kernel_rfl) 7 rfl ?_
  refine sd_yes2 0 rfl (by exact gd_) (by kernel_rfl) (by kernel_rfl) (by exact nop_) (PuI.all (by exact pv_Dk6)) rfl (fun w hw => all_ hw) ?_
  refine sd_yes2 1 rfl (by exact gd_) (by kernel_rfl) (by kernel_rfl) (by exact nop_) (PuI.all (by exact pv_Dk6)) rfl (fun w hw => all_ hw) ?_
  refine sd_yes2 2 rfl (by exact gd_) (by kernel_rfl) (by kernel_rfl) (by exact nop_) (PuI.all (by exact pv_Dk6)) rfl (fun w hw => all_ hw) ?_
  refine sd_yes2 3 rfl (by exact gd_) (by kernel_rfl) (by kernel_rfl) (by exact nop_) (PuI.all (by exact pv_Dk6)) rfl (fun w hw => all_ hw) ?_
  refine sd_yes2 4 rfl (by exact gd_) (by kernel_rfl) (by kernel_rfl) (by exact nop_) (PuI.all (by exact pv_Dk6)) rfl (fun w hw => all_ hw) ?_
  refine sd_yes2 5 rfl (by exact gd_) (by kernel_rfl) (by kernel_rfl) (by exact nop_) (PuI.all (by exact pv_Dk6)) rfl (fun w hw => all_ hw) ?_
  refine sd_one 6 (by kernel_rfl) (sa_sl 6 rfl ?_)
  refine sl_dput (f := f) (f' := ⟨f.s, A2, c2, f.l ++ b, f.sy, f.bn⟩) rfl rfl rfl rfl rfl (by exact pick_) rfl rfl ?_
  refine sl_nil ?_
  refine se_sd (fun _ w hw => all_ hw) ?_
  refine sd_done (by kernel_rfl) ?_
  refine go_Dk6 ?_
  refine se_sub (L' := own 5 1 A2 (f.l ++ b).length c2 (bytes (f.l ++ b)) :: dS (X ++ f :: Y) :: dB g m lim :: dM m (X ++ ⟨f.s, A2, c2, f.l ++ b, f.sy, f.bn⟩ :: Y) ck :: K) (by exact sub_) ?_
  refine se_ent (ds_put (s := f.s) (sy := f.sy) (bn := f.bn) rfl) ?_
  exact se_ret1 (A2, c2) trivial rfl rfl (by exact sub_)
end Go.Proofs.Ytemhhhikopemmaa
