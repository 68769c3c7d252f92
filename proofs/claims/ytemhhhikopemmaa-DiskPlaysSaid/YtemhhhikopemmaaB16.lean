/- Several texts of one claim, one behind the other (Dq, Dqa, Dqb, Dqc). -/
import Derived.Test.YtemhhhikopemmaaB14
import Derived.Test.YtemhhhikopemmaaB15
/- DiskPlays: the disk's answers that were still wanting; a round's state. -/
namespace Go.Proofs.Ytemhhhikopemmaa
open Go.RowKit Go.MapKept
attribute [local irreducible] Go.Calls Go.Exit.then Go.Exit.inBlock Go.bodyPost Go.Code.wp Go.wpList
/-- A round's state. -/
structure Dr where
  i : Nat
  R : Option Addr
  cR : Nat
  n : Nat
  ms : List MF
  fs : List DF
  ck : Nat
  G : Fa
abbrev mR (R : Option Addr) (n cR : Nat) (ms : List MF) : Fa := own 65 3 R n cR (rows MF.C ms)
theorem mFileInfo : (Try.prog.info? 65).map (fun i => (i.zero, i.size, i.bytes)) = some (some (.agg #[.string ⟨#[]⟩, .slice none 0 0, .int .i64 0]), 3, 48) := by kernel_rfl
def wantOf (a : Int) : Int := if a < 0 then 19 else 0
theorem bne_str {a b : ByteArray} (h : a ≠ b) : (a.toList == b.toList) = false := by
  rw [Bool.eq_false_iff]
  intro e
  rw [beq_iff_eq, ByteArray.toList_eq, ByteArray.toList_eq] at e
  exact h (data_inj e)
theorem MF.set1 {f : MF} {A : Option Addr} {c m : Nat} {l : List Int} (hl : l.length = m) : f.C.set 1 (.slice A m c) = (MF.mk f.s A c l f.sy).C := by
  subst hl
  rfl
theorem MF.set2 {f : MF} {k : Nat} {v : Int} (h : v = k) : f.C.set 2 (.int .i64 v) = (MF.mk f.s f.A f.c f.l k).C := by
  subst h
  rfl
theorem nth_Dq {φ : Prop} (h : φ := by (first | rfl | first | assumption | exact rows_nth MF.len (by assumption) rfl)) : φ := h
theorem mid_Dq {φ : Prop} (h : φ := by (first | first | exact rows_mid MF.len (by assumption) | exact rows_mid Ac.len (by assumption) | exact Mid.all | exact Mid.head)) : φ := h
theorem sz_Dq {φ : Prop} (h : φ := by (first | rfl | (rfl; first | done | fail))) : φ := h
theorem one_Dq {φ : Prop} (h : φ := by (first | assumption | exact first | exact one_bytes _ | exact ff_one | exact MF.one _ | exact Ac.one _ | (simp only [List.mem_cons, List.not_mem_nil, or_false, forall_eq_or_imp, forall_eq]; decide) | exact one_bytes _)) : φ := h
theorem set_Dq {φ : Prop} (h : φ := by (first | (fail) | ((repeat (first | exact SetAt.here | apply SetAt.there)); first | done | fail))) : φ := h
theorem cl_Dq {φ : Prop} (h : φ := by first | rfl | exact .t | exact .f | exact .t (by omega) | exact .f (by omega) | exact .u | exact .i (by (first | exact .t (by omega) | exact .f (by omega) | exact .u | exact .i (by omega) | exact .v (by omega) | exact .b (by omega) | exact .w | rfl | omega)) | exact .v (by omega) | exact .b (by omega) | exact .q (by omega) | exact .w | exact .b (by exact at_) rfl (by exact nth_Dq) | exact .w (by exact at_) rfl rfl (by exact sz_Dq) | exact .s (by exact at_) (by exact mid_Dq) rfl rfl (by exact sz_Dq) | exact .z rfl rfl ⟨by kernel_rfl⟩ | exact .b rfl rfl ⟨by kernel_rfl⟩ | exact .a rfl rfl ⟨by kernel_rfl⟩ | exact .o rfl | exact .s | exact .n | exact .p rfl | exact .q rfl | exact .c rfl | exact .d rfl | exact .n rfl rfl (by omega) | exact .a rfl rfl (by omega) | exact .p rfl rfl (by omega) (by omega) | exact .y rfl rfl (by omega) (by omega) | exact .o (by exact at_) (by omega) rfl (by exact nth_Dq) | exact .m (by exact at_) (by omega) (by exact mid_Dq) rfl rfl (by exact sz_Dq) | exact .mlen (by exact at_) rfl | exact .t (by exact at_) rfl rfl (by first | exact True.intro | rfl) (by assumption) | exact .f (by exact at_) rfl rfl (by first | exact True.intro | rfl) (by assumption) rfl | exact .t1 (by exact at_) rfl rfl (by first | exact True.intro | rfl) (by assumption) | exact .f1 (by exact at_) rfl rfl (by first | exact True.intro | rfl) (by assumption) rfl | exact .r rfl rfl (by omega) (by omega) (by exact nth_Dq) rfl | exact .s rfl (by omega) (by assumption) | exact at_ | assumption | exact .r rfl rfl | exact .h rfl rfl rfl (by omega) | exact .l rfl rfl rfl (by omega) (by omega) | exact .g rfl rfl rfl rfl (by omega) (by omega) | exact .h rfl rfl (toN_ (by omega)) (by omega) | exact .l rfl rfl (toN_ (by omega)) (by omega) (by omega) | exact .g rfl rfl (toN_ (by omega)) (toN_ (by omega)) (by omega) (by omega) | exact .o (by decide) | exact .f (by decide) | exact .n (by omega) (by first | decide | (show _ ≤ ((64 : Nat) : Int); omega)) | (constructor; (repeat (first | exact .t (by omega) | exact .f (by omega) | exact .u | exact .i (by omega) | exact .v (by omega) | exact .b (by omega) | exact .w | rfl | omega)); first | done | fail) | omega | (show _ ≤ ((64 : Nat) : Int); omega)) : φ := h
theorem pv_Dq {φ : Prop} (h : φ := by constructor; (repeat exact cl_Dq); first | done | fail) : φ := h
theorem su_Dq {φ ψ : Prop} (k : ψ) (h : Hide ψ → φ := by (intro k; (first | refine sl_pu (PuI.sep (by exact pv_Dq)) rfl ?_ | refine sl_yes rfl rfl ?_ | refine sl_no rfl rfl rfl ?_ | refine sl_off rfl rfl rfl ?_ | (first | refine sl_pu (pu_ldo (by exact at_) (by omega) rfl (at2 _ _ _) rfl (by exact nth_Dq)) rfl ?_ | refine sl_pu (pu_ldo (by exact at_) (by omega) rfl (at1 _ _) rfl (by exact nth_Dq)) rfl ?_)); exact k.out)) : φ := h ⟨k⟩
theorem rq_Dq {φ ψ : Prop} (k : ψ) (h : Hide ψ → φ := by (intro k; (first | refine wq_pu (PuI.sep (by exact pv_Dq)) rfl ?_ | refine wq_yes rfl rfl ?_ | refine wq_no rfl rfl rfl ?_ | refine wq_off rfl rfl rfl ?_ | (first | refine wq_pu (pu_ldo (by exact at_) (by omega) rfl (at2 _ _ _) rfl (by exact nth_Dq)) rfl ?_ | refine wq_pu (pu_ldo (by exact at_) (by omega) rfl (at1 _ _) rfl (by exact nth_Dq)) rfl ?_)); exact k.out)) : φ := h ⟨k⟩
theorem sto_Dq {φ ψ : Prop} (k : ψ) (h : Hide ψ → φ := by (intro k; (first | refine sl_store rfl (by exact pick_) rfl rfl (by kernel_rfl) (by exact set_Dq) ?_ | refine sl_store_whole rfl (by exact pick_) rfl (by exact sz_Dq) (by exact sz_Dq) (by exact one_Dq) ?_); exact k.out)) : φ := h ⟨k⟩
theorem go_Dq {φ ψ : Prop} (k : ψ) (h : Hide ψ → φ := by (intro k; (repeat (first | refine su_Dq ?_ | refine so_ ?_ | refine sto_Dq ?_)); exact k.out)) : φ := h ⟨k⟩
set_option maxRecDepth 100000 in
set_option maxHeartbeats 2000000 in
theorem syncD_no {K : List Fa} {g m ck : Nat} {lim : Int} {fs : List DF} {s : ByteArray} (hB : At (dB g m lim) K) (hM : At (dM m fs ck) K) (hf : ¬ DHas fs s) :
    Fn Try.prog 20 #[.pointer (some ⟨g, 0, none⟩), .string s] K (Ret (fun _ : Unit => True) (fun _ => .int .i64 19) (fun _ => K)) := by
  refine fn_enter Try.func20 rfl _ Try.ntmps20 (by simp) [(0, .pointer (some ⟨g, 0, none⟩)), (1, .string s)] (args_of (by simp)) ?_
  refine go_Dq ?_
  refine sl_call rfl rfl (by kernel_rfl) rfl Sub.refl (has_no hB hM hf) ?_
  rintro _ -
  refine go_Dq ?_
  exact se_ret1 () trivial rfl rfl (by exact sub_)
set_option maxRecDepth 100000 in
set_option maxHeartbeats 2000000 in
theorem cutD_no {K : List Fa} {g m ck : Nat} {lim k : Int} {fs : List DF} {s : ByteArray} (hB : At (dB g m lim) K) (hM : At (dM m fs ck) K) (hf : ¬ DHas fs s) :
    Fn Try.prog 33 #[.pointer (some ⟨g, 0, none⟩), .string s, .int .i64 k] K (Ret (fun _ : Unit => True) (fun _ => .int .i64 19) (fun _ => K)) := by
  refine fn_enter Try.func33 rfl _ Try.ntmps33 (by simp) [(0, .pointer (some ⟨g, 0, none⟩)), (1, .string s), (2, .int .i64 k)] (args_of (by simp)) ?_
  refine go_Dq ?_
  refine sl_call rfl rfl (by kernel_rfl) rfl Sub.refl (has_no hB hM hf) ?_
  rintro _ -
  refine go_Dq ?_
  exact se_ret1 () trivial rfl rfl (by exact sub_)
set_option maxRecDepth 100000 in
set_option maxHeartbeats 2000000 in
theorem turnD_no {K : List Fa} {g m ck : Nat} {lim k : Int} {fs : List DF} {s : ByteArray} (hB : At (dB g m lim) K) (hM : At (dM m fs ck) K) (hf : ¬ DHas fs s) :
    Fn Try.prog 21 #[.pointer (some ⟨g, 0, none⟩), .string s, .int .i64 k] K (Ret (fun _ : Unit => True) (fun _ => .int .i64 19) (fun _ => K)) := by
  refine fn_enter Try.func21 rfl _ Try.ntmps21 (by simp) [(0, .pointer (some ⟨g, 0, none⟩)), (1, .string s), (2, .int .i64 k)] (args_of (by simp)) ?_
  refine go_Dq ?_
  refine sl_call rfl rfl (by kernel_rfl) rfl Sub.refl (has_no hB hM hf) ?_
  rintro _ -
  refine go_Dq ?_
  exact se_ret1 () trivial rfl rfl (by exact sub_)
set_option maxRecDepth 100000 in
set_option maxHeartbeats 2000000 in
theorem cutD_range {K : List Fa} {g m ck : Nat} {lim k : Int} {fs : List DF} {f : DF} (hB : At (dB g m lim) K) (hM : At (dM m fs ck) K) (hf : f ∈ fs) (hk : k < 0 ∨ (f.l.length : Int) < k) (hn : f.l.length ≤ 1048576) :
    Fn Try.prog 33 #[.pointer (some ⟨g, 0, none⟩), .string f.s, .int .i64 k] K (Ret (fun _ : Unit => True) (fun _ => .int .i64 6) (fun _ => K)) := by
  refine fn_enter Try.func33 rfl _ Try.ntmps33 (by simp) [(0, .pointer (some ⟨g, 0, none⟩)), (1, .string f.s), (2, .int .i64 k)] (args_of (by simp)) ?_
  have hg := dget hf
  unfold DF.val at hg
  refine go_Dq ?_
  refine sl_call rfl rfl (by kernel_rfl) rfl Sub.refl (has_yes hB hM hf) ?_
  rintro _ -
  refine go_Dq ?_
  refine sl_alloc rfl rfl rfl ?_; intro g5
  by_cases h0 : k < 0
  · refine go_Dq ?_
    exact se_ret1 () trivial rfl rfl (by exact sub_)
  · have h1 : (f.l.length : Int) < k := by omega
    refine go_Dq ?_
    exact se_ret1 () trivial rfl rfl (by exact sub_)
/-- What is known at a call. -/
structure DxOk (w : World) (lim : Int) (i n : Nat) (ms : List MF) (fs : List DF) (G : Fa) (a : Ac) (s : ByteArray) (p x : Int) : Prop where
  hl1 : 0 ≤ lim ∧ lim ≤ 1048576
  hnm : n = ms.length
  hmi : n ≤ i
  hi60 : i ≤ 60
  hM : MOk w lim G ms fs
  ha : a.ok w
  hl2 : a.l.length ≤ 200
  hs40 : s.size ≤ 40
  hat : AtN ms s p
  hx : -9223372036854775808 ≤ x ∧ x ≤ 9223372036854775807
abbrev eX (g : Nat) (lim : Int) (R : Option Addr) (n cR g9 : Nat) (s : ByteArray) (p : Int) (u : Nat) (x : Int) (Q : Option Addr) (ql cq i : Nat) : Env := [(5, .pointer (some ⟨g, 0, none⟩)), (6, .int .i64 lim), (7, .slice R n cR), (9, .pointer (some ⟨g9, 0, none⟩)), (10, .string s), (11, .int .i64 p), (12, .int .i64 u), (15, .int .i64 x), (16, .int .i64 0), (17, .int .i64 (wantOf p)), (35, .slice Q ql cq), (36, .int .i64 ql), (37, .int .i64 i)]
abbrev hX (w : World) (g m : Nat) (lim : Int) (fs : List DF) (ck : Nat) (R : Option Addr) (n cR : Nat) (ms : List MF) (G : Fa) (g9 : Nat) (a : Ac) : List Fa := [dB g m lim, dM m fs ck, dS fs, mR R n cR ms, G, blk g9 63 a.C, old w]
abbrev eY (g : Nat) (lim : Int) (Q : Option Addr) (ql cq i : Nat) : Dr × Int → Env := fun q => [(5, .pointer (some ⟨g, 0, none⟩)), (6, .int .i64 lim), (7, .slice q.1.R q.1.n q.1.cR), (16, .int .i64 q.2), (17, .int .i64 q.2), (35, .slice Q ql cq), (36, .int .i64 ql), (37, .int .i64 i)]
abbrev hY (w : World) (g m : Nat) (lim : Int) : Dr × Int → List Fa := fun q => dB g m lim :: dM m q.1.fs q.1.ck :: dS q.1.fs :: mR q.1.R q.1.n q.1.cR q.1.ms :: q.1.G :: [old w]
def rY (w : World) (lim : Int) (i : Nat) : Dr × Int → Prop := fun q => q.1.n = q.1.ms.length ∧ q.1.n ≤ i + 1 ∧ MOk w lim q.1.G q.1.ms q.1.fs
end Go.Proofs.Ytemhhhikopemmaa
/- DiskPlays: a call of Sync. -/
namespace Go.Proofs.Ytemhhhikopemmaa
open Go.RowKit Go.MapKept
attribute [local irreducible] Go.Calls Go.Exit.then Go.Exit.inBlock Go.bodyPost Go.Code.wp Go.wpList
theorem nth_Dqa {φ : Prop} (h : φ := by (first | rfl | first | assumption | exact rows_nth MF.len (by assumption) rfl)) : φ := h
theorem mid_Dqa {φ : Prop} (h : φ := by (first | first | exact rows_mid MF.len (by assumption) | exact rows_mid Ac.len (by assumption) | exact Mid.all | exact Mid.head)) : φ := h
theorem sz_Dqa {φ : Prop} (h : φ := by (first | rfl | (rfl; first | done | fail))) : φ := h
theorem one_Dqa {φ : Prop} (h : φ := by (first | assumption | exact first | exact one_bytes _ | exact ff_one | exact MF.one _ | exact Ac.one _ | (simp only [List.mem_cons, List.not_mem_nil, or_false, forall_eq_or_imp, forall_eq]; decide) | exact one_bytes _)) : φ := h
theorem set_Dqa {φ : Prop} (h : φ := by (first | (fail) | ((repeat (first | exact SetAt.here | apply SetAt.there)); first | done | fail))) : φ := h
theorem cl_Dqa {φ : Prop} (h : φ := by first | rfl | exact .t | exact .f | exact .t (by omega) | exact .f (by omega) | exact .u | exact .i (by (first | exact .t (by omega) | exact .f (by omega) | exact .u | exact .i (by omega) | exact .v (by omega) | exact .b (by omega) | exact .w | rfl | omega)) | exact .v (by omega) | exact .b (by omega) | exact .q (by omega) | exact .w | exact .b (by exact at_) rfl (by exact nth_Dqa) | exact .w (by exact at_) rfl rfl (by exact sz_Dqa) | exact .s (by exact at_) (by exact mid_Dqa) rfl rfl (by exact sz_Dqa) | exact .z rfl rfl ⟨by kernel_rfl⟩ | exact .b rfl rfl ⟨by kernel_rfl⟩ | exact .a rfl rfl ⟨by kernel_rfl⟩ | exact .o rfl | exact .s | exact .n | exact .p rfl | exact .q rfl | exact .c rfl | exact .d rfl | exact .n rfl rfl (by omega) | exact .a rfl rfl (by omega) | exact .p rfl rfl (by omega) (by omega) | exact .y rfl rfl (by omega) (by omega) | exact .o (by exact at_) (by omega) rfl (by exact nth_Dqa) | exact .m (by exact at_) (by omega) (by exact mid_Dqa) rfl rfl (by exact sz_Dqa) | exact .mlen (by exact at_) rfl | exact .t (by exact at_) rfl rfl (by first | exact True.intro | rfl) (by assumption) | exact .f (by exact at_) rfl rfl (by first | exact True.intro | rfl) (by assumption) rfl | exact .t1 (by exact at_) rfl rfl (by first | exact True.intro | rfl) (by assumption) | exact .f1 (by exact at_) rfl rfl (by first | exact True.intro | rfl) (by assumption) rfl | exact .r rfl rfl (by omega) (by omega) (by exact nth_Dqa) rfl | exact .s rfl (by omega) (by assumption) | exact at_ | assumption | exact .r rfl rfl | exact .h rfl rfl rfl (by omega) | exact .l rfl rfl rfl (by omega) (by omega) | exact .g rfl rfl rfl rfl (by omega) (by omega) | exact .h rfl rfl (toN_ (by omega)) (by omega) | exact .l rfl rfl (toN_ (by omega)) (by omega) (by omega) | exact .g rfl rfl (toN_ (by omega)) (toN_ (by omega)) (by omega) (by omega) | exact .o (by decide) | exact .f (by decide) | exact .n (by omega) (by first | decide | (show _ ≤ ((64 : Nat) : Int); omega)) | (constructor; (repeat (first | exact .t (by omega) | exact .f (by omega) | exact .u | exact .i (by omega) | exact .v (by omega) | exact .b (by omega) | exact .w | rfl | omega)); first | done | fail) | omega | (show _ ≤ ((64 : Nat) : Int); omega)) : φ := h
theorem pv_Dqa {φ : Prop} (h : φ := by constructor; (repeat exact cl_Dqa); first | done | fail) : φ := h
theorem su_Dqa {φ ψ : Prop} (k : ψ) (h : Hide ψ → φ := by (intro k; (first | refine sl_pu (PuI.sep (by exact pv_Dqa)) rfl ?_ | refine sl_yes rfl rfl ?_ | refine sl_no rfl rfl rfl ?_ | refine sl_off rfl rfl rfl ?_ | (first | refine sl_pu (pu_ldo (by exact at_) (by omega) rfl (at2 _ _ _) rfl (by exact nth_Dqa)) rfl ?_ | refine sl_pu (pu_ldo (by exact at_) (by omega) rfl (at1 _ _) rfl (by exact nth_Dqa)) rfl ?_)); exact k.out)) : φ := h ⟨k⟩
theorem rq_Dqa {φ ψ : Prop} (k : ψ) (h : Hide ψ → φ := by (intro k; (first | refine wq_pu (PuI.sep (by exact pv_Dqa)) rfl ?_ | refine wq_yes rfl rfl ?_ | refine wq_no rfl rfl rfl ?_ | refine wq_off rfl rfl rfl ?_ | (first | refine wq_pu (pu_ldo (by exact at_) (by omega) rfl (at2 _ _ _) rfl (by exact nth_Dqa)) rfl ?_ | refine wq_pu (pu_ldo (by exact at_) (by omega) rfl (at1 _ _) rfl (by exact nth_Dqa)) rfl ?_)); exact k.out)) : φ := h ⟨k⟩
theorem sto_Dqa {φ ψ : Prop} (k : ψ) (h : Hide ψ → φ := by (intro k; (first | refine sl_store rfl (by exact pick_) rfl rfl (by kernel_rfl) (by exact set_Dqa) ?_ | refine sl_store_whole rfl (by exact pick_) rfl (by exact sz_Dqa) (by exact sz_Dqa) (by exact one_Dqa) ?_); exact k.out)) : φ := h ⟨k⟩
theorem go_Dqa {φ ψ : Prop} (k : ψ) (h : Hide ψ → φ := by (intro k; (repeat (first | refine su_Dqa ?_ | refine so_ ?_ | refine sto_Dqa ?_)); exact k.out)) : φ := h ⟨k⟩
set_option maxRecDepth 100000 in
set_option maxHeartbeats 8000000 in
theorem pSync {w : World} {lim : Int} {g m i n cR ck g9 ql cq : Nat} {R QA : Option Addr} {ms : List MF} {fs : List DF} {G : Fa} {a : Ac} {s : ByteArray} {p x : Int} (hd : DxOk w lim i n ms fs G a s p x) {Q' : Exit → Act → World → Prop} (hN : NoP Q') (hend : Ends 421 Q' .normal (eY g lim QA ql cq i) (hY w g m lim) (rY w lim i)) :
    SC Try.prog (cAt [false, false, false, false, false, true, false, true, true, false, false, true, true, false, false, false, false, false, false, false, false, false, false, true, false, true, false, true] (fb Try.f8)) Q' 421 (eX g lim R n cR g9 s p (usedM ms) x QA ql cq i) (hX w g m lim fs ck R n cR ms G g9 a) := by
  obtain ⟨hl1, hnm, hmi, hi60, hM, ha, hl2, hs40, hat, hx⟩ := hd
  have hu1 := hM.us
  have huN := hM.used
  have hfl := hM.len
  rcases hat with ⟨rfl, hno⟩ | ⟨j, f, rfl, hj, rfl⟩
  · have hnd := hM.no hno
    refine go_Dqa ?_
    refine sl_call rfl rfl (by kernel_rfl) rfl Sub.refl (syncD_no (by exact at_) (by exact at_) hnd) ?_
    rintro _ -
    refine go_Dqa ?_
    exact hend (⟨⟨i, R, cR, n, ms, fs, ck, G⟩, 19⟩ : Dr × Int) ⟨hnm, by show n ≤ i + 1; omega, hM⟩ (by exact has_) (by exact sub_)
  · obtain ⟨X, A0, c0, bn, Y, rfl, hX⟩ := hM.split hj
    have hjl : j < n := by
      obtain ⟨h1, -⟩ := List.getElem?_eq_some_iff.1 hj
      omega
    refine sc_form (e := 65) (size := 3) (A := R) (m := n) (by exact at_) (by omega) ?_
    rintro gR rfl
    refine go_Dqa ?_
    refine sl_call rfl rfl (by kernel_rfl) rfl Sub.refl (syncD_ok (f := ⟨f.s, A0, c0, f.l, f.sy, bn⟩)) ?_
    rintro _ -
    rw [← ds_sy (k := f.l.length)]
    refine go_Dqa ?_
    refine sl_sto2 rfl (at2 _ _ _) (by exact pick_) rfl rfl (by kernel_rfl) (by omega) ?_
    rw [rows_set MF.len hj (MF.set2 rfl) (by decide)]
    refine go_Dqa ?_
    have hfm := List.mem_of_getElem? hj
    exact hend (⟨⟨i, some ⟨gR, 0, none⟩, cR, n, ms.set j ⟨f.s, f.A, f.c, f.l, f.l.length⟩, X ++ ⟨f.s, A0, c0, f.l, f.l.length, bn⟩ :: Y, ck, G⟩, 0⟩ : Dr × Int) ⟨by show n = (ms.set j _).length; rw [List.length_set]; exact hnm, by show n ≤ i + 1; omega, hM.put hj hX rfl (fun _ h => h) (Nat.le_refl _) (hM.c f hfm) (hM.by' f hfm) (hM.vw f hfm) (by show _ + (f.l.length : Int) ≤ _; omega)⟩ (by exact has_) (by exact sub_)end Go.Proofs.Ytemhhhikopemmaa
/- DiskPlays: a call of Cut. -/
namespace Go.Proofs.Ytemhhhikopemmaa
open Go.RowKit Go.MapKept
attribute [local irreducible] Go.Calls Go.Exit.then Go.Exit.inBlock Go.bodyPost Go.Code.wp Go.wpList
theorem nth_Dqb {φ : Prop} (h : φ := by (first | rfl | first | assumption | exact rows_nth MF.len (by assumption) rfl)) : φ := h
theorem mid_Dqb {φ : Prop} (h : φ := by (first | first | exact rows_mid MF.len (by assumption) | exact rows_mid Ac.len (by assumption) | exact Mid.all | exact Mid.head)) : φ := h
theorem sz_Dqb {φ : Prop} (h : φ := by (first | rfl | (rfl; first | done | fail))) : φ := h
theorem one_Dqb {φ : Prop} (h : φ := by (first | assumption | exact first | exact one_bytes _ | exact ff_one | exact MF.one _ | exact Ac.one _ | (simp only [List.mem_cons, List.not_mem_nil, or_false, forall_eq_or_imp, forall_eq]; decide) | exact one_bytes _)) : φ := h
theorem set_Dqb {φ : Prop} (h : φ := by (first | (fail) | ((repeat (first | exact SetAt.here | apply SetAt.there)); first | done | fail))) : φ := h
theorem cl_Dqb {φ : Prop} (h : φ := by first | rfl | exact .t | exact .f | exact .t (by omega) | exact .f (by omega) | exact .u | exact .i (by (first | exact .t (by omega) | exact .f (by omega) | exact .u | exact .i (by omega) | exact .v (by omega) | exact .b (by omega) | exact .w | rfl | omega)) | exact .v (by omega) | exact .b (by omega) | exact .q (by omega) | exact .w | exact .b (by exact at_) rfl (by exact nth_Dqb) | exact .w (by exact at_) rfl rfl (by exact sz_Dqb) | exact .s (by exact at_) (by exact mid_Dqb) rfl rfl (by exact sz_Dqb) | exact .z rfl rfl ⟨by kernel_rfl⟩ | exact .b rfl rfl ⟨by kernel_rfl⟩ | exact .a rfl rfl ⟨by kernel_rfl⟩ | exact .o rfl | exact .s | exact .n | exact .p rfl | exact .q rfl | exact .c rfl | exact .d rfl | exact .n rfl rfl (by omega) | exact .a rfl rfl (by omega) | exact .p rfl rfl (by omega) (by omega) | exact .y rfl rfl (by omega) (by omega) | exact .o (by exact at_) (by omega) rfl (by exact nth_Dqb) | exact .m (by exact at_) (by omega) (by exact mid_Dqb) rfl rfl (by exact sz_Dqb) | exact .mlen (by exact at_) rfl | exact .t (by exact at_) rfl rfl (by first | exact True.intro | rfl) (by assumption) | exact .f (by exact at_) rfl rfl (by first | exact True.intro | rfl) (by assumption) rfl | exact .t1 (by exact at_) rfl rfl (by first | exact True.intro | rfl) (by assumption) | exact .f1 (by exact at_) rfl rfl (by first | exact True.intro | rfl) (by assumption) rfl | exact .r rfl rfl (by omega) (by omega) (by exact nth_Dqb) rfl | exact .s rfl (by omega) (by assumption) | exact at_ | assumption | exact .r rfl rfl | exact .h rfl rfl rfl (by omega) | exact .l rfl rfl rfl (by omega) (by omega) | exact .g rfl rfl rfl rfl (by omega) (by omega) | exact .h rfl rfl (toN_ (by omega)) (by omega) | exact .l rfl rfl (toN_ (by omega)) (by omega) (by omega) | exact .g rfl rfl (toN_ (by omega)) (toN_ (by omega)) (by omega) (by omega) | exact .o (by decide) | exact .f (by decide) | exact .n (by omega) (by first | decide | (show _ ≤ ((64 : Nat) : Int); omega)) | (constructor; (repeat (first | exact .t (by omega) | exact .f (by omega) | exact .u | exact .i (by omega) | exact .v (by omega) | exact .b (by omega) | exact .w | rfl | omega)); first | done | fail) | omega | (show _ ≤ ((64 : Nat) : Int); omega)) : φ := h
theorem pv_Dqb {φ : Prop} (h : φ := by constructor; (repeat exact cl_Dqb); first | done | fail) : φ := h
theorem su_Dqb {φ ψ : Prop} (k : ψ) (h : Hide ψ → φ := by (intro k; (first | refine sl_pu (PuI.sep (by exact pv_Dqb)) rfl ?_ | refine sl_yes rfl rfl ?_ | refine sl_no rfl rfl rfl ?_ | refine sl_off rfl rfl rfl ?_ | (first | refine sl_pu (pu_ldo (by exact at_) (by omega) rfl (at2 _ _ _) rfl (by exact nth_Dqb)) rfl ?_ | refine sl_pu (pu_ldo (by exact at_) (by omega) rfl (at1 _ _) rfl (by exact nth_Dqb)) rfl ?_)); exact k.out)) : φ := h ⟨k⟩
theorem rq_Dqb {φ ψ : Prop} (k : ψ) (h : Hide ψ → φ := by (intro k; (first | refine wq_pu (PuI.sep (by exact pv_Dqb)) rfl ?_ | refine wq_yes rfl rfl ?_ | refine wq_no rfl rfl rfl ?_ | refine wq_off rfl rfl rfl ?_ | (first | refine wq_pu (pu_ldo (by exact at_) (by omega) rfl (at2 _ _ _) rfl (by exact nth_Dqb)) rfl ?_ | refine wq_pu (pu_ldo (by exact at_) (by omega) rfl (at1 _ _) rfl (by exact nth_Dqb)) rfl ?_)); exact k.out)) : φ := h ⟨k⟩
theorem sto_Dqb {φ ψ : Prop} (k : ψ) (h : Hide ψ → φ := by (intro k; (first | refine sl_store rfl (by exact pick_) rfl rfl (by kernel_rfl) (by exact set_Dqb) ?_ | refine sl_store_whole rfl (by exact pick_) rfl (by exact sz_Dqb) (by exact sz_Dqb) (by exact one_Dqb) ?_); exact k.out)) : φ := h ⟨k⟩
theorem go_Dqb {φ ψ : Prop} (k : ψ) (h : Hide ψ → φ := by (intro k; (repeat (first | refine su_Dqb ?_ | refine so_ ?_ | refine sto_Dqb ?_)); exact k.out)) : φ := h ⟨k⟩
set_option maxRecDepth 100000 in
set_option maxHeartbeats 8000000 in
theorem pCut {w : World} {lim : Int} {g m i n cR ck g9 ql cq : Nat} {R QA : Option Addr} {ms : List MF} {fs : List DF} {G : Fa} {a : Ac} {s : ByteArray} {p x : Int} (hd : DxOk w lim i n ms fs G a s p x) {Q' : Exit → Act → World → Prop} (hN : NoP Q') (hend : Ends 421 Q' .normal (eY g lim QA ql cq i) (hY w g m lim) (rY w lim i)) :
    SC Try.prog (cAt [false, false, false, false, false, true, false, true, true, false, false, true, true, false, false, false, false, false, false, false, false, false, false, true, false, true, false, false, false, true] (fb Try.f8)) Q' 421 (eX g lim R n cR g9 s p (usedM ms) x QA ql cq i) (hX w g m lim fs ck R n cR ms G g9 a) := by
  obtain ⟨hl1, hnm, hmi, hi60, hM, ha, hl2, hs40, hat, hx⟩ := hd
  have hu1 := hM.us
  have huN := hM.used
  have hfl := hM.len
  rcases hat with ⟨rfl, hno⟩ | ⟨j, f, rfl, hj, rfl⟩
  · have hnd := hM.no hno
    refine go_Dqb ?_
    refine sl_call rfl rfl (by kernel_rfl) rfl Sub.refl (cutD_no (by exact at_) (by exact at_) hnd) ?_
    rintro _ -
    refine go_Dqb ?_
    exact hend (⟨⟨i, R, cR, n, ms, fs, ck, G⟩, 19⟩ : Dr × Int) ⟨hnm, by show n ≤ i + 1; omega, hM⟩ (by exact has_) (by exact sub_)
  · obtain ⟨X, A0, c0, bn, Y, rfl, hX⟩ := hM.split hj
    have hjl : j < n := by
      obtain ⟨h1, -⟩ := List.getElem?_eq_some_iff.1 hj
      omega
    have hfm := List.mem_of_getElem? hj
    have hfu := usedM_le hfm
    have hfc := hM.c f hfm
    have hfs := hM.sy f hfm
    refine sc_form (e := 65) (size := 3) (A := R) (m := n) (by exact at_) (by omega) ?_
    rintro gR rfl
    by_cases hr : x < 0 ∨ (f.l.length : Int) < x
    · by_cases hx0 : x < 0
      · refine go_Dqb ?_
        refine sl_call rfl rfl (by kernel_rfl) rfl Sub.refl (cutD_range (f := ⟨f.s, A0, c0, f.l, f.sy, bn⟩) (by exact at_) (by exact at_) mid_mem hr (by show f.l.length ≤ _; omega)) ?_
        rintro _ -
        refine go_Dqb ?_
        exact hend (⟨⟨i, some ⟨gR, 0, none⟩, cR, n, ms, X ++ ⟨f.s, A0, c0, f.l, f.sy, bn⟩ :: Y, ck, G⟩, 6⟩ : Dr × Int) ⟨hnm, by show n ≤ i + 1; omega, hM⟩ (by exact has_) (by exact sub_)
      · have hx1 : (f.l.length : Int) < x := by omega
        refine go_Dqb ?_
        refine sl_call rfl rfl (by kernel_rfl) rfl Sub.refl (cutD_range (f := ⟨f.s, A0, c0, f.l, f.sy, bn⟩) (by exact at_) (by exact at_) mid_mem hr (by show f.l.length ≤ _; omega)) ?_
        rintro _ -
        refine go_Dqb ?_
        exact hend (⟨⟨i, some ⟨gR, 0, none⟩, cR, n, ms, X ++ ⟨f.s, A0, c0, f.l, f.sy, bn⟩ :: Y, ck, G⟩, 6⟩ : Dr × Int) ⟨hnm, by show n ≤ i + 1; omega, hM⟩ (by exact has_) (by exact sub_)
    · obtain ⟨y, rfl⟩ : ∃ y : Nat, x = y := ⟨x.toNat, by omega⟩
      have hyl : y ≤ f.l.length := by omega
      clear hr hx
      refine go_Dqb ?_
      refine sl_call rfl rfl (by kernel_rfl) rfl Sub.refl (cutD_ok (f := ⟨f.s, A0, c0, f.l, f.sy, bn⟩) (k := (y : Int)) (by show 0 ≤ (y : Int) ∧ (y : Int) ≤ (f.l.length : Int); omega) (by show f.l.length ≤ _; omega) hfs) ?_
      rintro q ⟨q1, q2, q3⟩
      rw [Int.toNat_natCast] at q2 q3
      dsimp only at q1 q2 q3
      refine go_Dqb ?_
      have htl : (f.l.take y).length = y := by rw [List.length_take]; omega
      have hfin := fun {l : Env} {L : List Fa} => hend (l := l) (L := L) (⟨⟨i, some ⟨gR, 0, none⟩, cR, n, ms.set j ⟨f.s, f.A, y, f.l.take y, min f.sy y⟩, X ++ q :: Y, ck, G⟩, 0⟩ : Dr × Int) ⟨by show n = (ms.set j _).length; rw [List.length_set]; exact hnm, by show n ≤ i + 1; omega, hM.put hj hX (by show Fi.mk q.s q.l q.sy = _; rw [q1, q2, q3]; rfl) (fun _ h => h) (by show min f.sy y ≤ (f.l.take y).length; omega) (by show (f.l.take y).length ≤ y; omega) (fun u hu => hM.by' f hfm u (List.mem_of_mem_take hu)) (fun w' hw' => by
        have h1 := (hM.vw f hfm w' hw').take (k := y) hyl
        rw [bytes_take] at h1
        show Reads w' 1 f.A (f.l.take y).length (bytes (f.l.take y))
        rw [htl]
        exact h1) (by show _ + ((f.l.take y).length : Int) ≤ _; omega)⟩
      refine sd_drawn (fun W => AllP W []) (fun _ => true) (by kernel_rfl) 25 rfl ?_
      refine sd_yes2 0 rfl (by exact gd_) (by kernel_rfl) (by kernel_rfl) (by first | assumption | exact nop_) (PuI.all (by exact pv_Dqb)) rfl (fun w hw => all_ hw) ?_
      refine sd_yes2 1 rfl (by exact gd_) (by kernel_rfl) (by kernel_rfl) (by first | assumption | exact nop_) (PuI.all (by exact pv_Dqb)) rfl (fun w hw => all_ hw) ?_
      refine sd_yes2 2 rfl (by exact gd_) (by kernel_rfl) (by kernel_rfl) (by first | assumption | exact nop_) (PuI.all (by exact pv_Dqb)) rfl (fun w hw => all_ hw) ?_
      refine sd_yes2 3 rfl (by exact gd_) (by kernel_rfl) (by kernel_rfl) (by first | assumption | exact nop_) (PuI.all (by exact pv_Dqb)) rfl (fun w hw => all_ hw) ?_
      refine sd_yes2 4 rfl (by exact gd_) (by kernel_rfl) (by kernel_rfl) (by first | assumption | exact nop_) (PuI.all (by exact pv_Dqb)) rfl (fun w hw => all_ hw) ?_
      refine sd_yes2 5 rfl (by exact gd_) (by kernel_rfl) (by kernel_rfl) (by first | assumption | exact nop_) (PuI.all (by exact pv_Dqb)) rfl (fun w hw => all_ hw) ?_
      refine sd_yes2 6 rfl (by exact gd_) (by kernel_rfl) (by kernel_rfl) (by first | assumption | exact nop_) (PuI.all (by exact pv_Dqb)) rfl (fun w hw => all_ hw) ?_
      refine sd_yes2 7 rfl (by exact gd_) (by kernel_rfl) (by kernel_rfl) (by first | assumption | exact nop_) (PuI.all (by exact pv_Dqb)) rfl (fun w hw => all_ hw) ?_
      refine sd_yes2 9 rfl (by exact gd_) (by kernel_rfl) (by kernel_rfl) (by first | assumption | exact nop_) (PuI.all (by exact pv_Dqb)) rfl (fun w hw => all_ hw) ?_
      refine sd_yes2 10 rfl (by exact gd_) (by kernel_rfl) (by kernel_rfl) (by first | assumption | exact nop_) (PuI.all (by exact pv_Dqb)) rfl (fun w hw => all_ hw) ?_
      refine sd_yes2 12 rfl (by exact gd_) (by kernel_rfl) (by kernel_rfl) (by first | assumption | exact nop_) (PuI.all (by exact pv_Dqb)) rfl (fun w hw => all_ hw) ?_
      refine sd_yes2 13 rfl (by exact gd_) (by kernel_rfl) (by kernel_rfl) (by first | assumption | exact nop_) (PuI.all (by exact pv_Dqb)) rfl (fun w hw => all_ hw) ?_
      refine sd_yes2 14 rfl (by exact gd_) (by kernel_rfl) (by kernel_rfl) (by first | assumption | exact nop_) (PuI.all (by exact pv_Dqb)) rfl (fun w hw => all_ hw) ?_
      refine sd_yes2 15 rfl (by exact gd_) (by kernel_rfl) (by kernel_rfl) (by first | assumption | exact nop_) (PuI.all (by exact pv_Dqb)) rfl (fun w hw => all_ hw) ?_
      refine sd_yes2 17 rfl (by exact gd_) (by kernel_rfl) (by kernel_rfl) (by first | assumption | exact nop_) (PuI.all (by exact pv_Dqb)) rfl (fun w hw => all_ hw) ?_
      refine sd_two 8 16 (by kernel_rfl) (sa_sl 8 rfl ?_) (sa_sl 16 rfl ?_)
      · repeat refine su_Dqb ?_
        refine sl_nil ?_
        refine se_sd (fun _ w hw => all_ hw) ?_
        refine sd_yes2 11 rfl (by exact gd_) (by kernel_rfl) (by kernel_rfl) (by first | assumption | exact nop_) (PuI.all (by exact pv_Dqb)) rfl (fun w hw => all_ hw) ?_
        refine sd_one 16 (by kernel_rfl) (sa_sl 16 rfl ?_)
        repeat refine su_Dqb ?_
        refine sl_nil ?_
        refine se_sd (fun _ w hw => all_ hw) ?_
        refine sd_yes2 18 rfl (by exact gd_) (by kernel_rfl) (by kernel_rfl) (by first | assumption | exact nop_) (PuI.all (by exact pv_Dqb)) rfl (fun w hw => all_ hw) ?_
        refine sd_yes2 19 rfl (by exact gd_) (by kernel_rfl) (by kernel_rfl) (by first | assumption | exact nop_) (PuI.all (by exact pv_Dqb)) rfl (fun w hw => all_ hw) ?_
        refine sd_yes2 20 rfl (by exact gd_) (by kernel_rfl) (by kernel_rfl) (by first | assumption | exact nop_) (PuI.all (by exact pv_Dqb)) rfl (fun w hw => all_ hw) ?_
        refine sd_one 21 (by kernel_rfl) (sa_sl 21 rfl ?_)
        refine sl_sto2 rfl (at2 _ _ _) (by exact pick_) rfl rfl (by kernel_rfl) (by omega) ?_
        rw [rows_set MF.len hj (MF.set1 (l := f.l.take y) (by rw [List.length_take]; omega)) (by decide)]
        refine sl_nil ?_
        refine se_sd (fun _ w hw => all_ hw) ?_
        refine sd_yes2 22 rfl (by exact gd_) (by kernel_rfl) (by kernel_rfl) (by first | assumption | exact nop_) (PuI.all (by exact pv_Dqb)) rfl (fun w hw => all_ hw) ?_
        refine sd_yes2 23 rfl (by exact gd_) (by kernel_rfl) (by kernel_rfl) (by first | assumption | exact nop_) (PuI.all (by exact pv_Dqb)) rfl (fun w hw => all_ hw) ?_
        refine sd_one 24 (by kernel_rfl) (sa_sl 24 rfl ?_)
        refine sl_sto2 rfl (at2 _ _ _) (by exact pick_) rfl rfl (by kernel_rfl) (by omega) ?_
        rw [rows_set (j := j) MF.len (by rw [List.getElem?_set_self (by omega)]) (MF.set2 (k := min f.sy y) (by omega)) (by decide), List.set_set]
        refine sl_nil ?_
        refine se_sd (fun _ w hw => all_ hw) ?_
        refine sd_done (by kernel_rfl) ?_
        refine go_Dqb ?_
        exact hfin (by exact has_) (by exact sub_)
      · repeat refine su_Dqb ?_
        refine sl_nil ?_
        refine se_sd (fun _ w hw => all_ hw) ?_
        refine sd_yes2 18 rfl (by exact gd_) (by kernel_rfl) (by kernel_rfl) (by first | assumption | exact nop_) (PuI.all (by exact pv_Dqb)) rfl (fun w hw => all_ hw) ?_
        refine sd_one 8 (by kernel_rfl) (sa_sl 8 rfl ?_)
        repeat refine su_Dqb ?_
        refine sl_nil ?_
        refine se_sd (fun _ w hw => all_ hw) ?_
        refine sd_yes2 11 rfl (by exact gd_) (by kernel_rfl) (by kernel_rfl) (by first | assumption | exact nop_) (PuI.all (by exact pv_Dqb)) rfl (fun w hw => all_ hw) ?_
        refine sd_yes2 19 rfl (by exact gd_) (by kernel_rfl) (by kernel_rfl) (by first | assumption | exact nop_) (PuI.all (by exact pv_Dqb)) rfl (fun w hw => all_ hw) ?_
        refine sd_yes2 20 rfl (by exact gd_) (by kernel_rfl) (by kernel_rfl) (by first | assumption | exact nop_) (PuI.all (by exact pv_Dqb)) rfl (fun w hw => all_ hw) ?_
        refine sd_one 21 (by kernel_rfl) (sa_sl 21 rfl ?_)
        refine sl_sto2 rfl (at2 _ _ _) (by exact pick_) rfl rfl (by kernel_rfl) (by omega) ?_
        rw [rows_set MF.len hj (MF.set1 (l := f.l.take y) (by rw [List.length_take]; omega)) (by decide)]
        refine sl_nil ?_
        refine se_sd (fun _ w hw => all_ hw) ?_
        refine sd_yes2 22 rfl (by exact gd_) (by kernel_rfl) (by kernel_rfl) (by first | assumption | exact nop_) (PuI.all (by exact pv_Dqb)) rfl (fun w hw => all_ hw) ?_
        refine sd_yes2 23 rfl (by exact gd_) (by kernel_rfl) (by kernel_rfl) (by first | assumption | exact nop_) (PuI.all (by exact pv_Dqb)) rfl (fun w hw => all_ hw) ?_
        refine sd_one 24 (by kernel_rfl) (sa_sl 24 rfl ?_)
        refine sl_sto2 rfl (at2 _ _ _) (by exact pick_) rfl rfl (by kernel_rfl) (by omega) ?_
        rw [rows_set (j := j) MF.len (by rw [List.getElem?_set_self (by omega)]) (MF.set2 (k := min f.sy y) (by omega)) (by decide), List.set_set]
        refine sl_nil ?_
        refine se_sd (fun _ w hw => all_ hw) ?_
        refine sd_done (by kernel_rfl) ?_
        refine go_Dqb ?_
        exact hfin (by exact has_) (by exact sub_)
end Go.Proofs.Ytemhhhikopemmaa
/- DiskPlays: a call of Read. -/
namespace Go.Proofs.Ytemhhhikopemmaa
open Go.RowKit Go.MapKept
attribute [local irreducible] Go.Calls Go.Exit.then Go.Exit.inBlock Go.bodyPost Go.Code.wp Go.wpList
theorem nth_Dqc {φ : Prop} (h : φ := by (first | rfl | first | assumption | exact rows_nth MF.len (by assumption) rfl)) : φ := h
theorem mid_Dqc {φ : Prop} (h : φ := by (first | first | exact rows_mid MF.len (by assumption) | exact rows_mid Ac.len (by assumption) | exact Mid.all | exact Mid.head)) : φ := h
theorem sz_Dqc {φ : Prop} (h : φ := by (first | rfl | (rfl; first | done | fail))) : φ := h
theorem one_Dqc {φ : Prop} (h : φ := by (first | assumption | exact first | exact one_bytes _ | exact ff_one | exact MF.one _ | exact Ac.one _ | (simp only [List.mem_cons, List.not_mem_nil, or_false, forall_eq_or_imp, forall_eq]; decide) | exact one_bytes _)) : φ := h
theorem set_Dqc {φ : Prop} (h : φ := by (first | (fail) | ((repeat (first | exact SetAt.here | apply SetAt.there)); first | done | fail))) : φ := h
theorem cl_Dqc {φ : Prop} (h : φ := by first | rfl | exact .t | exact .f | exact .t (by omega) | exact .f (by omega) | exact .u | exact .i (by (first | exact .t (by omega) | exact .f (by omega) | exact .u | exact .i (by omega) | exact .v (by omega) | exact .b (by omega) | exact .w | rfl | omega)) | exact .v (by omega) | exact .b (by omega) | exact .q (by omega) | exact .w | exact .b (by exact at_) rfl (by exact nth_Dqc) | exact .w (by exact at_) rfl rfl (by exact sz_Dqc) | exact .s (by exact at_) (by exact mid_Dqc) rfl rfl (by exact sz_Dqc) | exact .z rfl rfl ⟨by kernel_rfl⟩ | exact .b rfl rfl ⟨by kernel_rfl⟩ | exact .a rfl rfl ⟨by kernel_rfl⟩ | exact .o rfl | exact .s | exact .n | exact .p rfl | exact .q rfl | exact .c rfl | exact .d rfl | exact .n rfl rfl (by omega) | exact .a rfl rfl (by omega) | exact .p rfl rfl (by omega) (by omega) | exact .y rfl rfl (by omega) (by omega) | exact .o (by exact at_) (by omega) rfl (by exact nth_Dqc) | exact .m (by exact at_) (by omega) (by exact mid_Dqc) rfl rfl (by exact sz_Dqc) | exact .mlen (by exact at_) rfl | exact .t (by exact at_) rfl rfl (by first | exact True.intro | rfl) (by assumption) | exact .f (by exact at_) rfl rfl (by first | exact True.intro | rfl) (by assumption) rfl | exact .t1 (by exact at_) rfl rfl (by first | exact True.intro | rfl) (by assumption) | exact .f1 (by exact at_) rfl rfl (by first | exact True.intro | rfl) (by assumption) rfl | exact .r rfl rfl (by omega) (by omega) (by exact nth_Dqc) rfl | exact .s rfl (by omega) (by assumption) | exact at_ | assumption | exact .r rfl rfl | exact .h rfl rfl rfl (by omega) | exact .l rfl rfl rfl (by omega) (by omega) | exact .g rfl rfl rfl rfl (by omega) (by omega) | exact .h rfl rfl (toN_ (by omega)) (by omega) | exact .l rfl rfl (toN_ (by omega)) (by omega) (by omega) | exact .g rfl rfl (toN_ (by omega)) (toN_ (by omega)) (by omega) (by omega) | exact .o (by decide) | exact .f (by decide) | exact .n (by omega) (by first | decide | (show _ ≤ ((64 : Nat) : Int); omega)) | (constructor; (repeat (first | exact .t (by omega) | exact .f (by omega) | exact .u | exact .i (by omega) | exact .v (by omega) | exact .b (by omega) | exact .w | rfl | omega)); first | done | fail) | omega | (show _ ≤ ((64 : Nat) : Int); omega)) : φ := h
theorem pv_Dqc {φ : Prop} (h : φ := by constructor; (repeat exact cl_Dqc); first | done | fail) : φ := h
theorem su_Dqc {φ ψ : Prop} (k : ψ) (h : Hide ψ → φ := by (intro k; (first | refine sl_pu (PuI.sep (by exact pv_Dqc)) rfl ?_ | refine sl_yes rfl rfl ?_ | refine sl_no rfl rfl rfl ?_ | refine sl_off rfl rfl rfl ?_ | (first | refine sl_pu (pu_ldo (by exact at_) (by omega) rfl (at2 _ _ _) rfl (by exact nth_Dqc)) rfl ?_ | refine sl_pu (pu_ldo (by exact at_) (by omega) rfl (at1 _ _) rfl (by exact nth_Dqc)) rfl ?_)); exact k.out)) : φ := h ⟨k⟩
theorem rq_Dqc {φ ψ : Prop} (k : ψ) (h : Hide ψ → φ := by (intro k; (first | refine wq_pu (PuI.sep (by exact pv_Dqc)) rfl ?_ | refine wq_yes rfl rfl ?_ | refine wq_no rfl rfl rfl ?_ | refine wq_off rfl rfl rfl ?_ | (first | refine wq_pu (pu_ldo (by exact at_) (by omega) rfl (at2 _ _ _) rfl (by exact nth_Dqc)) rfl ?_ | refine wq_pu (pu_ldo (by exact at_) (by omega) rfl (at1 _ _) rfl (by exact nth_Dqc)) rfl ?_)); exact k.out)) : φ := h ⟨k⟩
theorem sto_Dqc {φ ψ : Prop} (k : ψ) (h : Hide ψ → φ := by (intro k; (first | refine sl_store rfl (by exact pick_) rfl rfl (by kernel_rfl) (by exact set_Dqc) ?_ | refine sl_store_whole rfl (by exact pick_) rfl (by exact sz_Dqc) (by exact sz_Dqc) (by exact one_Dqc) ?_); exact k.out)) : φ := h ⟨k⟩
theorem go_Dqc {φ ψ : Prop} (k : ψ) (h : Hide ψ → φ := by (intro k; (repeat (first | refine su_Dqc ?_ | refine so_ ?_ | refine sto_Dqc ?_)); exact k.out)) : φ := h ⟨k⟩
set_option maxRecDepth 100000 in
set_option maxHeartbeats 8000000 in
theorem pRead {w : World} {lim : Int} {g m i n cR ck g9 ql cq : Nat} {R QA : Option Addr} {ms : List MF} {fs : List DF} {G : Fa} {a : Ac} {s : ByteArray} {p x : Int} (hd : DxOk w lim i n ms fs G a s p x) {Q' : Exit → Act → World → Prop} (hN : NoP Q') (hend : Ends 421 Q' .normal (eY g lim QA ql cq i) (hY w g m lim) (rY w lim i)) :
    SC Try.prog (cAt [false, false, false, false, false, true, false, true, true, false, false, true, true, false, false, false, false, false, false, false, false, false, false, true, false, true, false, false, false, false, false, true] (fb Try.f8)) Q' 421 (eX g lim R n cR g9 s p (usedM ms) x QA ql cq i) (hX w g m lim fs ck R n cR ms G g9 a) := by
  obtain ⟨hl1, hnm, hmi, hi60, hM, ha, hl2, hs40, hat, hx⟩ := hd
  have hu1 := hM.us
  have huN := hM.used
  have hfl := hM.len
  rcases hat with ⟨rfl, hno⟩ | ⟨j, f, rfl, hj, rfl⟩
  · have hnd := hM.no hno
    refine go_Dqc ?_
    refine sl_call rfl rfl (by kernel_rfl) rfl Sub.refl (readD_no (by exact at_) (by exact at_) hnd) ?_
    rintro _ -
    refine go_Dqc ?_
    ((refine sq_region (by kernel_rfl) (by kernel_rfl) ?_; (repeat refine rq_Dqc ?_); refine sq_end ?_))
    refine go_Dqc ?_
    exact hend (⟨⟨i, R, cR, n, ms, fs, ck, G⟩, 19⟩ : Dr × Int) ⟨hnm, by show n ≤ i + 1; omega, hM⟩ (by exact has_) (by exact sub_)
  obtain ⟨X, A0, c0, bn, Y, rfl, hX⟩ := hM.split hj
  have hjl : j < n := by
    obtain ⟨h1, -⟩ := List.getElem?_eq_some_iff.1 hj
    omega
  have hfm := List.mem_of_getElem? hj
  have hfu := usedM_le hfm
  have hfc := hM.c f hfm
  have hfs := hM.sy f hfm
  have hfv := hM.vw f hfm
  refine sc_form (e := 65) (size := 3) (A := R) (m := n) (by exact at_) (by omega) ?_
  rintro gR rfl
  refine go_Dqc ?_
  refine sl_call rfl rfl (by kernel_rfl) rfl Sub.refl (readD_ok (f := ⟨f.s, A0, c0, f.l, f.sy, bn⟩) (by exact at_) (by exact at_) (by exact at_) mid_mem (by show f.l.length ≤ _; omega)) ?_
  rintro ⟨A1, c1⟩ -
  dsimp only
  refine go_Dqc ?_
  refine sq_region (by kernel_rfl) (by kernel_rfl) ?_
  repeat refine rq_Dqc ?_
  refine wq_pu (pu_strv (Vw.of_own (c := c1) (e := 5) (by exact at_)) rfl rfl rfl rfl) rfl ?_
  repeat refine rq_Dqc ?_
  refine wq_pu (pu_strv (hfv.mono (by exact sub_)) rfl rfl rfl rfl) rfl ?_
  repeat refine rq_Dqc ?_
  refine sq_end ?_
  refine go_Dqc ?_
  exact hend (⟨⟨i, some ⟨gR, 0, none⟩, cR, n, ms, X ++ ⟨f.s, A0, c0, f.l, f.sy, bn⟩ :: Y, ck, G⟩, 0⟩ : Dr × Int) ⟨hnm, by show n ≤ i + 1; omega, hM⟩ (by exact has_) (by exact sub_)
end Go.Proofs.Ytemhhhikopemmaa
