/- A disk: New, has, Used, and copies of bytes. -/
import Derived.Test.YtemhhhikopemmaaDk
import Derived.Test.YtemhhhikopemmaaPr
namespace Go.Proofs.Ytemhhhikopemmaa
open Go.RowKit Go.MapKept
attribute [local irreducible] Go.Calls Go.Exit.then Go.Exit.inBlock Go.bodyPost Go.Code.wp Go.wpList
theorem ff_one {A : Option Addr} {n c : Nat} {k : IntKind} {s : Int} : ∀ v ∈ [Value.slice A n c, .int k s], v.oneCell' = true := by
  intro v hv
  simp only [List.mem_cons, List.not_mem_nil, or_false] at hv
  rcases hv with rfl | rfl <;> rfl
theorem pu_field2 {P : Program} {C : World → Prop} {n : Nat} {l : Env} {ty t : TypeId} {x : Operand} {cs : List Value} {i o : Nat} {fs : List Field} {f : Field} {v : Value} (hx : ev l x = some (.agg cs.toArray)) (ht : P.underlying t = some (.struct fs.toArray)) (hf : fs[i]? = some f) (ho : f.offset = o) (hp : plainT P f.type = true) (hn : nth cs o = some v) : Pu P C n l (.field t x i) ty v := by
  unfold Pu
  intro a _ _ _ _ W hs _
  obtain ⟨⟨d, hu, hagg⟩, _⟩ := plainT_spec hp
  subst ho
  rw [nth_eq] at hn
  simp only [execOp, hs.ev hx]
  simp [Instr.field, run_underlying ht, hf, part, asAgg, hagg, hn]
theorem sub_dS0 {L L' : List Fa} (h : Sub L L') : Sub L (dS [] :: L') := by
  show Sub L (star [] :: L')
  exact .free (fun w => by unfold star; exact (Sep.start w).sub Sub.nil) (fun j hj => by unfold star at hj; exact foot_nil hj) h
theorem nth_Dk2 {φ : Prop} (h : φ := by (first | rfl | rfl)) : φ := h
theorem mid_Dk2 {φ : Prop} (h : φ := by (first | exact Mid.all | exact Mid.all | exact Mid.head)) : φ := h
theorem sz_Dk2 {φ : Prop} (h : φ := by (first | rfl | (rfl; first | done | fail))) : φ := h
theorem one_Dk2 {φ : Prop} (h : φ := by (first | assumption | exact first | exact one_bytes _ | exact ff_one | (simp only [List.mem_cons, List.not_mem_nil, or_false, forall_eq_or_imp, forall_eq]; decide) | exact one_bytes _)) : φ := h
theorem set_Dk2 {φ : Prop} (h : φ := by (first | (fail) | ((repeat (first | exact SetAt.here | apply SetAt.there)); first | done | fail))) : φ := h
theorem cl_Dk2 {φ : Prop} (h : φ := by first | rfl | exact .t | exact .f | exact .t (by omega) | exact .f (by omega) | exact .u | exact .i (by (first | exact .t (by omega) | exact .f (by omega) | exact .u | exact .i (by omega) | exact .v (by omega) | exact .b (by omega) | exact .w | rfl | omega)) | exact .v (by omega) | exact .b (by omega) | exact .q (by omega) | exact .w | exact .b (by exact at_) rfl (by exact nth_Dk2) | exact .w (by exact at_) rfl rfl (by exact sz_Dk2) | exact .s (by exact at_) (by exact mid_Dk2) rfl rfl (by exact sz_Dk2) | exact .z rfl rfl ⟨by kernel_rfl⟩ | exact .b rfl rfl ⟨by kernel_rfl⟩ | exact .a rfl rfl ⟨by kernel_rfl⟩ | exact .o rfl | exact .s | exact .n | exact .p rfl | exact .q rfl | exact .c rfl | exact .d rfl | exact .n rfl rfl (by omega) | exact .a rfl rfl (by omega) | exact .p rfl rfl (by omega) (by omega) | exact .y rfl rfl (by omega) (by omega) | exact .o (by exact at_) (by omega) rfl (by exact nth_Dk2) | exact .m (by exact at_) (by omega) (by exact mid_Dk2) rfl rfl (by exact sz_Dk2) | exact .mlen (by exact at_) rfl | exact .t (by exact at_) rfl rfl (by first | exact True.intro | rfl) (by assumption) | exact .f (by exact at_) rfl rfl (by first | exact True.intro | rfl) (by assumption) rfl | exact .t1 (by exact at_) rfl rfl (by first | exact True.intro | rfl) (by assumption) | exact .f1 (by exact at_) rfl rfl (by first | exact True.intro | rfl) (by assumption) rfl | exact .r rfl rfl (by omega) (by omega) (by exact nth_Dk2) rfl | exact .s rfl (by omega) (by assumption) | exact at_ | assumption | exact .r rfl rfl | exact .h rfl rfl rfl (by omega) | exact .l rfl rfl rfl (by omega) (by omega) | exact .g rfl rfl rfl rfl (by omega) (by omega) | exact .h rfl rfl (toN_ (by omega)) (by omega) | exact .l rfl rfl (toN_ (by omega)) (by omega) (by omega) | exact .g rfl rfl (toN_ (by omega)) (toN_ (by omega)) (by omega) (by omega) | exact .o (by decide) | exact .f (by decide) | exact .n (by omega) (by first | decide | (show _ ≤ ((64 : Nat) : Int); omega)) | (constructor; (repeat (first | exact .t (by omega) | exact .f (by omega) | exact .u | exact .i (by omega) | exact .v (by omega) | exact .b (by omega) | exact .w | rfl | omega)); first | done | fail) | omega | (show _ ≤ ((64 : Nat) : Int); omega)) : φ := h
theorem pv_Dk2 {φ : Prop} (h : φ := by constructor; (repeat exact cl_Dk2); first | done | fail) : φ := h
theorem su_Dk2 {φ ψ : Prop} (k : ψ) (h : Hide ψ → φ := by (intro k; (first | refine sl_pu (PuI.sep (by exact pv_Dk2)) rfl ?_ | refine sl_yes rfl rfl ?_ | refine sl_no rfl rfl rfl ?_ | refine sl_off rfl rfl rfl ?_); exact k.out)) : φ := h ⟨k⟩
theorem rq_Dk2 {φ ψ : Prop} (k : ψ) (h : Hide ψ → φ := by (intro k; (first | refine wq_pu (PuI.sep (by exact pv_Dk2)) rfl ?_ | refine wq_yes rfl rfl ?_ | refine wq_no rfl rfl rfl ?_ | refine wq_off rfl rfl rfl ?_); exact k.out)) : φ := h ⟨k⟩
theorem sto_Dk2 {φ ψ : Prop} (k : ψ) (h : Hide ψ → φ := by (intro k; (first | refine sl_store rfl (by exact pick_) rfl rfl (by kernel_rfl) (by exact set_Dk2) ?_ | refine sl_store_whole rfl (by exact pick_) rfl (by exact sz_Dk2) (by exact sz_Dk2) (by exact one_Dk2) ?_); exact k.out)) : φ := h ⟨k⟩
theorem go_Dk2 {φ ψ : Prop} (k : ψ) (h : Hide ψ → φ := by (intro k; (repeat (first | refine su_Dk2 ?_ | refine so_ ?_ | refine sto_Dk2 ?_)); exact k.out)) : φ := h ⟨k⟩
set_option maxRecDepth 100000 in
set_option maxHeartbeats 2000000 in
theorem clone_ok {K : List Fa} {A : Option Addr} {n c : Nat} {bs : List Int} (hr : Vw K (fun w => Reads w 1 A n (bytes bs))) (hn : n ≤ 70368744177664) :
    Fn Try.prog 44 #[.slice A n c] K (Ret (fun _ : Option Addr × Nat => True) (fun q => .slice q.1 n q.2) (fun q => own 5 1 q.1 n q.2 (bytes bs) :: K)) := by
  refine fn_enter Try.func44 rfl _ Try.ntmps44 (by simp) [(0, .slice A n c)] (args_of (by simp)) ?_
  cases A with
  | none =>
    refine sc_know (φ := n = 0) (fun w hw => ?_) ?_
    · rcases Nat.eq_zero_or_pos n with h | h
      · exact h
      · obtain ⟨ad, h1, _⟩ := (hr w hw).2 h
        cases h1
    intro h0
    subst h0
    refine sc_know (vw_len hr) ?_
    intro hl
    obtain rfl : bs = [] := List.eq_nil_of_length_eq_zero hl
    refine go_Dk2 ?_
    exact se_ret1 (none, 0) trivial rfl rfl (Sub.own_nil Sub.refl)
  | some a =>
    refine go_Dk2 ?_
    refine sl_build0 (e := 5) (size := 1) rfl (fun W => by kernel_rfl) rfl ?_
    intro g0
    refine go_Dk2 ?_
    refine sl_app rfl (by exact pick_) rfl (hr.mono (by exact sub_)) (one_bytes _) rfl Try.info5 (by decide) (by decide) rfl (by unfold maxLen; omega) (by omega) ?_
    intro A2 c2
    rw [Nat.zero_add, List.nil_append]
    refine go_Dk2 ?_
    exact se_ret1 (A2, c2) trivial rfl rfl (by exact sub_)
def limL (x : Int) : Int := if 1048576 < (if x < 0 then 0 else x) then 1048576 else (if x < 0 then 0 else x)
theorem limL_ok (x : Int) : 0 ≤ limL x ∧ limL x ≤ 1048576 := by unfold limL; split <;> split <;> omega
set_option maxRecDepth 100000 in
set_option maxHeartbeats 2000000 in
theorem newD_ok {K : List Fa} {x : Int} :
    Fn Try.prog 18 #[.int .i64 x] K (Ret (fun _ : Nat × Nat => True) (fun q => .pointer (some ⟨q.1, 0, none⟩)) (fun q => dB q.1 q.2 (limL x) :: dM q.2 [] 0 :: dS [] :: K)) := by
  refine fn_enter Try.func18 rfl _ Try.ntmps18 (by simp) [(0, .int .i64 x)] (args_of (by simp)) ?_
  have hl : limL x = if 1048576 < (if x < 0 then 0 else x) then 1048576 else (if x < 0 then 0 else x) := rfl
  refine go_Dk2 ?_
  refine sl_makeMap (d := .string) rfl ?_
  intro m
  refine go_Dk2 ?_
  rw [← hl]
  generalize limL x = lim
  refine sl_pu (pu_build (v := .agg #[.map (some m), .int .i64 lim]) rfl (fun W => by kernel_rfl)) rfl ?_
  refine sl_box rfl rfl rfl ?_
  intro g
  refine go_Dk2 ?_
  exact se_ret1 (g, m) trivial rfl rfl (.cons .here (.cons .here (sub_dS0 .refl)))
set_option maxRecDepth 100000 in
set_option maxHeartbeats 2000000 in
theorem has_yes {K : List Fa} {g m ck : Nat} {lim : Int} {fs : List DF} {f : DF} (hB : At (dB g m lim) K) (hM : At (dM m fs ck) K) (hf : f ∈ fs) :
    Fn Try.prog 43 #[.pointer (some ⟨g, 0, none⟩), .string f.s] K (Ret (fun _ : Unit => True) (fun _ => .bool true) (fun _ => K)) := by
  refine fn_enter Try.func43 rfl _ Try.ntmps43 (by simp) [(0, .pointer (some ⟨g, 0, none⟩)), (1, .string f.s)] (args_of (by simp)) ?_
  have hg := dget hf
  unfold DF.val at hg
  refine go_Dk2 ?_
  refine sl_alloc rfl rfl rfl ?_; intro g5
  refine go_Dk2 ?_
  exact se_ret1 () trivial rfl rfl (by exact sub_)
set_option maxRecDepth 100000 in
set_option maxHeartbeats 2000000 in
theorem has_no {K : List Fa} {g m ck : Nat} {lim : Int} {fs : List DF} {s : ByteArray} (hB : At (dB g m lim) K) (hM : At (dM m fs ck) K) (hf : ¬ DHas fs s) :
    Fn Try.prog 43 #[.pointer (some ⟨g, 0, none⟩), .string s] K (Ret (fun _ : Unit => True) (fun _ => .bool false) (fun _ => K)) := by
  refine fn_enter Try.func43 rfl _ Try.ntmps43 (by simp) [(0, .pointer (some ⟨g, 0, none⟩)), (1, .string s)] (args_of (by simp)) ?_
  have hg := dno hf
  refine go_Dk2 ?_
  refine sl_alloc rfl rfl rfl ?_; intro g5
  refine go_Dk2 ?_
  exact se_ret1 () trivial rfl rfl (by exact sub_)
set_option maxRecDepth 100000 in
set_option maxHeartbeats 2000000 in
theorem hasD_nil {K : List Fa} {s : ByteArray} :
    Fn Try.prog 43 #[.pointer none, .string s] K (Ret (fun _ : Unit => True) (fun _ => .bool false) (fun _ => K)) := by
  refine fn_enter Try.func43 rfl _ Try.ntmps43 (by simp) [(0, .pointer none), (1, .string s)] (args_of (by simp)) ?_
  refine go_Dk2 ?_
  exact se_ret1 () trivial rfl rfl (by exact sub_)
end Go.Proofs.Ytemhhhikopemmaa
