/- The closure that takes a message out of bytes. -/
import Derived.Test.YtinomilmccopnaaMg5
import Derived.Test.YtinomilmccopnaaMga
import Derived.Test.YtinomilmccopnaaPd
import Derived.Test.YtinomilmccopnaaAp
namespace Go.Proofs.Ytinomilmccopnaa
open Go.RowKit
attribute [local irreducible] Go.Calls Go.Exit.then Go.Exit.inBlock Go.bodyPost Go.Code.wp Go.wpList
def ecs (id : Id) (t : Int) (A : Option Addr) (n c : Nat) (B : Option Addr) (m d : Nat) (code : Int) : List Value := bytes id.l ++ [.int .u64 t, .slice A n c, .slice B m d, .int .i64 code]
section
variable {id : Id} {t : Int} {A : Option Addr} {n c : Nat} {B : Option Addr} {m d : Nat} {code : Int}
theorem ecs_s0 {v : Int} : SetAt 16 (.int .u64 v) (ecs id t A n c B m d code) (ecs id v A n c B m d code) := SetAt.tail (k := 16) (i := 0) (by rw [bytes_length, id.len]) .here
theorem ecs_s1 {A' : Option Addr} {n' c' : Nat} : SetAt 17 (.slice A' n' c') (ecs id t A n c B m d code) (ecs id t A' n' c' B m d code) := SetAt.tail (k := 16) (i := 1) (by rw [bytes_length, id.len]) (.there .here)
theorem ecs_s2 {A' : Option Addr} {n' c' : Nat} : SetAt 18 (.slice A' n' c') (ecs id t A n c B m d code) (ecs id t A n c A' n' c' code) := SetAt.tail (k := 16) (i := 2) (by rw [bytes_length, id.len]) (.there (.there .here))
theorem ecs_s3 {v : Int} : SetAt 19 (.int .i64 v) (ecs id t A n c B m d code) (ecs id t A n c B m d v) := SetAt.tail (k := 16) (i := 3) (by rw [bytes_length, id.len]) (.there (.there (.there .here)))
theorem ecs_len : (ecs id t A n c B m d code).length = 20 := by simp [ecs, bytes, id.len]
theorem ecs_one : ∀ v ∈ ecs id t A n c B m d code, v.oneCell' = true := by
  intro v hv
  rcases List.mem_append.1 hv with h | h
  · exact one_bytes _ v h
  · simp at h
    rcases h with h | h | h | h <;> subst h <;> rfl
end
theorem list_16 {cs : List Int} (h : cs.length = 16) : ∃ a0 a1 a2 a3 a4 a5 a6 a7 a8 a9 a10 a11 a12 a13 a14 a15, cs = [a0, a1, a2, a3, a4, a5, a6, a7, a8, a9, a10, a11, a12, a13, a14, a15] := by
  match cs, h with
  | [a0, a1, a2, a3, a4, a5, a6, a7, a8, a9, a10, a11, a12, a13, a14, a15], _ => exact ⟨a0, a1, a2, a3, a4, a5, a6, a7, a8, a9, a10, a11, a12, a13, a14, a15, rfl⟩
theorem buildI_en (a0 a1 a2 a3 a4 a5 a6 a7 a8 a9 a10 a11 a12 a13 a14 a15 : Int) (W : World) : (Instr.build 50 #[(0, .agg (bytes [a0, a1, a2, a3, a4, a5, a6, a7, a8, a9, a10, a11, a12, a13, a14, a15]).toArray)]).run Try.prog W = .ok (.agg (bytes [a0, a1, a2, a3, a4, a5, a6, a7, a8, a9, a10, a11, a12, a13, a14, a15] ++ [Value.int .u64 0, Value.slice none 0 0, Value.slice none 0 0, Value.int .i64 0]).toArray) W := by kernel_rfl
theorem build_id {id : Id} (W : World) : (Instr.build 50 #[(0, id.v)]).run Try.prog W = .ok (.agg (ecs id 0 none 0 0 none 0 0 0).toArray) W := by
  obtain ⟨l, hl, ok⟩ := id
  obtain ⟨a0, a1, a2, a3, a4, a5, a6, a7, a8, a9, a10, a11, a12, a13, a14, a15, rfl⟩ := list_16 hl
  exact buildI_en _ _ _ _ _ _ _ _ _ _ _ _ _ _ _ _ W
theorem mcs_id {k j s mn : Int} {id : Id} {zs : List Int} {cd : Int} {A : Option Addr} {n c : Nat} (hz : zs.length = 16) : (mcs k j s mn zs cd A n c).take 4 ++ bytes id.l ++ (mcs k j s mn zs cd A n c).drop (4 + (bytes id.l).length) = mcs k j s mn id.l cd A n c := by
  rw [bytes_length, id.len]
  obtain ⟨a0, a1, a2, a3, a4, a5, a6, a7, a8, a9, a10, a11, a12, a13, a14, a15, rfl⟩ := list_16 hz
  rfl
def id0 : Id := ⟨List.replicate 16 0, rfl, fun x hx => by rw [List.eq_of_mem_replicate hx]; omega⟩
/-- What the closure answers. -/
def DecR (r g : Nat) (K Z : List Fa) : Except Int (Msg × List Int) → Ending → World → Prop
  | .ok (M, rest) => Ret (fun p : Me × Rg => (p.1.ab = M ∧ ∀ e ∈ p.1.es, e.full) ∧ p.2.ok Z rest) (fun _ => .tuple #[]) (fun p => rdb r p.2.A p.2.n p.2.c :: blk g 48 p.1.cells :: ensO p.1.A p.1.c p.1.es :: star (enO p.1.es) :: K)
  | .error x => Pan (fun _ : Rg => True) (fun _ => stopC x) (fun q => rdb r q.A q.n q.c :: K)
theorem DecR_err {r g : Nat} {K Z : List Fa} {x : Int} : DecR r g K Z (.error x) = Pan (fun _ : Rg => True) (fun _ => stopC x) (fun q => rdb r q.A q.n q.c :: K) := rfl
theorem DecR_ok {r g : Nat} {K Z : List Fa} {M : Msg} {rest : List Int} : DecR r g K Z (.ok (M, rest)) = Ret (fun p : Me × Rg => (p.1.ab = M ∧ ∀ e ∈ p.1.es, e.full) ∧ p.2.ok Z rest) (fun _ => .tuple #[]) (fun p => rdb r p.2.A p.2.n p.2.c :: blk g 48 p.1.cells :: ensO p.1.A p.1.c p.1.es :: star (enO p.1.es) :: K) := rfl
theorem nth_Mgb {φ : Prop} (h : φ := by (first | rfl | first | exact En.nt _ | exact En.np _ | exact En.ns _ | exact En.nc _ | exact Me.ne _ | exact Me.nd _ | exact mcs_4 | exact mcs_5 | assumption)) : φ := h
theorem mid_Mgb {φ : Prop} (h : φ := by (first | first | exact En.mid _ | exact Me.mid _ | exact Mid.all | exact Mid.head)) : φ := h
theorem sz_Mgb {φ : Prop} (h : φ := by (first | rfl | (first | (simp only [En.len, Me.len, bytes_length, Id.len, zm_len, mcs_lenI, ecs_len]; rfl) | simp only [En.len, Me.len, bytes_length, Id.len, zm_len, mcs_lenI, ecs_len]; first | done | fail))) : φ := h
theorem one_Mgb {φ : Prop} (h : φ := by (first | assumption | exact first | exact En.one _ | exact Me.one _ | exact mcs_one | exact ecs_one | (simp only [List.mem_cons, List.not_mem_nil, or_false, forall_eq_or_imp, forall_eq]; decide) | exact one_bytes _)) : φ := h
theorem set_Mgb {φ : Prop} (h : φ := by (first | (first | exact mcs_s0 | exact mcs_s1 | exact mcs_s2 | exact mcs_s3 | exact mcs_s20 | exact mcs_s21 | exact ecs_s0 | exact ecs_s1 | exact ecs_s2 | exact ecs_s3) | ((repeat (first | exact SetAt.here | apply SetAt.there)); first | done | fail))) : φ := h
theorem cl_Mgb {φ : Prop} (h : φ := by first | rfl | exact .t | exact .f | exact .t (by omega) | exact .f (by omega) | exact .u | exact .i (by (first | exact .t (by omega) | exact .f (by omega) | exact .u | exact .i (by omega) | exact .v (by omega) | exact .b (by omega) | exact .w | rfl | omega)) | exact .v (by omega) | exact .b (by omega) | exact .q (by omega) | exact .w | exact .b (by exact at_) rfl (by exact nth_Mgb) | exact .w (by exact at_) rfl rfl (by exact sz_Mgb) | exact .s (by exact at_) (by exact mid_Mgb) rfl rfl (by exact sz_Mgb) | exact .z rfl rfl ⟨by kernel_rfl⟩ | exact .b rfl rfl ⟨by kernel_rfl⟩ | exact .a rfl rfl ⟨by kernel_rfl⟩ | exact .o rfl | exact .s | exact .n | exact .p rfl | exact .q rfl | exact .c rfl | exact .d rfl | exact .n rfl rfl (by omega) | exact .a rfl rfl (by omega) | exact .p rfl rfl (by omega) (by omega) | exact .y rfl rfl (by omega) (by omega) | exact .o (by exact at_) (by omega) rfl (by exact nth_Mgb) | exact .m (by exact at_) (by omega) (by exact mid_Mgb) rfl rfl (by exact sz_Mgb) | exact .mlen (by exact at_) rfl | exact .t (by exact at_) rfl rfl (by first | exact True.intro | rfl) (by assumption) | exact .f (by exact at_) rfl rfl (by first | exact True.intro | rfl) (by assumption) rfl | exact .t1 (by exact at_) rfl rfl (by first | exact True.intro | rfl) (by assumption) | exact .f1 (by exact at_) rfl rfl (by first | exact True.intro | rfl) (by assumption) rfl | exact .r rfl rfl (by omega) (by omega) (by exact nth_Mgb) rfl | exact .s rfl (by omega) (by assumption) | exact at_ | assumption | exact .r rfl rfl | exact .h rfl rfl rfl (by omega) | exact .l rfl rfl rfl (by omega) (by omega) | exact .g rfl rfl rfl rfl (by omega) (by omega) | exact .h rfl rfl (toN_ (by omega)) (by omega) | exact .l rfl rfl (toN_ (by omega)) (by omega) (by omega) | exact .g rfl rfl (toN_ (by omega)) (toN_ (by omega)) (by omega) (by omega) | exact .o (by decide) | exact .f (by decide) | exact .n (by omega) (by first | decide | (show _ ≤ ((64 : Nat) : Int); omega)) | (constructor; (repeat (first | exact .t (by omega) | exact .f (by omega) | exact .u | exact .i (by omega) | exact .v (by omega) | exact .b (by omega) | exact .w | rfl | omega)); first | done | fail) | omega | (show _ ≤ ((64 : Nat) : Int); omega)) : φ := h
theorem pv_Mgb {φ : Prop} (h : φ := by constructor; (repeat exact cl_Mgb); first | done | fail) : φ := h
theorem su_Mgb {φ ψ : Prop} (k : ψ) (h : Hide ψ → φ := by (intro k; (first | refine sl_pu (PuI.sep (by exact pv_Mgb)) rfl ?_ | refine sl_yes rfl rfl ?_ | refine sl_no rfl rfl rfl ?_ | refine sl_off rfl rfl rfl ?_); exact k.out)) : φ := h ⟨k⟩
theorem rq_Mgb {φ ψ : Prop} (k : ψ) (h : Hide ψ → φ := by (intro k; (first | refine wq_pu (PuI.sep (by exact pv_Mgb)) rfl ?_ | refine wq_yes rfl rfl ?_ | refine wq_no rfl rfl rfl ?_ | refine wq_off rfl rfl rfl ?_); exact k.out)) : φ := h ⟨k⟩
theorem sto_Mgb {φ ψ : Prop} (k : ψ) (h : Hide ψ → φ := by (intro k; (first | refine sl_store rfl (by exact pick_) rfl rfl (by kernel_rfl) (by exact set_Mgb) ?_ | refine sl_store_whole rfl (by exact pick_) rfl (by exact sz_Mgb) (by exact sz_Mgb) (by exact one_Mgb) ?_); exact k.out)) : φ := h ⟨k⟩
theorem go_Mgb {φ ψ : Prop} (k : ψ) (h : Hide ψ → φ := by (intro k; (repeat (first | refine su_Mgb ?_ | refine so_ ?_ | refine sto_Mgb ?_)); exact k.out)) : φ := h ⟨k⟩
structure Dl where
  j : Nat
  q : Rg
  b : List Int
  A : Option Addr
  c : Nat
  es : List En
set_option maxRecDepth 100000 in
set_option maxHeartbeats 8000000 in
theorem dec1_ok {K Z : List Fa} {r g n c : Nat} {A : Option Addr} {bs : List Int} (hz : Sub K Z) (hr : Rd Z A n c bs) :
    Fn Try.prog 67 #[.pointer (some ⟨r, 0, none⟩), .pointer (some ⟨g, 0, none⟩)] (rdb r A n c :: blk g 48 zm :: K) (DecR r g K Z (decM bs)) := by
  refine fn_enter Try.func67 rfl _ Try.ntmps67 (by simp) [(0, .pointer (some ⟨r, 0, none⟩)), (1, .pointer (some ⟨g, 0, none⟩))] (args_of (by simp)) ?_
  have ex := decM_flat bs
  generalize decM bs = X at ex ⊢
  rw [show zm = mcs 0 0 0 0 id0.l 0 none 0 0 from rfl]
  have hr0 := hr
  refine go_Mgb ?_
  by_cases hl : n < 1
  · refine sl_die rfl rfl (by kernel_rfl) (by exact sub_) (rUint_die (k := 1) (by decide) hl) ?_
    rintro _ -
    rw [step_no ex (dUint_no hr0.len hl), DecR_err]
    refine go_Mgb ?_
    exact se_panic ⟨A, n, c⟩ trivial (by exact sub_)
  refine sl_call rfl rfl (by kernel_rfl) rfl (by exact sub_) (rUint (k := 1) (K := blk g 48 _ :: K) (Z := Z) (Sub.skip hz) hr0 (by decide) (by omega)) ?_
  rintro ⟨A1, n1, c1⟩ hr1
  replace ex := step_go ex (dUint_go hr0.len hl)
  replace hr1 : Rd Z A1 n1 c1 _ := hr1
  dsimp only at ex ⊢
  have kdb := leV_t hr0.okb hr0.len hl
  generalize leV (bs.take 1) = kd at kdb ex ⊢
  generalize bs.drop 1 = b1 at hr1 ex
  clear hl
  refine go_Mgb ?_
  by_cases hl : n1 < 6
  · refine sl_die rfl rfl (by kernel_rfl) (by exact sub_) (rUint_die (k := 6) (by decide) hl) ?_
    rintro _ -
    rw [step_no ex (dUint_no hr1.len hl), DecR_err]
    refine go_Mgb ?_
    exact se_panic ⟨A1, n1, c1⟩ trivial (by exact sub_)
  refine sl_call rfl rfl (by kernel_rfl) rfl (by exact sub_) (rUint (k := 6) (K := blk g 48 _ :: K) (Z := Z) (Sub.skip hz) hr1 (by decide) (by omega)) ?_
  rintro ⟨A2, n2, c2⟩ hr2
  replace ex := step_go ex (dUint_go hr1.len hl)
  replace hr2 : Rd Z A2 n2 c2 _ := hr2
  dsimp only at ex ⊢
  have jbb := leV_t hr1.okb hr1.len hl
  generalize leV (b1.take 6) = jb at jbb ex ⊢
  generalize b1.drop 6 = b2 at hr2 ex
  clear hl
  refine go_Mgb ?_
  by_cases hl : n2 < 6
  · refine sl_die rfl rfl (by kernel_rfl) (by exact sub_) (rUint_die (k := 6) (by decide) hl) ?_
    rintro _ -
    rw [step_no ex (dUint_no hr2.len hl), DecR_err]
    refine go_Mgb ?_
    exact se_panic ⟨A2, n2, c2⟩ trivial (by exact sub_)
  refine sl_call rfl rfl (by kernel_rfl) rfl (by exact sub_) (rUint (k := 6) (K := blk g 48 _ :: K) (Z := Z) (Sub.skip hz) hr2 (by decide) (by omega)) ?_
  rintro ⟨A3, n3, c3⟩ hr3
  replace ex := step_go ex (dUint_go hr2.len hl)
  replace hr3 : Rd Z A3 n3 c3 _ := hr3
  dsimp only at ex ⊢
  have stb := leV_t hr2.okb hr2.len hl
  generalize leV (b2.take 6) = st at stb ex ⊢
  generalize b2.drop 6 = b3 at hr3 ex
  clear hl
  refine go_Mgb ?_
  by_cases hl : n3 < 2
  · refine sl_die rfl rfl (by kernel_rfl) (by exact sub_) (rUint_die (k := 2) (by decide) hl) ?_
    rintro _ -
    rw [step_no ex (dUint_no hr3.len hl), DecR_err]
    refine go_Mgb ?_
    exact se_panic ⟨A3, n3, c3⟩ trivial (by exact sub_)
  refine sl_call rfl rfl (by kernel_rfl) rfl (by exact sub_) (rUint (k := 2) (K := blk g 48 _ :: K) (Z := Z) (Sub.skip hz) hr3 (by decide) (by omega)) ?_
  rintro ⟨A4, n4, c4⟩ hr4
  replace ex := step_go ex (dUint_go hr3.len hl)
  replace hr4 : Rd Z A4 n4 c4 _ := hr4
  dsimp only at ex ⊢
  have mnb := leV_t hr3.okb hr3.len hl
  generalize leV (b3.take 2) = mn at mnb ex ⊢
  generalize b3.drop 2 = b4 at hr4 ex
  clear hl
  refine go_Mgb ?_
  refine sd_drawn (fun _ => True) (fun _ => true) (by kernel_rfl) 5 rfl ?_
  (refine sd_take 0 rfl (by kernel_rfl) (by exact nop_) (by (first | exact pu_move rfl | exact pu_assign rfl | exact pu_nilCheck rfl | exact pu_extract rfl rfl | exact pu_fieldAddr_0 rfl rfl rfl (by kernel_rfl) | exact pu_fieldAddr_b rfl rfl rfl (by kernel_rfl) | exact pu_fieldAddr rfl rfl rfl (by kernel_rfl) | exact pu_makeFunc rfl | exact pu_len rfl rfl | exact pu_cap rfl rfl | exact pu_slice_a rfl rfl rfl (by omega) | exact pu_slice_arr rfl rfl rfl | exact pu_slice_hn rfl rfl rfl rfl rfl (by omega) | exact pu_slice_ln rfl rfl rfl rfl rfl (by omega) (by omega) | exact pu_slice_lhn rfl rfl rfl rfl rfl rfl rfl (by omega) (by omega) | exact pu_slice_h rfl rfl rfl rfl (by omega) (by omega) | exact pu_slice_l rfl rfl rfl rfl (by omega) (by omega) (by omega) | exact pu_indexAddr_n rfl rfl rfl rfl (by omega) | exact pu_indexAddr_a rfl rfl rfl rfl (by omega) | exact pu_indexAddr rfl rfl rfl rfl (by omega) (by omega) | exact pu_lss_t rfl rfl (by omega) | exact pu_lss_f rfl rfl (by omega) | exact pu_lss rfl rfl | exact pu_gtr_t rfl rfl (by omega) | exact pu_gtr_f rfl rfl (by omega) | exact pu_gtr rfl rfl | exact pu_leq_t rfl rfl (by omega) | exact pu_leq_f rfl rfl (by omega) | exact pu_leq rfl rfl | exact pu_geq_t rfl rfl (by omega) | exact pu_geq_f rfl rfl (by omega) | exact pu_geq rfl rfl | exact pu_eql_t rfl rfl (by omega) | exact pu_eql_f rfl rfl (by omega) | exact pu_eql rfl rfl | exact pu_ptr_some_eql rfl rfl rfl | exact pu_ptr_none_eql rfl rfl rfl | exact pu_slice_some_eql rfl rfl rfl | exact pu_slice_none_eql rfl rfl rfl | exact pu_bool_eql rfl rfl rfl | exact pu_str_eql_same rfl rfl | exact pu_str_eql rfl rfl | exact pu_neq_t rfl rfl (by omega) | exact pu_neq_f rfl rfl (by omega) | exact pu_neq rfl rfl | exact pu_ptr_some_neq rfl rfl rfl | exact pu_ptr_none_neq rfl rfl rfl | exact pu_bool_neq rfl rfl rfl | exact pu_str_neq_same rfl rfl | exact pu_str_neq rfl rfl | exact pu_add_i rfl rfl (by omega) | exact pu_add_u rfl rfl (by omega) | exact pu_add_w rfl rfl | exact pu_sub_i rfl rfl (by omega) | exact pu_sub_u rfl rfl (by omega) | exact pu_sub_w rfl rfl | exact pu_mul_i rfl rfl (by omega) | exact pu_mul_u rfl rfl (by omega) | exact pu_mul_w rfl rfl | exact pu_rem_0 rfl rfl (by omega) (by omega) | exact pu_quo_i rfl rfl (by omega) (by omega) (by omega) | exact pu_quo_u rfl rfl (by omega) (by omega) (by omega) | exact pu_quo_0 rfl rfl (by omega) (by omega) | exact pu_or rfl rfl | exact pu_and rfl rfl | exact pu_xor rfl rfl | exact pu_shl rfl rfl (by omega) (by show _ ≤ ((64 : Nat) : Int); omega) | exact pu_shr_1 rfl rfl (by decide) | exact pu_shr_4 rfl rfl (by decide) | exact pu_shr rfl rfl (by omega) (by show _ ≤ ((64 : Nat) : Int); omega) | exact pu_conv_i rfl rfl rfl (by omega) | exact pu_conv_u rfl rfl rfl (by omega) | exact pu_conv_8 rfl rfl rfl (by omega) | exact pu_conv rfl rfl rfl)) rfl (fun _ _ => trivial) ?_)
  (refine sd_take 1 rfl (by kernel_rfl) (by exact nop_) (by (first | exact pu_move rfl | exact pu_assign rfl | exact pu_nilCheck rfl | exact pu_extract rfl rfl | exact pu_fieldAddr_0 rfl rfl rfl (by kernel_rfl) | exact pu_fieldAddr_b rfl rfl rfl (by kernel_rfl) | exact pu_fieldAddr rfl rfl rfl (by kernel_rfl) | exact pu_makeFunc rfl | exact pu_len rfl rfl | exact pu_cap rfl rfl | exact pu_slice_a rfl rfl rfl (by omega) | exact pu_slice_arr rfl rfl rfl | exact pu_slice_hn rfl rfl rfl rfl rfl (by omega) | exact pu_slice_ln rfl rfl rfl rfl rfl (by omega) (by omega) | exact pu_slice_lhn rfl rfl rfl rfl rfl rfl rfl (by omega) (by omega) | exact pu_slice_h rfl rfl rfl rfl (by omega) (by omega) | exact pu_slice_l rfl rfl rfl rfl (by omega) (by omega) (by omega) | exact pu_indexAddr_n rfl rfl rfl rfl (by omega) | exact pu_indexAddr_a rfl rfl rfl rfl (by omega) | exact pu_indexAddr rfl rfl rfl rfl (by omega) (by omega) | exact pu_lss_t rfl rfl (by omega) | exact pu_lss_f rfl rfl (by omega) | exact pu_lss rfl rfl | exact pu_gtr_t rfl rfl (by omega) | exact pu_gtr_f rfl rfl (by omega) | exact pu_gtr rfl rfl | exact pu_leq_t rfl rfl (by omega) | exact pu_leq_f rfl rfl (by omega) | exact pu_leq rfl rfl | exact pu_geq_t rfl rfl (by omega) | exact pu_geq_f rfl rfl (by omega) | exact pu_geq rfl rfl | exact pu_eql_t rfl rfl (by omega) | exact pu_eql_f rfl rfl (by omega) | exact pu_eql rfl rfl | exact pu_ptr_some_eql rfl rfl rfl | exact pu_ptr_none_eql rfl rfl rfl | exact pu_slice_some_eql rfl rfl rfl | exact pu_slice_none_eql rfl rfl rfl | exact pu_bool_eql rfl rfl rfl | exact pu_str_eql_same rfl rfl | exact pu_str_eql rfl rfl | exact pu_neq_t rfl rfl (by omega) | exact pu_neq_f rfl rfl (by omega) | exact pu_neq rfl rfl | exact pu_ptr_some_neq rfl rfl rfl | exact pu_ptr_none_neq rfl rfl rfl | exact pu_bool_neq rfl rfl rfl | exact pu_str_neq_same rfl rfl | exact pu_str_neq rfl rfl | exact pu_add_i rfl rfl (by omega) | exact pu_add_u rfl rfl (by omega) | exact pu_add_w rfl rfl | exact pu_sub_i rfl rfl (by omega) | exact pu_sub_u rfl rfl (by omega) | exact pu_sub_w rfl rfl | exact pu_mul_i rfl rfl (by omega) | exact pu_mul_u rfl rfl (by omega) | exact pu_mul_w rfl rfl | exact pu_rem_0 rfl rfl (by omega) (by omega) | exact pu_quo_i rfl rfl (by omega) (by omega) (by omega) | exact pu_quo_u rfl rfl (by omega) (by omega) (by omega) | exact pu_quo_0 rfl rfl (by omega) (by omega) | exact pu_or rfl rfl | exact pu_and rfl rfl | exact pu_xor rfl rfl | exact pu_shl rfl rfl (by omega) (by show _ ≤ ((64 : Nat) : Int); omega) | exact pu_shr_1 rfl rfl (by decide) | exact pu_shr_4 rfl rfl (by decide) | exact pu_shr rfl rfl (by omega) (by show _ ≤ ((64 : Nat) : Int); omega) | exact pu_conv_i rfl rfl rfl (by omega) | exact pu_conv_u rfl rfl rfl (by omega) | exact pu_conv_8 rfl rfl rfl (by omega) | exact pu_conv rfl rfl rfl)) rfl (fun _ _ => trivial) ?_)
  (refine sd_take 2 rfl (by kernel_rfl) (by exact nop_) (by (first | exact pu_move rfl | exact pu_assign rfl | exact pu_nilCheck rfl | exact pu_extract rfl rfl | exact pu_fieldAddr_0 rfl rfl rfl (by kernel_rfl) | exact pu_fieldAddr_b rfl rfl rfl (by kernel_rfl) | exact pu_fieldAddr rfl rfl rfl (by kernel_rfl) | exact pu_makeFunc rfl | exact pu_len rfl rfl | exact pu_cap rfl rfl | exact pu_slice_a rfl rfl rfl (by omega) | exact pu_slice_arr rfl rfl rfl | exact pu_slice_hn rfl rfl rfl rfl rfl (by omega) | exact pu_slice_ln rfl rfl rfl rfl rfl (by omega) (by omega) | exact pu_slice_lhn rfl rfl rfl rfl rfl rfl rfl (by omega) (by omega) | exact pu_slice_h rfl rfl rfl rfl (by omega) (by omega) | exact pu_slice_l rfl rfl rfl rfl (by omega) (by omega) (by omega) | exact pu_indexAddr_n rfl rfl rfl rfl (by omega) | exact pu_indexAddr_a rfl rfl rfl rfl (by omega) | exact pu_indexAddr rfl rfl rfl rfl (by omega) (by omega) | exact pu_lss_t rfl rfl (by omega) | exact pu_lss_f rfl rfl (by omega) | exact pu_lss rfl rfl | exact pu_gtr_t rfl rfl (by omega) | exact pu_gtr_f rfl rfl (by omega) | exact pu_gtr rfl rfl | exact pu_leq_t rfl rfl (by omega) | exact pu_leq_f rfl rfl (by omega) | exact pu_leq rfl rfl | exact pu_geq_t rfl rfl (by omega) | exact pu_geq_f rfl rfl (by omega) | exact pu_geq rfl rfl | exact pu_eql_t rfl rfl (by omega) | exact pu_eql_f rfl rfl (by omega) | exact pu_eql rfl rfl | exact pu_ptr_some_eql rfl rfl rfl | exact pu_ptr_none_eql rfl rfl rfl | exact pu_slice_some_eql rfl rfl rfl | exact pu_slice_none_eql rfl rfl rfl | exact pu_bool_eql rfl rfl rfl | exact pu_str_eql_same rfl rfl | exact pu_str_eql rfl rfl | exact pu_neq_t rfl rfl (by omega) | exact pu_neq_f rfl rfl (by omega) | exact pu_neq rfl rfl | exact pu_ptr_some_neq rfl rfl rfl | exact pu_ptr_none_neq rfl rfl rfl | exact pu_bool_neq rfl rfl rfl | exact pu_str_neq_same rfl rfl | exact pu_str_neq rfl rfl | exact pu_add_i rfl rfl (by omega) | exact pu_add_u rfl rfl (by omega) | exact pu_add_w rfl rfl | exact pu_sub_i rfl rfl (by omega) | exact pu_sub_u rfl rfl (by omega) | exact pu_sub_w rfl rfl | exact pu_mul_i rfl rfl (by omega) | exact pu_mul_u rfl rfl (by omega) | exact pu_mul_w rfl rfl | exact pu_rem_0 rfl rfl (by omega) (by omega) | exact pu_quo_i rfl rfl (by omega) (by omega) (by omega) | exact pu_quo_u rfl rfl (by omega) (by omega) (by omega) | exact pu_quo_0 rfl rfl (by omega) (by omega) | exact pu_or rfl rfl | exact pu_and rfl rfl | exact pu_xor rfl rfl | exact pu_shl rfl rfl (by omega) (by show _ ≤ ((64 : Nat) : Int); omega) | exact pu_shr_1 rfl rfl (by decide) | exact pu_shr_4 rfl rfl (by decide) | exact pu_shr rfl rfl (by omega) (by show _ ≤ ((64 : Nat) : Int); omega) | exact pu_conv_i rfl rfl rfl (by omega) | exact pu_conv_u rfl rfl rfl (by omega) | exact pu_conv_8 rfl rfl rfl (by omega) | exact pu_conv rfl rfl rfl)) rfl (fun _ _ => trivial) ?_)
  by_cases hl : n4 < 16
  · refine sd_die 3 (by kernel_rfl) rfl rfl rfl (by kernel_rfl) rfl (by exact sub_) (rRaw_die (k := ((16 : Nat) : Int)) (.inr (by omega))) ?_
    rintro _ -
    rw [step_no ex (dRaw_no hr4.len hl), DecR_err]
    refine go_Mgb ?_
    exact se_panic ⟨A4, n4, c4⟩ trivial (by exact sub_)
  obtain ⟨id, hid⟩ : ∃ id : Id, b4.take 16 = id.l := ⟨⟨b4.take 16, by rw [List.length_take, hr4.len]; omega, hr4.okb.take 16⟩, rfl⟩
  refine sd_call 3 (by kernel_rfl) rfl rfl rfl (by kernel_rfl) rfl (by exact sub_) (rRaw (K := blk g 48 _ :: K) (Z := Z) (k := 16) (Sub.skip hz) hr4 (by omega)) (fun _ _ _ _ => trivial) ?_
  rintro ⟨⟨P, cp⟩, A5, n5, c5⟩ hr5
  replace ex := step_go ex (dRaw_go hr4.len hl)
  replace hr5 : Rd Z A5 n5 c5 _ := hr5
  dsimp only at ex ⊢
  rw [hid] at ex ⊢
  generalize b4.drop 16 = b5 at hr5 ex
  clear hid hl
  refine sd_know (own_form_at (A := P) .here (by decide)) ?_
  rintro ⟨g5, rfl⟩
  refine sd_copy_blk (e := 5) (size := 1) (kk := 16) 4 (by kernel_rfl) rfl rfl (by exact pick_) rfl rfl rfl rfl (by rw [bytes_length, id.len]) (own_cells .here Mid.all (by decide)) (by rw [bytes_length, id.len, mcs_lenI]; decide) (one_bytes _) rfl (fun _ _ => trivial) ?_
  refine sd_done (by kernel_rfl) ?_
  rw [mcs_id id0.len]
  refine go_Mgb ?_
  by_cases hl : n5 < 1
  · refine sl_die rfl rfl (by kernel_rfl) (by exact sub_) (rUint_die (k := 1) (by decide) hl) ?_
    rintro _ -
    rw [step_no ex (dUint_no hr5.len hl), DecR_err]
    refine go_Mgb ?_
    exact se_panic ⟨A5, n5, c5⟩ trivial (by exact sub_)
  refine sl_call rfl rfl (by kernel_rfl) rfl (by exact sub_) (rUint (k := 1) (K := own 5 1 (some ⟨g5, 0, none⟩) 16 cp (bytes id.l) :: blk g 48 _ :: K) (Z := Z) (Sub.skip (Sub.skip hz)) hr5 (by decide) (by omega)) ?_
  rintro ⟨A6, n6, c6⟩ hr6
  replace ex := step_go ex (dUint_go hr5.len hl)
  replace hr6 : Rd Z A6 n6 c6 _ := hr6
  dsimp only at ex ⊢
  have cdb := leV_t hr5.okb hr5.len hl
  generalize leV (b5.take 1) = cd at cdb ex ⊢
  generalize b5.drop 1 = b6 at hr6 ex
  clear hl
  refine go_Mgb ?_
  by_cases hl : n6 < 2
  · refine sl_die rfl rfl (by kernel_rfl) (by exact sub_) (rCount_die (k := 2) (by decide) hl) ?_
    rintro _ -
    rw [step_no ex (dCount_no hr6.len hl), DecR_err]
    refine go_Mgb ?_
    exact se_panic ⟨A6, n6, c6⟩ trivial (by exact sub_)
  by_cases hm : 256 < leV (b6.take 2)
  · refine sl_die rfl rfl (by kernel_rfl) (by exact sub_) (rCount_range (k := 2) (K := own 5 1 (some ⟨g5, 0, none⟩) 16 cp (bytes id.l) :: blk g 48 _ :: K) (Z := Z) (Sub.skip (Sub.skip hz)) hr6 (by decide) (by omega) hm) ?_
    rintro ⟨a1, a2, a3⟩ -
    rw [step_no ex (dCount_most hr6.len hl hm), DecR_err]
    refine go_Mgb ?_
    exact se_panic ⟨a1, a2, a3⟩ trivial (by exact sub_)
  refine sl_call rfl rfl (by kernel_rfl) rfl (by exact sub_) (rCount (k := 2) (K := own 5 1 (some ⟨g5, 0, none⟩) 16 cp (bytes id.l) :: blk g 48 _ :: K) (Z := Z) (Sub.skip (Sub.skip hz)) hr6 (by decide) (by omega) (by omega) (by decide)) ?_
  rintro ⟨A7, n7, c7⟩ hr7
  replace ex := step_go ex (dCount_go hr6.len hl hm)
  replace hr7 : Rd Z A7 n7 c7 _ := hr7
  dsimp only at ex ⊢
  have Nb := leV_t (k := 2) hr6.okb hr6.len hl
  generalize leV (b6.take 2) = N0 at Nb hm ex ⊢
  generalize b6.drop 2 = b7 at hr7 ex
  obtain ⟨N, rfl⟩ := nat_of Nb.1
  rw [Int.toNat_natCast] at ex
  clear hl
  refine go_Mgb ?_
  refine sc_ent (L' := star (enO []) :: rdb r A7 n7 c7 :: blk g 48 (mcs kd jb st mn id.l cd none 0 0) :: K) (fun w hw => star_in (G := enO []) w (hw.sub (by exact sub_))) ?_
  refine sc_for (fun p : Dl => [(0, .pointer (some ⟨r, 0, none⟩)), (1, .pointer (some ⟨g, 0, none⟩)), (28, .int .i64 N), (29, .int .i64 p.j)]) (fun p => ensO p.A p.c p.es :: star (enO p.es) :: rdb r p.q.A p.q.n p.q.c :: blk g 48 (mcs kd jb st mn id.l cd p.A p.es.length p.c) :: K) (fun p => p.j ≤ N ∧ p.q.ok Z p.b ∧ p.es.length = p.j ∧ (∀ e ∈ p.es, e.full) ∧ X = contM kd jb st mn id.l cd (p.es.map En.ab) (N - p.j) p.b) (fun p => N - p.j) ⟨0, ⟨A7, n7, c7⟩, b7, none, 0, []⟩ (by exact has_) (Sub.own_nil (by exact sub_)) ⟨Nat.zero_le _, hr7, rfl, (fun e h => by cases h), ex⟩ ?_
  clear ex
  rintro ⟨j, ⟨A20, n20, c20⟩, b20, Ae, ce, es⟩ ⟨hj, hr20, hel, hfu, ex⟩
  replace hr20 : Rd Z A20 n20 c20 b20 := hr20
  dsimp only at hj hel hfu ex ⊢
  by_cases hlt : j < N
  · rw [show N - j = (N - (j + 1)) + 1 from by omega, contM_succ] at ex
    refine go_Mgb ?_
    by_cases hl : n20 < 16
    · refine sl_die rfl rfl (by kernel_rfl) (by exact sub_) (rId_die hl) ?_
      rintro _ -
      rw [step_no ex (dRaw_no hr20.len hl), DecR_err]
      refine go_Mgb ?_
      exact se_panic ⟨A20, n20, c20⟩ trivial (by exact sub_)
    obtain ⟨ie, hid⟩ : ∃ id : Id, b20.take 16 = id.l := ⟨⟨b20.take 16, by rw [List.length_take, hr20.len]; omega, hr20.okb.take 16⟩, rfl⟩
    refine sl_call rfl rfl (by kernel_rfl) rfl (by exact sub_) (rId (K := blk g 48 _ :: ensO Ae ce es :: star (enO es) :: K) (Z := Z) (Sub.skip (Sub.skip (Sub.skip hz))) hr20 (by omega) ie hid) ?_
    rintro ⟨A21, n21, c21⟩ hr21
    replace ex := step_go ex (dRaw_go hr20.len hl)
    replace hr21 : Rd Z A21 n21 c21 _ := hr21
    dsimp only at ex ⊢
    rw [hid] at ex
    generalize b20.drop 16 = b21 at hr21 ex
    clear hid hl
    refine go_Mgb ?_
    refine sl_pu (pu_build (v := .agg (ecs ie 0 none 0 0 none 0 0 0).toArray) rfl build_id) rfl ?_
    refine sl_alloc rfl rfl rfl ?_; intro ge
    refine go_Mgb ?_
    by_cases hl : n21 < 6
    · refine sl_die rfl rfl (by kernel_rfl) (by exact sub_) (rUint_die (k := 6) (by decide) hl) ?_
      rintro _ -
      rw [step_no ex (dUint_no hr21.len hl), DecR_err]
      refine go_Mgb ?_
      exact se_panic ⟨A21, n21, c21⟩ trivial (by exact sub_)
    refine sl_call rfl rfl (by kernel_rfl) rfl (by exact sub_) (rUint (k := 6) (K := blk ge 50 _ :: blk g 48 _ :: ensO Ae ce es :: star (enO es) :: K) (Z := Z) (Sub.skip (Sub.skip (Sub.skip (Sub.skip hz)))) hr21 (by decide) (by omega)) ?_
    rintro ⟨A22, n22, c22⟩ hr22
    replace ex := step_go ex (dUint_go hr21.len hl)
    replace hr22 : Rd Z A22 n22 c22 _ := hr22
    dsimp only at ex ⊢
    have teb := leV_t hr21.okb hr21.len hl
    generalize leV (b21.take 6) = te at teb ex ⊢
    generalize b21.drop 6 = b22 at hr22 ex
    clear hl
    refine go_Mgb ?_
    by_cases hl : n22 < 1
    · refine sl_die rfl rfl (by kernel_rfl) (by exact sub_) (rUint_die (k := 1) (by decide) hl) ?_
      rintro _ -
      rw [step_no ex (dUint_no hr22.len hl), DecR_err]
      refine go_Mgb ?_
      exact se_panic ⟨A22, n22, c22⟩ trivial (by exact sub_)
    refine sl_call rfl rfl (by kernel_rfl) rfl (by exact sub_) (rUint (k := 1) (K := blk ge 50 _ :: blk g 48 _ :: ensO Ae ce es :: star (enO es) :: K) (Z := Z) (Sub.skip (Sub.skip (Sub.skip (Sub.skip hz)))) hr22 (by decide) (by omega)) ?_
    rintro ⟨A23, n23, c23⟩ hr23
    replace ex := step_go ex (dUint_go hr22.len hl)
    replace hr23 : Rd Z A23 n23 c23 _ := hr23
    dsimp only at ex ⊢
    have cob := leV_t hr22.okb hr22.len hl
    generalize leV (b22.take 1) = co at cob ex ⊢
    generalize b22.drop 1 = b23 at hr23 ex
    clear hl
    refine go_Mgb ?_
    by_cases hl : n23 < 4
    · refine sl_die rfl rfl (by kernel_rfl) (by exact sub_) (rLong_die (m := 65536) hl) ?_
      rintro _ -
      rw [step_no ex (dLong_no hr23.len hl), DecR_err]
      refine go_Mgb ?_
      exact se_panic ⟨A23, n23, c23⟩ trivial (by exact sub_)
    obtain ⟨k1, hv⟩ := nat_of (leV_t (k := 4) hr23.okb hr23.len hl).1
    by_cases hm : 65536 < k1
    · refine sl_die rfl rfl (by kernel_rfl) (by exact sub_) (rLong_die4 (m := 65536) (K := blk ge 50 _ :: blk g 48 _ :: ensO Ae ce es :: star (enO es) :: K) (Z := Z) (Sub.skip (Sub.skip (Sub.skip (Sub.skip hz)))) hr23 (by omega) hv hm (by decide)) ?_
      rintro ⟨a1, a2, a3⟩ -
      rw [step_no ex (dLong_most hr23.len hl hv hm), DecR_err]
      refine go_Mgb ?_
      exact se_panic ⟨a1, a2, a3⟩ trivial (by exact sub_)
    by_cases hc : n23 - 4 < k1
    · refine sl_die rfl rfl (by kernel_rfl) (by exact sub_) (rLong_die3 (m := 65536) (K := blk ge 50 _ :: blk g 48 _ :: ensO Ae ce es :: star (enO es) :: K) (Z := Z) (Sub.skip (Sub.skip (Sub.skip (Sub.skip hz)))) hr23 (by omega) hv (by omega) hc (by decide)) ?_
      rintro ⟨a1, a2, a3⟩ -
      rw [step_no ex (dLong_cut hr23.len hl hv hm hc), DecR_err]
      refine go_Mgb ?_
      exact se_panic ⟨a1, a2, a3⟩ trivial (by exact sub_)
    refine sl_call rfl rfl (by kernel_rfl) rfl (by exact sub_) (rLong (m := 65536) (K := blk ge 50 _ :: blk g 48 _ :: ensO Ae ce es :: star (enO es) :: K) (Z := Z) (Sub.skip (Sub.skip (Sub.skip (Sub.skip hz)))) hr23 (by omega) hv (by omega) (by omega) (by decide)) ?_
    rintro ⟨⟨P1, P1c⟩, A24, n24, c24⟩ hr24
    replace ex := step_go ex (dLong_go hr23.len hl hv hm hc)
    replace hr24 : Rd Z A24 n24 c24 _ := hr24
    dsimp only at ex ⊢
    have p1l : ((b23.drop 4).take k1).length = k1 := by rw [List.length_take, List.length_drop, hr23.len]; omega
    have p1b : IsBytes ((b23.drop 4).take k1) := (hr23.okb.drop 4).take _
    generalize (b23.drop 4).take k1 = p1 at p1l p1b ex ⊢
    generalize b23.drop (4 + k1) = b24 at hr24 ex
    clear hv hl hc
    subst p1l
    refine go_Mgb ?_
    by_cases hl : n24 < 4
    · refine sl_die rfl rfl (by kernel_rfl) (by exact sub_) (rLong_die (m := 65536) hl) ?_
      rintro _ -
      rw [step_no ex (dLong_no hr24.len hl), DecR_err]
      refine go_Mgb ?_
      exact se_panic ⟨A24, n24, c24⟩ trivial (by exact sub_)
    obtain ⟨k2, hv⟩ := nat_of (leV_t (k := 4) hr24.okb hr24.len hl).1
    by_cases hm : 65536 < k2
    · refine sl_die rfl rfl (by kernel_rfl) (by exact sub_) (rLong_die4 (m := 65536) (K := own 5 1 P1 p1.length P1c (bytes p1) :: blk ge 50 _ :: blk g 48 _ :: ensO Ae ce es :: star (enO es) :: K) (Z := Z) (Sub.skip (Sub.skip (Sub.skip (Sub.skip (Sub.skip hz))))) hr24 (by omega) hv hm (by decide)) ?_
      rintro ⟨a1, a2, a3⟩ -
      rw [step_no ex (dLong_most hr24.len hl hv hm), DecR_err]
      refine go_Mgb ?_
      exact se_panic ⟨a1, a2, a3⟩ trivial (by exact sub_)
    by_cases hc : n24 - 4 < k2
    · refine sl_die rfl rfl (by kernel_rfl) (by exact sub_) (rLong_die3 (m := 65536) (K := own 5 1 P1 p1.length P1c (bytes p1) :: blk ge 50 _ :: blk g 48 _ :: ensO Ae ce es :: star (enO es) :: K) (Z := Z) (Sub.skip (Sub.skip (Sub.skip (Sub.skip (Sub.skip hz))))) hr24 (by omega) hv (by omega) hc (by decide)) ?_
      rintro ⟨a1, a2, a3⟩ -
      rw [step_no ex (dLong_cut hr24.len hl hv hm hc), DecR_err]
      refine go_Mgb ?_
      exact se_panic ⟨a1, a2, a3⟩ trivial (by exact sub_)
    refine sl_call rfl rfl (by kernel_rfl) rfl (by exact sub_) (rLong (m := 65536) (K := own 5 1 P1 p1.length P1c (bytes p1) :: blk ge 50 _ :: blk g 48 _ :: ensO Ae ce es :: star (enO es) :: K) (Z := Z) (Sub.skip (Sub.skip (Sub.skip (Sub.skip (Sub.skip hz))))) hr24 (by omega) hv (by omega) (by omega) (by decide)) ?_
    rintro ⟨⟨P2, P2c⟩, A25, n25, c25⟩ hr25
    replace ex := step_go ex (dLong_go hr24.len hl hv hm hc)
    replace hr25 : Rd Z A25 n25 c25 _ := hr25
    dsimp only at ex ⊢
    have p2l : ((b24.drop 4).take k2).length = k2 := by rw [List.length_take, List.length_drop, hr24.len]; omega
    have p2b : IsBytes ((b24.drop 4).take k2) := (hr24.okb.drop 4).take _
    generalize (b24.drop 4).take k2 = p2 at p2l p2b ex ⊢
    generalize b24.drop (4 + k2) = b25 at hr25 ex
    clear hv hl hc
    subst p2l
    refine go_Mgb ?_
    obtain ⟨e, he⟩ : ∃ e : En, e = ⟨ie, te, P1, p1.length, P1c, p1, P2, p2.length, P2c, p2, co, by omega, by omega, Nat.le_refl _, Nat.le_refl _, p1b, p2b⟩ := ⟨_, rfl⟩
    have hec : ecs ie te P1 p1.length P1c P2 p2.length P2c co = e.cells := by rw [he]; rfl
    have hea : (⟨ie.l, te, p1, p2, co⟩ : Ent) = e.ab := by rw [he]; unfold En.ab En.pub En.sh; simp only [List.take_length]
    have hef : e.full := by rw [he]; exact ⟨rfl, rfl⟩
    have h1 : own 5 1 P1 p1.length P1c (bytes p1) = u8o e.A e.c e.fp := by rw [he]
    have h2 : own 5 1 P2 p2.length P2c (bytes p2) = u8o e.B e.d e.fs := by rw [he]
    rw [hec, h1, h2]
    rw [hea] at ex
    clear he hec hea h1 h2
    refine go_Mgb ?_
    refine sl_build (size := 20) (e := 50) (cells := e.cells) rfl (fun W => build_en e.len W) (by rw [e.len]) (by decide) rfl ?_
    intro gv
    refine sl_app rfl (by exact pick_) rfl (Vw.of_own (A := some ⟨gv, 0, none⟩) (c := 1) (e := 50) (by exact at_)) e.one rfl Try.infoEn (by decide) (by decide) rfl (by unfold maxLen; omega) (by omega) ?_
    intro A3 c3
    refine go_Mgb ?_
    refine se_ent (L' := u8o e.A e.c e.fp :: u8o e.B e.d e.fs :: star (enO es) :: own 50 20 A3 (es.length + 1) c3 (rows En.cells es ++ e.cells) :: blk g 48 (mcs kd jb st mn id.l cd A3 (es.length + 1) c3) :: rdb r A25 n25 c25 :: K) (Ent_.sub (by exact sub_)) ?_
    refine se_ent star_snoc ?_
    refine se_round ⟨j + 1, ⟨A25, n25, c25⟩, b25, A3, c3, es ++ [e]⟩ (by exact has_) ?_ ⟨hlt, hr25, by rw [List.length_append, hel]; rfl, ?_, ?_⟩ (by dsimp only; omega)
    · dsimp only
      unfold ensO
      rw [List.length_append, rows_app, rows_one]
      exact sub_
    · intro x hx
      rcases List.mem_append.1 hx with h | h
      · exact hfu x h
      · rw [List.mem_singleton.1 h]
        exact hef
    · dsimp only
      rw [List.map_append]
      exact ex
  · obtain rfl : j = N := by omega
    rw [Nat.sub_self, contM_zero] at ex
    rw [ex, DecR_ok]
    refine go_Mgb ?_
    exact se_end0 (⟨kd, jb, st, mn, id, cd, Ae, ce, es, by omega, by omega, by omega, by omega, by omega⟩, ⟨A20, n20, c20⟩) ⟨⟨rfl, hfu⟩, hr20⟩ rfl rfl (by exact sub_)
end Go.Proofs.Ytinomilmccopnaa
