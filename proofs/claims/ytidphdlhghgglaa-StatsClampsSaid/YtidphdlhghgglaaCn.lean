/- StatsClamps: its walk. -/
import Derived.Test.YtidphdlhghgglaaCm
namespace Go.Proofs.Ytidphdlhghgglaa
open Go.RowKit
attribute [local irreducible] Go.Calls Go.Exit.then Go.Exit.inBlock Go.bodyPost Go.Code.wp Go.wpList
theorem pu_fneg0 {P : Program} {C : World → Prop} {n : Nat} {l : Env} {t ty : TypeId} {x : Operand} {a : Nat} (hx : ev l x = some (.float .f64 a)) : Pu P C n l (.unOp .neg t x) ty (.float .f64 (a ^^^ 9223372036854775808)) := by
  unfold Pu
  intro q _ _ _ _ W hs _
  simp only [execOp, hs.ev hx]
  simp [go_sem, Op.unary, Op.negFloat]
  rfl
theorem sob_ {φ ψ : Prop} (k : ψ) (h : Hide ψ → φ := by (intro k; (first | refine sc_seq ?_ | refine sc_region ?_ | refine sl_nil ?_ | refine se_seq ?_ | refine sc_cond rfl (by constructor) ?_ | refine sc_skip ?_ | refine se_blk (by first | exact .n | exact .h | exact .m rfl | exact .r | exact .p) ?_ | refine sc_exit ?_ | refine se_pass (by constructor) ?_ | refine sc_ret ?_); exact k.out)) : φ := h ⟨k⟩
theorem sor_ {φ ψ : Prop} (k : ψ) (h : Hide ψ → φ := by (intro k; (first | refine sc_seq ?_ | refine sl_nil ?_ | refine se_seq ?_ | refine sc_cond rfl (by constructor) ?_ | refine sc_skip ?_ | refine sc_block ?_ | refine se_blk (by first | exact .n | exact .h | exact .m rfl | exact .r | exact .p) ?_ | refine sc_exit ?_ | refine se_pass (by constructor) ?_ | refine sc_ret ?_); exact k.out)) : φ := h ⟨k⟩
structure Tr where
  a : Nat
  b : Nat
  c : Nat
def Tr.cells (p : Tr) : List Value := [.float .f64 p.a, .float .f64 p.b, .float .f64 p.c]
theorem Tr.len (p : Tr) : p.cells.length = 3 := rfl
theorem tr_one {a b c : Nat} : ∀ u ∈ [Value.float .f64 a, .float .f64 b, .float .f64 c], u.oneCell' = true := by
  intro u hu
  simp only [List.mem_cons, List.not_mem_nil, or_false] at hu
  rcases hu with rfl | rfl | rfl <;> rfl
theorem nth_Cn {φ : Prop} (h : φ := by (first | rfl | assumption)) : φ := h
theorem mid_Cn {φ : Prop} (h : φ := by (first | assumption | exact Mid.all | exact Mid.head)) : φ := h
theorem sz_Cn {φ : Prop} (h : φ := by (first | rfl | (rfl; first | done | fail))) : φ := h
theorem one_Cn {φ : Prop} (h : φ := by (first | assumption | exact first | exact tr_one | exact one_bytes _ | (simp only [List.mem_cons, List.not_mem_nil, or_false, forall_eq_or_imp, forall_eq]; decide) | exact one_bytes _)) : φ := h
theorem set_Cn {φ : Prop} (h : φ := by (first | (fail) | ((repeat (first | exact SetAt.here | apply SetAt.there)); first | done | fail))) : φ := h
theorem cl_Cn {φ : Prop} (h : φ := by first | rfl | exact .t | exact .f | exact .t (by omega) | exact .f (by omega) | exact .u | exact .i (by (first | exact .t (by omega) | exact .f (by omega) | exact .u | exact .i (by omega) | exact .v (by omega) | exact .b (by omega) | exact .w | rfl | omega)) | exact .v (by omega) | exact .b (by omega) | exact .q (by omega) | exact .w | exact .b (by exact at_) rfl (by exact nth_Cn) | exact .w (by exact at_) rfl rfl (by exact sz_Cn) | exact .s (by exact at_) (by exact mid_Cn) rfl rfl (by exact sz_Cn) | exact .z rfl rfl ⟨by kernel_rfl⟩ | exact .b rfl rfl ⟨by kernel_rfl⟩ | exact .a rfl rfl ⟨by kernel_rfl⟩ | exact .o rfl | exact .s | exact .n | exact .p rfl | exact .q rfl | exact .c rfl | exact .d rfl | exact .n rfl rfl (by omega) | exact .a rfl rfl (by omega) | exact .p rfl rfl (by omega) (by omega) | exact .y rfl rfl (by omega) (by omega) | exact .o (by exact at_) (by omega) rfl (by exact nth_Cn) | exact .m (by exact at_) (by omega) (by exact mid_Cn) rfl rfl (by exact sz_Cn) | exact .mlen (by exact at_) rfl | exact .t (by exact at_) rfl rfl (by first | exact True.intro | rfl) (by assumption) | exact .f (by exact at_) rfl rfl (by first | exact True.intro | rfl) (by assumption) rfl | exact .t1 (by exact at_) rfl rfl (by first | exact True.intro | rfl) (by assumption) | exact .f1 (by exact at_) rfl rfl (by first | exact True.intro | rfl) (by assumption) rfl | exact .r rfl rfl (by omega) (by omega) (by exact nth_Cn) rfl | exact .s rfl (by omega) (by assumption) | exact at_ | assumption | exact .r rfl rfl | exact .h rfl rfl rfl (by omega) | exact .l rfl rfl rfl (by omega) (by omega) | exact .g rfl rfl rfl rfl (by omega) (by omega) | exact .h rfl rfl (toN_ (by omega)) (by omega) | exact .l rfl rfl (toN_ (by omega)) (by omega) (by omega) | exact .g rfl rfl (toN_ (by omega)) (toN_ (by omega)) (by omega) (by omega) | exact .o (by decide) | exact .f (by decide) | exact .n (by omega) (by first | decide | (show _ ≤ ((64 : Nat) : Int); omega)) | (constructor; (repeat (first | exact .t (by omega) | exact .f (by omega) | exact .u | exact .i (by omega) | exact .v (by omega) | exact .b (by omega) | exact .w | rfl | omega)); first | done | fail) | omega | (show _ ≤ ((64 : Nat) : Int); omega)) : φ := h
theorem pv_Cn {φ : Prop} (h : φ := by constructor; (repeat exact cl_Cn); first | done | fail) : φ := h
theorem su_Cn {φ ψ : Prop} (k : ψ) (h : Hide ψ → φ := by (intro k; (first | refine sl_pu (PuI.sep (by exact pv_Cn)) rfl ?_ | refine sl_yes rfl rfl ?_ | refine sl_no rfl rfl rfl ?_ | refine sl_off rfl rfl rfl ?_ | (first | refine sl_pu (pu_fnn rfl rfl (by assumption)) rfl ?_ | refine sl_pu (pu_fls rfl rfl (by assumption)) rfl ?_ | refine sl_pu (pu_fgt rfl rfl (by assumption)) rfl ?_ | refine sl_pu (pu_fe rfl rfl (by assumption)) rfl ?_ | refine sl_pu (pu_fle rfl rfl (by assumption)) rfl ?_ | refine sl_pu (pu_fneg rfl (by assumption) (by assumption)) rfl ?_)); exact k.out)) : φ := h ⟨k⟩
theorem rq_Cn {φ ψ : Prop} (k : ψ) (h : Hide ψ → φ := by (intro k; (first | refine wq_pu (PuI.sep (by exact pv_Cn)) rfl ?_ | refine wq_yes rfl rfl ?_ | refine wq_no rfl rfl rfl ?_ | refine wq_off rfl rfl rfl ?_ | (fail)); exact k.out)) : φ := h ⟨k⟩
theorem sto_Cn {φ ψ : Prop} (k : ψ) (h : Hide ψ → φ := by (intro k; (first | refine sl_store rfl (by exact pick_) rfl rfl (by kernel_rfl) (by exact set_Cn) ?_ | refine sl_store_whole rfl (by exact pick_) rfl (by exact sz_Cn) (by exact sz_Cn) (by exact one_Cn) ?_); exact k.out)) : φ := h ⟨k⟩
theorem go_Cn {φ ψ : Prop} (k : ψ) (h : Hide ψ → φ := by (intro k; (repeat (first | refine su_Cn ?_ | refine so_ ?_ | refine sto_Cn ?_)); exact k.out)) : φ := h ⟨k⟩
theorem inf_ok {K : List Fa} : Fn Try.prog 14 #[.int .i64 1] K (Ret (fun _ : Unit => True) (fun _ => .float .f64 9218868437227405312) (fun _ => K)) := by
  refine fn_enter Try.func14 rfl _ Try.ntmps14 (by simp) [(0, .int .i64 1)] (args_of (by simp)) ?_
  refine go_Cn ?_
  refine sl_pu (pu_ext (cap := []) rfl rfl (fun W _ => run_frombits 9218868437227405312 W)) rfl ?_
  refine go_Cn ?_
  exact se_ret1 () trivial rfl rfl (by exact sub_)
/-- One round of the inner loop: near, and near the other way round. -/
structure Rd3 where
  i : Nat
set_option maxRecDepth 100000 in
set_option maxHeartbeats 8000000 in
theorem lawClamps_ok {K : List Fa} {x lo hi by' : Nat} (hx : x < 18446744073709551616) (hlo : lo < 18446744073709551616) (hhi : hi < 18446744073709551616) (hby : by' < 18446744073709551616) :
    Fn Try.prog 4 #[.float .f64 x, .float .f64 lo, .float .f64 hi, .float .f64 by'] K (Ret (fun _ : Unit => True) (fun _ => .bool true) (fun _ => K)) := by
  refine fn_enter Try.func4 rfl _ Try.ntmps4 (by simp) [(0, .float .f64 x), (1, .float .f64 lo), (2, .float .f64 hi), (3, .float .f64 by')] (args_of (by simp)) ?_
  refine go_Cn ?_
  refine sl_call rfl rfl (by kernel_rfl) rfl Sub.refl awake30 ?_
  rintro _ -
  refine go_Cn ?_
  refine sl_call rfl rfl (by kernel_rfl) rfl Sub.refl (fn_same nan_c) ?_
  rintro _ -
  refine go_Cn ?_
  refine sl_call rfl rfl (by kernel_rfl) rfl Sub.refl inf_ok ?_
  rintro _ -
  refine go_Cn ?_
  refine sl_pu (pu_build (v := .agg #[.float .f64 x, .float .f64 lo, .float .f64 hi]) rfl (fun W => by kernel_rfl)) rfl ?_
  refine go_Cn ?_
  refine sl_pu (pu_build (v := .agg #[.float .f64 9221120237041090561, .float .f64 lo, .float .f64 hi]) rfl (fun W => by kernel_rfl)) rfl ?_
  refine go_Cn ?_
  refine sl_pu (pu_build (v := .agg #[.float .f64 x, .float .f64 9221120237041090561, .float .f64 hi]) rfl (fun W => by kernel_rfl)) rfl ?_
  refine go_Cn ?_
  refine sl_pu (pu_build (v := .agg #[.float .f64 9218868437227405312, .float .f64 lo, .float .f64 hi]) rfl (fun W => by kernel_rfl)) rfl ?_
  refine go_Cn ?_
  refine sl_pu (pu_fneg0 rfl) rfl ?_
  rw [show 9218868437227405312 ^^^ 9223372036854775808 = 18442240474082181120 by decide]
  refine go_Cn ?_
  refine sl_pu (pu_build (v := .agg #[.float .f64 18442240474082181120, .float .f64 lo, .float .f64 hi]) rfl (fun W => by kernel_rfl)) rfl ?_
  refine go_Cn ?_
  refine sl_pu (pu_fneg0 rfl) rfl ?_
  rw [show 9218868437227405312 ^^^ 9223372036854775808 = 18442240474082181120 by decide]
  refine go_Cn ?_
  refine sl_pu (pu_build (v := .agg #[.float .f64 x, .float .f64 18442240474082181120, .float .f64 9218868437227405312]) rfl (fun W => by kernel_rfl)) rfl ?_
  refine go_Cn ?_
  refine sl_pu (pu_build (v := .agg #[.float .f64 x, .float .f64 lo, .float .f64 lo]) rfl (fun W => by kernel_rfl)) rfl ?_
  obtain ⟨T, hT, hT7, hTb⟩ : ∃ T : List Tr, T = [⟨x, lo, hi⟩, ⟨9221120237041090561, lo, hi⟩, ⟨x, 9221120237041090561, hi⟩, ⟨9218868437227405312, lo, hi⟩, ⟨18442240474082181120, lo, hi⟩, ⟨x, 18442240474082181120, 9218868437227405312⟩, ⟨x, lo, lo⟩] ∧ T.length = 7 ∧ ∀ p ∈ T, p.a < 18446744073709551616 ∧ p.b < 18446744073709551616 ∧ p.c < 18446744073709551616 := by
    refine ⟨_, rfl, rfl, fun p hp => ?_⟩
    simp only [List.mem_cons, List.not_mem_nil, or_false] at hp
    rcases hp with rfl | rfl | rfl | rfl | rfl | rfl | rfl <;> refine ⟨?_, ?_, ?_⟩ <;> dsimp only <;> first | assumption | decide
  refine sl_build (size := 3) (e := 32) (cells := rows Tr.cells [⟨x, lo, hi⟩, ⟨9221120237041090561, lo, hi⟩, ⟨x, 9221120237041090561, hi⟩, ⟨9218868437227405312, lo, hi⟩, ⟨18442240474082181120, lo, hi⟩, ⟨x, 18442240474082181120, 9218868437227405312⟩, ⟨x, lo, lo⟩]) rfl (fun W => by kernel_rfl) rfl (by decide) rfl ?_
  intro gT
  rw [← hT]
  clear hT
  refine go_Cn ?_
  refine sc_for (fun j : Nat => [(3, .float .f64 by'), (9, .float .f64 9221120237041090561), (10, .float .f64 9218868437227405312), (55, .slice (some ⟨gT, 0, none⟩) 7 7), (56, .int .i64 7), (57, .int .i64 j)]) (fun _ => own 32 3 (some ⟨gT, 0, none⟩) 7 7 (rows Tr.cells T) :: K) (fun j => j ≤ 7) (fun j => 7 - j) 0 (by exact has_) (by exact sub_) (by omega) ?_
  intro j hj
  by_cases hlt : j < 7
  · obtain ⟨p, hp⟩ : ∃ p, T[j]? = some p := ⟨_, List.getElem?_eq_getElem (by omega)⟩
    obtain ⟨ha, hb, hc⟩ := hTb p (List.mem_of_getElem? hp)
    have hmid := rows_mid Tr.len hp
    obtain ⟨p0, p1, p2⟩ := p
    unfold Tr.cells at hmid
    dsimp only at ha hb hc hmid
    refine go_Cn ?_
    refine sl_alloc rfl rfl rfl ?_; intro g12
    refine sl_store_whole (cl := [.float .f64 p0, .float .f64 p1, .float .f64 p2]) rfl (by exact pick_) rfl rfl (by rfl) tr_one ?_
    repeat (first | refine su_Cn ?_ | refine sob_ ?_)
    refine sl_call rfl rfl (by kernel_rfl) rfl Sub.refl clamp_ok ?_
    rintro _ -
    have hWl := clV_lt ha hb hc
    obtain ⟨W, hW⟩ : ∃ W, clV p0 p1 p2 = W := ⟨_, rfl⟩
    rw [hW] at hWl ⊢
    repeat (first | refine su_Cn ?_ | refine sob_ ?_)
    refine sc_join (fun _ : Unit => [(3, .float .f64 by'), (9, .float .f64 9221120237041090561), (10, .float .f64 9218868437227405312), (12, .pointer (some ⟨g12, 0, none⟩)), (13, .float .f64 W.1), (14, .int .i64 W.2), (15, .float .f64 W.1), (16, .int .i64 W.2), (55, .slice (some ⟨gT, 0, none⟩) 7 7), (56, .int .i64 7), (57, .int .i64 j)]) (fun _ => blk g12 32 [.float .f64 p0, .float .f64 p1, .float .f64 p2] :: own 32 3 (some ⟨gT, 0, none⟩) 7 7 (rows Tr.cells T) :: K) (fun _ => True) ?_ ?_
    · cases h1 : fnan p1 with
      | true =>
        obtain rfl : W = (0, 28) := by rw [← hW]; simp [clV, h1]
        refine go_Cn ?_
        exact se_mid () (by exact has_) (by exact sub_) trivial
      | false =>
      cases h2 : fnan p2 with
      | true =>
        obtain rfl : W = (0, 28) := by rw [← hW]; simp [clV, h2]
        refine go_Cn ?_
        exact se_mid () (by exact has_) (by exact sub_) trivial
      | false =>
      cases h3 : fLt p2 p1 with
      | true =>
        obtain rfl : W = (0, 6) := by rw [← hW]; simp [clV, h1, h2, h3]
        refine go_Cn ?_
        exact se_mid () (by exact has_) (by exact sub_) trivial
      | false =>
      cases h4 : fnan p0 with
      | true =>
        obtain rfl : W = (p1, 0) := by rw [← hW]; simp [clV, h1, h2, h3, h4]
        refine go_Cn ?_
        exact se_mid () (by exact has_) (by exact sub_) trivial
      | false =>
      cases h5 : fLt p0 p1 with
      | true =>
        obtain rfl : W = (p1, 0) := by rw [← hW]; simp [clV, h1, h2, h3, h4, h5]
        refine go_Cn ?_
        exact se_mid () (by exact has_) (by exact sub_) trivial
      | false =>
      cases h6 : fLt p2 p0 with
      | true =>
        obtain rfl : W = (p2, 0) := by rw [← hW]; simp [clV, h1, h2, h3, h4, h5, h6]
        refine go_Cn ?_
        exact se_mid () (by exact has_) (by exact sub_) trivial
      | false =>
        obtain rfl : W = (p0, 0) := by rw [← hW]; simp [clV, h1, h2, h3, h4, h5, h6]
        refine go_Cn ?_
        exact se_mid () (by exact has_) (by exact sub_) trivial
    · rintro _ -
      refine go_Cn ?_
      refine sl_call rfl rfl (by kernel_rfl) rfl Sub.refl (fn_same (just_c _ _ hWl hWl)) ?_
      rintro _ -
      rw [just_self]
      refine go_Cn ?_
      obtain ⟨ks, hks, hk4⟩ : ∃ ks : List Nat, ks = [by', 0, 9218868437227405312, 9221120237041090561] ∧ ks.length = 4 := ⟨_, rfl, rfl⟩
      refine sl_build (size := 1) (e := 24) (cells := [by', 0, 9218868437227405312, 9221120237041090561].map fl) rfl (fun W => by kernel_rfl) rfl (by decide) rfl ?_
      intro gk
      rw [← hks]
      clear hks
      refine go_Cn ?_
      refine sc_for (fun i : Nat => [(3, .float .f64 by'), (9, .float .f64 9221120237041090561), (10, .float .f64 9218868437227405312), (12, .pointer (some ⟨g12, 0, none⟩)), (55, .slice (some ⟨gT, 0, none⟩) 7 7), (56, .int .i64 7), (57, .int .i64 j), (127, .slice (some ⟨gk, 0, none⟩) 4 4), (128, .int .i64 4), (129, .int .i64 i)]) (fun _ => blk g12 32 [.float .f64 p0, .float .f64 p1, .float .f64 p2] :: own 24 1 (some ⟨gk, 0, none⟩) 4 4 (ks.map fl) :: own 32 3 (some ⟨gT, 0, none⟩) 7 7 (rows Tr.cells T) :: K) (fun i => i ≤ 4) (fun i => 4 - i) 0 (by exact has_) (by exact sub_) (by omega) ?_
      intro i hi
      by_cases hil : i < 4
      · obtain ⟨kv, hkv⟩ : ∃ kv, nth (ks.map fl) (i * 1) = some (.float .f64 kv) := ⟨ks[i], by
          rw [nth_eq, Nat.mul_one, List.getElem?_map, List.getElem?_eq_getElem (by omega)]
          rfl⟩
        repeat (first | refine su_Cn ?_ | refine sor_ ?_)
        refine sc_region ?_
        repeat (first | refine su_Cn ?_ | refine sor_ ?_)
        refine sc_region ?_
        repeat (first | refine su_Cn ?_ | refine sor_ ?_)
        refine sc_join (fun r : Nat => [(3, .float .f64 by'), (9, .float .f64 9221120237041090561), (10, .float .f64 9218868437227405312), (12, .pointer (some ⟨g12, 0, none⟩)), (18, .float .f64 kv), (19, .float .f64 r), (55, .slice (some ⟨gT, 0, none⟩) 7 7), (56, .int .i64 7), (57, .int .i64 j), (127, .slice (some ⟨gk, 0, none⟩) 4 4), (128, .int .i64 4), (129, .int .i64 i)]) (fun _ => blk g12 32 [.float .f64 p0, .float .f64 p1, .float .f64 p2] :: own 24 1 (some ⟨gk, 0, none⟩) 4 4 (ks.map fl) :: own 32 3 (some ⟨gT, 0, none⟩) 7 7 (rows Tr.cells T) :: K) (fun r => r < 18446744073709551616 ∧ (subF p0 p1 = some r ∨ (subF p0 p1 = none ∧ fnan r = true))) ?_ ?_
        · refine sc_region ?_
          repeat (first | refine su_Cn ?_ | refine sor_ ?_)
          refine sl_fsub rfl rfl rfl (fun r hr => ?_) (fun hr r hn hrl => ?_)
          · repeat (first | refine su_Cn ?_ | refine sor_ ?_)
            exact se_mid r (by exact has_) (by exact sub_) ⟨sub_lt hr, .inl hr⟩
          · repeat (first | refine su_Cn ?_ | refine sor_ ?_)
            exact se_mid r (by exact has_) (by exact sub_) ⟨hrl, .inr ⟨hr, hn⟩⟩
        rintro r ⟨hrl, hr⟩
        refine sc_mid (fun ap : Nat => [(3, .float .f64 by'), (9, .float .f64 9221120237041090561), (10, .float .f64 9218868437227405312), (12, .pointer (some ⟨g12, 0, none⟩)), (18, .float .f64 kv), (19, .float .f64 ap), (55, .slice (some ⟨gT, 0, none⟩) 7 7), (56, .int .i64 7), (57, .int .i64 j), (127, .slice (some ⟨gk, 0, none⟩) 4 4), (128, .int .i64 4), (129, .int .i64 i)]) (fun _ => blk g12 32 [.float .f64 p0, .float .f64 p1, .float .f64 p2] :: own 24 1 (some ⟨gk, 0, none⟩) 4 4 (ks.map fl) :: own 32 3 (some ⟨gT, 0, none⟩) 7 7 (rows Tr.cells T) :: K) (fun ap => nearF p0 p1 kv = ((fEq p0 p1 || (fnan p0 && fnan p1)) || fLe ap kv)) ?_ ?_
        · have hN0 : ∀ s, (match subF p0 p1 with | some r => fLe (absF r) kv | none => false) = s → nearF p0 p1 kv = ((fEq p0 p1 || (fnan p0 && fnan p1)) || s) := fun s h => by
            unfold nearF sameF
            exact congrArg (fun z => ((fEq p0 p1 || (fnan p0 && fnan p1)) || z)) h
          cases hlt0 : fLt r 0 with
          | true =>
            have hng := lt0_neg hrl hlt0
            refine go_Cn ?_
            refine se_mid (absF r) (by exact has_) (by exact sub_) (hN0 _ ?_)
            rcases hr with hr | ⟨_, hn⟩
            · rw [hr]
            · rw [fLt_nan (.inl hn)] at hlt0
              cases hlt0
          | false =>
            refine go_Cn ?_
            refine se_mid r (by exact has_) (by exact sub_) (hN0 _ ?_)
            rcases hr with hr | ⟨hr, hn⟩
            · rw [hr]
              exact (le_abs hrl hlt0).symm
            · rw [hr, le_nan hn]
        clear hr hrl
        rintro ap hN0
        refine sc_mid (fun _ : Unit => [(3, .float .f64 by'), (9, .float .f64 9221120237041090561), (10, .float .f64 9218868437227405312), (12, .pointer (some ⟨g12, 0, none⟩)), (18, .float .f64 kv), (20, .bool (nearF p0 p1 kv)), (55, .slice (some ⟨gT, 0, none⟩) 7 7), (56, .int .i64 7), (57, .int .i64 j), (127, .slice (some ⟨gk, 0, none⟩) 4 4), (128, .int .i64 4), (129, .int .i64 i)]) (fun _ => blk g12 32 [.float .f64 p0, .float .f64 p1, .float .f64 p2] :: own 24 1 (some ⟨gk, 0, none⟩) 4 4 (ks.map fl) :: own 32 3 (some ⟨gT, 0, none⟩) 7 7 (rows Tr.cells T) :: K) (fun _ => True) ?_ ?_
        · cases e1 : fEq p0 p1 with
          | true =>
            rw [e1, Bool.true_or, Bool.true_or] at hN0
            rw [hN0]
            refine go_Cn ?_
            exact se_mid () (by exact has_) (by exact sub_) trivial
          | false =>
          cases e2 : fnan p0 with
          | false =>
            cases e4 : fLe ap kv
            all_goals
              rw [e1, e2, e4] at hN0
              rw [hN0]
              refine go_Cn ?_
              exact se_mid () (by exact has_) (by exact sub_) trivial
          | true =>
          cases e3 : fnan p1 with
          | true =>
            rw [e1, e2, e3] at hN0
            rw [show nearF p0 p1 kv = true by rw [hN0]; rfl]
            refine go_Cn ?_
            exact se_mid () (by exact has_) (by exact sub_) trivial
          | false =>
            cases e4 : fLe ap kv
            all_goals
              rw [e1, e2, e3, e4] at hN0
              rw [hN0]
              refine go_Cn ?_
              exact se_mid () (by exact has_) (by exact sub_) trivial
        rintro _ -
        clear hN0
        refine go_Cn ?_
        refine sl_call rfl rfl (by kernel_rfl) rfl Sub.refl near_ok ?_
        rintro _ -
        cases hN : nearF p0 p1 kv
        all_goals
          refine go_Cn ?_
          refine sl_call rfl rfl (by kernel_rfl) rfl Sub.refl near_ok ?_
          rintro _ -
          rw [near_comm p1 p0 kv, hN]
          refine go_Cn ?_
          exact se_round (i + 1) (by exact has_) (by exact sub_) hil (by omega)
      · obtain rfl : i = 4 := by omega
        refine go_Cn ?_
        exact se_round (j + 1) (by exact has_) (by exact sub_) hlt (by omega)
  · obtain rfl : j = 7 := by omega
    refine go_Cn ?_
    exact se_ret1 () trivial rfl rfl (by exact sub_)
end Go.Proofs.Ytidphdlhghgglaa
