/- Chapter 28: the fixed fact; ScriptMany's walk; ScriptHex's walk. -/
import Derived.Test.YtfnjeojaahnlfaaDoorWh
namespace Go.Proofs.YtfnjeojaahnlfaaDoor
open Go.RowKit
attribute [local irreducible] Go.Calls Go.Exit.then Go.Exit.inBlock Go.bodyPost Go.Code.wp Go.wpList
theorem nth_Wi {φ : Prop} (h : φ := by (first | rfl | rfl)) : φ := h
theorem mid_Wi {φ : Prop} (h : φ := by (first | exact Mid.all | exact Mid.all | exact Mid.head)) : φ := h
theorem sz_Wi {φ : Prop} (h : φ := by (first | rfl | (rfl; first | done | fail))) : φ := h
theorem one_Wi {φ : Prop} (h : φ := by (first | assumption | exact one_bytes _ | (simp only [List.mem_cons, List.not_mem_nil, or_false, forall_eq_or_imp, forall_eq]; decide) | exact one_bytes _ | (intro v hv; (repeat (rcases List.mem_cons.1 hv with rfl | hv; rfl)); cases hv))) : φ := h
theorem set_Wi {φ : Prop} (h : φ := by (first | (fail) | ((repeat (first | exact SetAt.here | apply SetAt.there)); first | done | fail))) : φ := h
theorem cl_Wi {φ : Prop} (h : φ := by first | rfl | exact .t | exact .f | exact .t (by omega) | exact .f (by omega) | exact .u | exact .i (by (first | exact .t (by omega) | exact .f (by omega) | exact .u | exact .i (by omega) | exact .v (by omega) | exact .b (by omega) | exact .w | rfl | omega)) | exact .v (by omega) | exact .b (by omega) | exact .q (by omega) | exact .w | exact .b (by exact at_) rfl (by exact nth_Wi) | exact .w (by exact at_) rfl rfl (by exact sz_Wi) | exact .s (by exact at_) (by exact mid_Wi) rfl rfl (by exact sz_Wi) | exact .z rfl rfl ⟨by kernel_rfl⟩ | exact .b rfl rfl ⟨by kernel_rfl⟩ | exact .a rfl rfl ⟨by kernel_rfl⟩ | exact .o rfl | exact .s | exact .n | exact .p rfl | exact .q rfl | exact .c rfl | exact .d rfl | exact .n rfl rfl (by omega) | exact .a rfl rfl (by omega) | exact .p rfl rfl (by omega) (by omega) | exact .y rfl rfl (by omega) (by omega) | exact .o (by exact at_) (by omega) rfl (by exact nth_Wi) | exact .m (by exact at_) (by omega) (by exact mid_Wi) rfl rfl (by exact sz_Wi) | exact .mlen (by exact at_) rfl | exact .t (by exact at_) rfl rfl (by first | exact True.intro | rfl) (by assumption) | exact .f (by exact at_) rfl rfl (by first | exact True.intro | rfl) (by assumption) rfl | exact .t1 (by exact at_) rfl rfl (by first | exact True.intro | rfl) (by assumption) | exact .f1 (by exact at_) rfl rfl (by first | exact True.intro | rfl) (by assumption) rfl | exact .r rfl rfl (by omega) (by omega) (by exact nth_Wi) rfl | exact .s rfl (by omega) (by assumption) | exact at_ | assumption | exact .r rfl rfl | exact .h rfl rfl rfl (by omega) | exact .l rfl rfl rfl (by omega) (by omega) | exact .g rfl rfl rfl rfl (by omega) (by omega) | exact .h rfl rfl (toN_ (by omega)) (by omega) | exact .l rfl rfl (toN_ (by omega)) (by omega) (by omega) | exact .g rfl rfl (toN_ (by omega)) (toN_ (by omega)) (by omega) (by omega) | exact .o (by decide) | exact .f (by decide) | exact .n (by omega) (by first | decide | (show _ ≤ ((64 : Nat) : Int); omega)) | (constructor; (repeat (first | exact .t (by omega) | exact .f (by omega) | exact .u | exact .i (by omega) | exact .v (by omega) | exact .b (by omega) | exact .w | rfl | omega)); first | done | fail) | omega | (show _ ≤ ((64 : Nat) : Int); omega)) : φ := h
theorem pv_Wi {φ : Prop} (h : φ := by constructor; (repeat exact cl_Wi); first | done | fail) : φ := h
theorem su_Wi {φ ψ : Prop} (k : ψ) (h : Hide ψ → φ := by (intro k; (first | refine sl_pu (PuI.sep (by exact pv_Wi)) rfl ?_ | refine sl_yes rfl rfl ?_ | refine sl_no rfl rfl rfl ?_ | refine sl_off rfl rfl rfl ?_ | (fail)); exact k.out)) : φ := h ⟨k⟩
theorem rq_Wi {φ ψ : Prop} (k : ψ) (h : Hide ψ → φ := by (intro k; (first | refine wq_pu (PuI.sep (by exact pv_Wi)) rfl ?_ | refine wq_yes rfl rfl ?_ | refine wq_no rfl rfl rfl ?_ | refine wq_off rfl rfl rfl ?_ | (fail)); exact k.out)) : φ := h ⟨k⟩
theorem sto_Wi {φ ψ : Prop} (k : ψ) (h : Hide ψ → φ := by (intro k; (first | refine sl_store rfl (by exact pick_) rfl rfl (by kernel_rfl) (by exact set_Wi) ?_ | refine sl_store_whole rfl (by exact pick_) rfl (by exact sz_Wi) (by exact sz_Wi) (by exact one_Wi) ?_); exact k.out)) : φ := h ⟨k⟩
theorem go_Wi {φ ψ : Prop} (k : ψ) (h : Hide ψ → φ := by (intro k; (repeat (first | refine su_Wi ?_ | refine so_ ?_ | refine sto_Wi ?_)); exact k.out)) : φ := h ⟨k⟩
theorem exT_ok : ∀ x ∈ linesL exT, ∃ ss, txtSt x = some ss := by
  rw [exT_lines]
  intro x hx
  simp only [List.mem_cons, List.not_mem_nil, or_false] at hx
  rcases hx with rfl | rfl | rfl
  · exact ⟨_, ex1⟩
  · exact ⟨_, ex2⟩
  · exact ⟨_, txt_nil⟩
theorem awake_parse {K : List Fa} (hg : Vw K Glob) : Fn Tryd.prog 10 #[.string (sOf exT)] K (Ret (fun _ : Option Addr × Nat => True) (fun q => .tuple #[.slice q.1 4 q.2, .int .i64 0, .int .i64 0])
      (fun q => own 47 87 q.1 4 q.2 (rows stC [tSt, tSt, tSt, ⟨7, 1, 5⟩]) :: K)) := by
  have h := parse_ok hg exT (by decide) (by decide) exT_ok
  rw [exT_prs] at h
  exact h
set_option maxRecDepth 100000 in
set_option maxHeartbeats 4000000 in
theorem awake28_ok {K : List Fa} (hg : Vw K Glob) : Fn Tryd.prog 5 #[] K (Ret (fun _ : Unit => True) (fun _ => .bool true) (fun _ => K)) := by
  refine fn_enter Tryd.func5 rfl _ Tryd.ntmps5 (by simp) [] (args_of (by simp)) ?_
  refine go_Wi ?_
  refine sl_call rfl rfl (by kernel_rfl) rfl Sub.refl (awake_parse hg) ?_
  rintro ⟨A, c⟩ -
  dsimp only
  refine sl_form (A := A) (by exact at_) (by decide) ?_
  rintro g rfl
  refine go_Wi ?_
  refine sl_pu (pu_ldr (i := 262) (v := .int .i64 1) (Vw.of_own (e := 47) (c := c) (by exact at_)) (by decide) rfl rfl rfl) rfl ?_
  refine go_Wi ?_
  refine sl_pu (pu_ldr (i := 263) (v := .int .u64 5) (Vw.of_own (e := 47) (c := c) (by exact at_)) (by decide) rfl rfl rfl) rfl ?_
  refine go_Wi ?_
  refine sl_build (size := 1) (e := 5) (cells := [.int .u8 1, .int .u8 255]) rfl (fun W => by kernel_rfl) rfl (by decide) rfl ?_
  intro g2
  refine sl_yes rfl rfl ?_
  refine sl_call rfl rfl (by kernel_rfl) rfl Sub.refl (hex_ok (bs := [1, 255]) (Vw.of_own (e := 5) (A := some ⟨g2, 0, none⟩) (c := 2) (by exact at_)) (fun x hx => by simp at hx; omega) (by decide)) ?_
  rintro _ -
  rw [show hexS [1, 255] = ⟨#[48, 49, 102, 102]⟩ from by rfl]
  refine go_Wi ?_
  exact se_ret1 () trivial rfl rfl (by exact sub_)
theorem manyT_ascii (k : Nat) : ∀ b ∈ manyT k, b.toNat < 128 := by
  intro b hb
  unfold manyT at hb
  simp only [List.mem_append, List.mem_cons, List.not_mem_nil, or_false] at hb
  rcases hb with (h | h | h | h) | h | h | h | (h | h | h | h) | h
  all_goals first | (subst h; decide) | (have := prL_digits k b h; omega)
theorem many_ok {k : Nat} (hk : k ≤ 4096) : ∀ x ∈ linesL (manyT k), ∃ ss, txtSt x = some ss := by
  rw [manyT_lines]
  intro x hx
  simp only [List.mem_cons, List.not_mem_nil, or_false] at hx
  rcases hx with rfl | rfl | rfl
  · exact ⟨_, txt_many hk⟩
  · exact ⟨_, txt_tick⟩
  · exact ⟨_, txt_nil⟩
theorem manyT_len {k : Nat} (hk : k ≤ 4096) : (manyT k).length ≤ 1048576 := by
  have := (prL_19 (n := k) (by omega)).2 (by omega)
  unfold manyT
  simp
  omega
theorem prt_sOf (n : Nat) : prt n = sOf (prL n) := (Lib.mk_data _).symm
theorem many_text (k : Nat) : (⟨#[116, 105, 99, 107, 32]⟩ : ByteArray) ++ prt k ++ ⟨#[10, 116, 105, 99, 107, 10]⟩ = sOf (manyT k) := by
  rw [prt_sOf]
  apply ByteArray.ext
  simp [manyT]
theorem many_parse {K : List Fa} (hg : Vw K Glob) {k : Nat} (hk : k ≤ 4096) : Fn Tryd.prog 10 #[.string (sOf (manyT k))] K (Ret (fun _ : Option Addr × Nat => True) (fun q => .tuple #[.slice q.1 (if k = 4096 then 0 else k + 1) q.2, .int .i64 (if k = 4096 then 2 else 0), .int .i64 (if k = 4096 then 5 else 0)]) (fun _ => K)) := by
  have h := parse_ok hg (manyT k) (manyT_len hk) (manyT_ascii k) (many_ok hk)
  rw [many_prs hk] at h
  refine h.mono ?_
  rintro e w ⟨q, _, rfl, hs⟩
  refine ⟨q, trivial, ?_, hs.tl⟩
  split <;> simp
set_option maxRecDepth 100000 in
set_option maxHeartbeats 4000000 in
theorem scriptMany_ok {K : List Fa} (hg : Vw K Glob) {n : Nat} (hn : n ≤ 65535) : Fn Tryd.prog 4 #[.int .u16 n] K (Ret (fun _ : Unit => True) (fun _ => .bool true) (fun _ => K)) := by
  refine fn_enter Tryd.func4 rfl _ Tryd.ntmps4 (by simp) [(0, .int .u16 n)] (args_of (by simp)) ?_
  obtain ⟨k, hk⟩ : ∃ k, n % 4097 = k := ⟨_, rfl⟩
  have hk2 : k ≤ 4096 := by omega
  have z2 := prt_20 (show k ≤ 18446744073709551615 by omega)
  have z5 : (⟨#[116, 105, 99, 107, 32]⟩ : ByteArray).size = 5 := rfl
  have z6 : (⟨#[10, 116, 105, 99, 107, 10]⟩ : ByteArray).size = 6 := rfl
  refine go_Wi ?_
  refine sl_call rfl rfl (by kernel_rfl) rfl Sub.refl (awake28_ok hg) ?_
  rintro _ -
  refine go_Wi ?_
  rw [show ((n : Int) % 4097) = ((k : Nat) : Int) from by omega]
  refine sl_call rfl rfl (by kernel_rfl) rfl (by exact sub_) (printed_ok k (by omega)) ?_; rintro _ -
  refine go_Wi ?_
  refine sl_pu (pu_add_str rfl rfl (by omega)) rfl ?_
  refine go_Wi ?_
  refine sl_pu (pu_add_str rfl rfl (by rw [ByteArray.size_append]; omega)) rfl ?_
  rw [many_text]
  refine go_Wi ?_
  refine sl_call rfl rfl (by kernel_rfl) rfl Sub.refl (many_parse hg hk2) ?_
  rintro ⟨A, c⟩ -
  dsimp only
  by_cases h4 : k = 4096
  · simp only [if_pos h4]
    refine go_Wi ?_
    exact se_ret1 () trivial rfl rfl (by exact sub_)
  · simp only [if_neg h4]
    refine go_Wi ?_
    exact se_ret1 () trivial rfl rfl (by exact sub_)
theorem scriptMany_v (n : Int) (W : World) (hg : Glob W) (hn : 0 ≤ n ∧ n ≤ 65535) : Calls Tryd.prog 4 #[.int .u16 n] W fun e w' => e = .returned (.bool true) ∧ Fr Nil W w' := by
  obtain ⟨k, rfl⟩ : ∃ k : Nat, n = k := ⟨n.toNat, by omega⟩
  have h := scriptMany_ok (K := [old W]) (Vw.glob .here hg) (n := k) (by omega)
  unfold Fn at h
  refine (h W (Sep.start W)).mono ?_
  rintro e w' ⟨_, _, rfl, hs⟩
  exact ⟨rfl, hs.old_fr .here⟩
end Go.Proofs.YtfnjeojaahnlfaaDoor
