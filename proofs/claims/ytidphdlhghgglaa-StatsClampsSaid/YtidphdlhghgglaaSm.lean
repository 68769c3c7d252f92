/- Summarize: over facts. -/
import Derived.Test.YtidphdlhghgglaaFo
import Derived.Test.YtidphdlhghgglaaAp
import Derived.Test.YtidphdlhghgglaaApp
namespace Go.Proofs.Ytidphdlhghgglaa
open Go.RowKit
attribute [local irreducible] Go.Calls Go.Exit.then Go.Exit.inBlock Go.bodyPost Go.Code.wp Go.wpList
theorem fn_same {P : Program} {f : FuncId} {args : Array Value} {v : Value} {K : List Fa} (h : ∀ W, Calls P f args W fun e w' => e = .returned v ∧ w' = W) : Fn P f args K (Ret (fun _ : Unit => True) (fun _ => v) (fun _ => K)) := by
  unfold Fn
  intro w hw
  refine (h w).mono ?_
  rintro e w' ⟨rfl, rfl⟩
  exact ⟨(), trivial, rfl, hw⟩
def fl (x : Nat) : Value := .float .f64 x
theorem nan_c (W : World) : Calls Try.prog 13 #[] W fun e w' => e = .returned (.float .f64 9221120237041090561) ∧ w' = W := by
  have h := fun w => run_frombits 9221120237041090561 w
  go_enter Try.func13, Try.ntmps13
  go_wp2
  go_ret
  exact ⟨rfl, rfl⟩
def numsOf : List Nat → List Fp
  | [] => []
  | x :: r => if h : fnan x = false ∧ x < 18446744073709551616 then ⟨x, h.1, h.2⟩ :: numsOf r else numsOf r
theorem nums_cons (x : Nat) (r : List Nat) : numsOf (x :: r) = if h : fnan x = false ∧ x < 18446744073709551616 then ⟨x, h.1, h.2⟩ :: numsOf r else numsOf r := rfl
theorem nums_app : ∀ a b : List Nat, numsOf (a ++ b) = numsOf a ++ numsOf b
  | [], b => rfl
  | x :: r, b => by
    rw [List.cons_append, nums_cons, nums_cons, nums_app r b]
    split <;> rfl
theorem nums_len : ∀ l : List Nat, (numsOf l).length ≤ l.length
  | [] => Nat.le_refl _
  | x :: r => by
    have := nums_len r
    unfold numsOf
    split
    · simp only [List.length_cons]; omega
    · simp only [List.length_cons]; omega
/-- What is said of numbers in their order. -/
def summC (d : List Fp) : List Value := [.int .i64 d.length, fl ((d[0]?.map Fp.x).getD 9221120237041090561), fl ((d[d.length - 1]?.map Fp.x).getD 9221120237041090561), fl ((d[(d.length - 1) / 2]?.map Fp.x).getD 9221120237041090561)]
theorem summC_ne {d : List Fp} (h : d.length ≠ 0) : summC d = [.int .i64 d.length, .float .f64 d[0].x, .float .f64 d[d.length - 1].x, .float .f64 d[(d.length - 1) / 2].x] := by
  unfold summC
  rw [List.getElem?_eq_getElem (by omega), List.getElem?_eq_getElem (by omega), List.getElem?_eq_getElem (by omega)]
  rfl
theorem infoF64 : (Try.prog.info? 24).map (fun i => (i.zero, i.size, i.bytes)) = some (some (.float .f64 0), 1, 8) := by kernel_rfl
theorem fl_one {x : Nat} : ∀ u ∈ [Value.float .f64 x], u.oneCell' = true := by
  intro u hu
  rw [List.mem_singleton] at hu
  subst hu
  rfl
structure Sg where
  j : Nat
  A : Option Addr
  c : Nat
theorem summ_one {k : IntKind} {n : Int} {a b c : Nat} : ∀ u ∈ [Value.int k n, .float .f64 a, .float .f64 b, .float .f64 c], u.oneCell' = true := by
  intro u hu
  simp only [List.mem_cons, List.not_mem_nil, or_false] at hu
  rcases hu with rfl | rfl | rfl | rfl <;> rfl
theorem nth_Sm {φ : Prop} (h : φ := by (first | rfl | assumption)) : φ := h
theorem mid_Sm {φ : Prop} (h : φ := by (first | exact Mid.all | exact Mid.all | exact Mid.head)) : φ := h
theorem sz_Sm {φ : Prop} (h : φ := by (first | rfl | (rfl; first | done | fail))) : φ := h
theorem one_Sm {φ : Prop} (h : φ := by (first | assumption | exact first | exact summ_one | exact one_bytes _ | (simp only [List.mem_cons, List.not_mem_nil, or_false, forall_eq_or_imp, forall_eq]; decide) | exact one_bytes _)) : φ := h
theorem set_Sm {φ : Prop} (h : φ := by (first | (fail) | ((repeat (first | exact SetAt.here | apply SetAt.there)); first | done | fail))) : φ := h
theorem cl_Sm {φ : Prop} (h : φ := by first | rfl | exact .t | exact .f | exact .t (by omega) | exact .f (by omega) | exact .u | exact .i (by (first | exact .t (by omega) | exact .f (by omega) | exact .u | exact .i (by omega) | exact .v (by omega) | exact .b (by omega) | exact .w | rfl | omega)) | exact .v (by omega) | exact .b (by omega) | exact .q (by omega) | exact .w | exact .b (by exact at_) rfl (by exact nth_Sm) | exact .w (by exact at_) rfl rfl (by exact sz_Sm) | exact .s (by exact at_) (by exact mid_Sm) rfl rfl (by exact sz_Sm) | exact .z rfl rfl ⟨by kernel_rfl⟩ | exact .b rfl rfl ⟨by kernel_rfl⟩ | exact .a rfl rfl ⟨by kernel_rfl⟩ | exact .o rfl | exact .s | exact .n | exact .p rfl | exact .q rfl | exact .c rfl | exact .d rfl | exact .n rfl rfl (by omega) | exact .a rfl rfl (by omega) | exact .p rfl rfl (by omega) (by omega) | exact .y rfl rfl (by omega) (by omega) | exact .o (by exact at_) (by omega) rfl (by exact nth_Sm) | exact .m (by exact at_) (by omega) (by exact mid_Sm) rfl rfl (by exact sz_Sm) | exact .mlen (by exact at_) rfl | exact .t (by exact at_) rfl rfl (by first | exact True.intro | rfl) (by assumption) | exact .f (by exact at_) rfl rfl (by first | exact True.intro | rfl) (by assumption) rfl | exact .t1 (by exact at_) rfl rfl (by first | exact True.intro | rfl) (by assumption) | exact .f1 (by exact at_) rfl rfl (by first | exact True.intro | rfl) (by assumption) rfl | exact .r rfl rfl (by omega) (by omega) (by exact nth_Sm) rfl | exact .s rfl (by omega) (by assumption) | exact at_ | assumption | exact .r rfl rfl | exact .h rfl rfl rfl (by omega) | exact .l rfl rfl rfl (by omega) (by omega) | exact .g rfl rfl rfl rfl (by omega) (by omega) | exact .h rfl rfl (toN_ (by omega)) (by omega) | exact .l rfl rfl (toN_ (by omega)) (by omega) (by omega) | exact .g rfl rfl (toN_ (by omega)) (toN_ (by omega)) (by omega) (by omega) | exact .o (by decide) | exact .f (by decide) | exact .n (by omega) (by first | decide | (show _ ≤ ((64 : Nat) : Int); omega)) | (constructor; (repeat (first | exact .t (by omega) | exact .f (by omega) | exact .u | exact .i (by omega) | exact .v (by omega) | exact .b (by omega) | exact .w | rfl | omega)); first | done | fail) | omega | (show _ ≤ ((64 : Nat) : Int); omega)) : φ := h
theorem pv_Sm {φ : Prop} (h : φ := by constructor; (repeat exact cl_Sm); first | done | fail) : φ := h
theorem su_Sm {φ ψ : Prop} (k : ψ) (h : Hide ψ → φ := by (intro k; (first | refine sl_pu (PuI.sep (by exact pv_Sm)) rfl ?_ | refine sl_yes rfl rfl ?_ | refine sl_no rfl rfl rfl ?_ | refine sl_off rfl rfl rfl ?_ | (fail)); exact k.out)) : φ := h ⟨k⟩
theorem rq_Sm {φ ψ : Prop} (k : ψ) (h : Hide ψ → φ := by (intro k; (first | refine wq_pu (PuI.sep (by exact pv_Sm)) rfl ?_ | refine wq_yes rfl rfl ?_ | refine wq_no rfl rfl rfl ?_ | refine wq_off rfl rfl rfl ?_ | (fail)); exact k.out)) : φ := h ⟨k⟩
theorem sto_Sm {φ ψ : Prop} (k : ψ) (h : Hide ψ → φ := by (intro k; (first | refine sl_store rfl (by exact pick_) rfl rfl (by kernel_rfl) (by exact set_Sm) ?_ | refine sl_store_whole rfl (by exact pick_) rfl (by exact sz_Sm) (by exact sz_Sm) (by exact one_Sm) ?_); exact k.out)) : φ := h ⟨k⟩
theorem go_Sm {φ ψ : Prop} (k : ψ) (h : Hide ψ → φ := by (intro k; (repeat (first | refine su_Sm ?_ | refine so_ ?_ | refine sto_Sm ?_)); exact k.out)) : φ := h ⟨k⟩
set_option maxRecDepth 100000 in
set_option maxHeartbeats 2000000 in
theorem summ_ok {K : List Fa} {A : Option Addr} {c : Nat} {xs : List Nat} (hr : Vw K (fun w => Reads w 1 A xs.length (xs.map fl))) (hb : ∀ x ∈ xs, x < 18446744073709551616) (hn : xs.length ≤ 4096) :
    Fn Try.prog 10 #[.slice A xs.length c] K (Ret (fun d : List Fp => d.Perm (numsOf xs) ∧ d.Pairwise (fun a b => key a.x ≤ key b.x)) (fun d => .agg (summC d).toArray) (fun _ => K)) := by
  refine fn_enter Try.func10 rfl _ Try.ntmps10 (by simp) [(0, .slice A xs.length c)] (args_of (by simp)) ?_
  refine go_Sm ?_
  refine sl_alloc rfl rfl rfl ?_; intro g2
  refine go_Sm ?_
  refine sc_for (fun p : Sg => [(2, .pointer (some ⟨g2, 0, none⟩)), (3, .slice p.A (numsOf (xs.take p.j)).length p.c), (13, .slice A xs.length c), (14, .int .i64 xs.length), (15, .int .i64 p.j)]) (fun p => own 24 1 p.A (numsOf (xs.take p.j)).length p.c ((numsOf (xs.take p.j)).map Fp.v) :: blk g2 26 [.int .i64 0, .float .f64 0, .float .f64 0, .float .f64 0] :: K) (fun p => p.j ≤ xs.length) (fun p => xs.length - p.j) ⟨0, none, 0⟩ (by exact has_) (Sub.own_nil (by exact sub_)) (Nat.zero_le _) ?_
  rintro ⟨j, A1, c1⟩ hj
  dsimp only at hj ⊢
  by_cases hlt : j < xs.length
  · have hlen := nums_len (xs.take j)
    rw [List.length_take] at hlen
    have htk : xs.take (j + 1) = xs.take j ++ [xs[j]] := List.take_succ_eq_append_getElem hlt
    have hxb := hb _ (List.getElem_mem hlt)
    have hnx : nth (xs.map fl) (j * 1) = some (.float .f64 xs[j]) := by
      rw [nth_eq, Nat.mul_one, List.getElem?_map, List.getElem?_eq_getElem hlt]
      rfl
    refine sc_know (vw_form (L := own 24 1 A1 (numsOf (xs.take j)).length c1 ((numsOf (xs.take j)).map Fp.v) :: blk g2 26 [.int .i64 0, .float .f64 0, .float .f64 0, .float .f64 0] :: K) (hr.mono (by exact sub_)) (by omega)) ?_
    rintro ⟨ad, rfl⟩
    refine go_Sm ?_
    refine sl_pu (pu_ldr (hr.mono (by exact sub_)) (by omega) rfl rfl hnx) rfl ?_
    refine go_Sm ?_
    refine sl_call rfl rfl (by kernel_rfl) rfl Sub.refl (fn_same (isNaN_c _)) ?_
    rintro _ -
    cases hx : fnan xs[j] with
    | true =>
      have hsame : numsOf (xs.take (j + 1)) = numsOf (xs.take j) := by
        rw [htk, nums_app, nums_cons, dif_neg (by rw [hx]; simp)]
        exact List.append_nil _
      refine go_Sm ?_
      refine se_round ⟨j + 1, A1, c1⟩ (by rw [hsame]; exact has_) (by rw [hsame]; exact sub_) hlt (by show xs.length - (j + 1) < xs.length - j; omega)
    | false =>
      have hnew : numsOf (xs.take (j + 1)) = numsOf (xs.take j) ++ [⟨xs[j], hx, hxb⟩] := by
        rw [htk, nums_app, nums_cons, dif_pos ⟨hx, hxb⟩]
        rfl
      refine go_Sm ?_
      refine sl_build (size := 1) (e := 24) (cells := [Value.float .f64 xs[j]]) rfl (fun W => by kernel_rfl) rfl (by decide) rfl ?_
      intro gb
      refine sl_app (A := A1) (k := (numsOf (xs.take j)).length) (c := c1) rfl (by exact pick_) rfl (Vw.of_own (e := 24) (A := some ⟨gb, 0, none⟩) (c := 1) (by exact at_)) fl_one rfl infoF64 (by decide) (by decide) rfl (by unfold maxLen; omega) (by omega) ?_
      intro A2 c2
      rw [show (numsOf (xs.take j)).map Fp.v ++ [Value.float .f64 xs[j]] = (numsOf (xs.take (j + 1))).map Fp.v by rw [hnew, List.map_append]; rfl, show (numsOf (xs.take j)).length + 1 = (numsOf (xs.take (j + 1))).length by rw [hnew, List.length_append]; rfl]
      refine go_Sm ?_
      refine se_round ⟨j + 1, A2, c2⟩ (by exact has_) (by exact sub_) hlt (by show xs.length - (j + 1) < xs.length - j; omega)
  · obtain rfl : j = xs.length := by omega
    rw [List.take_length]
    have hlen := nums_len xs
    refine go_Sm ?_
    refine sl_call rfl rfl (by kernel_rfl) rfl Sub.refl (sortf_ok (by omega)) ?_
    rintro d ⟨hp, hs⟩
    have hdl := hp.length_eq
    rw [← hdl]
    by_cases h0 : d.length = 0
    · obtain rfl : d = [] := List.eq_nil_of_length_eq_zero h0
      refine go_Sm ?_
      refine sl_call rfl rfl (by kernel_rfl) rfl Sub.refl (fn_same nan_c) ?_
      rintro _ -
      refine go_Sm ?_
      refine sl_pu (pu_build (v := .agg #[.int .i64 0, .float .f64 9221120237041090561, .float .f64 9221120237041090561, .float .f64 9221120237041090561]) rfl (fun W => by kernel_rfl)) rfl ?_
      refine go_Sm ?_
      exact se_ret_c (x := []) ⟨hp, .nil⟩ rfl rfl (by exact at_) rfl rfl rfl rfl (by exact sub_)
    · refine sl_form (e := 24) (size := 1) (A := A1) (m := d.length) (by exact at_) (by omega) ?_
      rintro g rfl
      have n0 : nth (d.map Fp.v) (0 * 1) = some (.float .f64 d[0].x) := by
        rw [nth_eq, Nat.zero_mul, List.getElem?_map, List.getElem?_eq_getElem (by omega)]
        rfl
      have n1 : nth (d.map Fp.v) (((d.length : Int) - 1).toNat * 1) = some (.float .f64 d[d.length - 1].x) := by
        rw [nth_eq, Nat.mul_one, show ((d.length : Int) - 1).toNat = d.length - 1 by omega, List.getElem?_map, List.getElem?_eq_getElem (by omega)]
        rfl
      have n2 : nth (d.map Fp.v) ((((d.length : Int) - 1) / 2).toNat * 1) = some (.float .f64 d[(d.length - 1) / 2].x) := by
        rw [nth_eq, Nat.mul_one, show (((d.length : Int) - 1) / 2).toNat = (d.length - 1) / 2 by omega, List.getElem?_map, List.getElem?_eq_getElem (by omega)]
        rfl
      refine go_Sm ?_
      refine sd_drawn (fun W => AllP W [own 24 1 (some ⟨g, 0, none⟩) d.length c1 (d.map Fp.v)]) (fun _ => true) (by kernel_rfl) 17 rfl ?_
      refine sd_yes2 0 rfl (by exact gd_) (by kernel_rfl) (by kernel_rfl) (by exact nop_) (PuI.all (by exact pv_Sm)) rfl (fun w hw => all_ hw) ?_
      refine sd_yes2 1 rfl (by exact gd_) (by kernel_rfl) (by kernel_rfl) (by exact nop_) (PuI.all (by exact pv_Sm)) rfl (fun w hw => all_ hw) ?_
      refine sd_yes2 2 rfl (by exact gd_) (by kernel_rfl) (by kernel_rfl) (by exact nop_) (PuI.all (by exact pv_Sm)) rfl (fun w hw => all_ hw) ?_
      refine sd_yes2 3 rfl (by exact gd_) (by kernel_rfl) (by kernel_rfl) (by exact nop_) (PuI.all (by exact pv_Sm)) rfl (fun w hw => all_ hw) ?_
      refine sd_yes2 4 rfl (by exact gd_) (by kernel_rfl) (by kernel_rfl) (by exact nop_) (PuI.all (by exact pv_Sm)) rfl (fun w hw => all_ hw) ?_
      refine sd_yes2 5 rfl (by exact gd_) (by kernel_rfl) (by kernel_rfl) (by exact nop_) (PuI.all (by exact pv_Sm)) rfl (fun w hw => all_ hw) ?_
      refine sd_yes2 6 rfl (by exact gd_) (by kernel_rfl) (by kernel_rfl) (by exact nop_) (PuI.all (by exact pv_Sm)) rfl (fun w hw => all_ hw) ?_
      refine sd_yes2 7 rfl (by exact gd_) (by kernel_rfl) (by kernel_rfl) (by exact nop_) (PuI.all (by exact pv_Sm)) rfl (fun w hw => all_ hw) ?_
      refine sd_yes2 8 rfl (by exact gd_) (by kernel_rfl) (by kernel_rfl) (by exact nop_) (PuI.all (by exact pv_Sm)) rfl (fun w hw => all_ hw) ?_
      refine sd_yes2 9 rfl (by exact gd_) (by kernel_rfl) (by kernel_rfl) (by exact nop_) (PuI.all (by exact pv_Sm)) rfl (fun w hw => all_ hw) ?_
      refine sd_yes2 10 rfl (by exact gd_) (by kernel_rfl) (by kernel_rfl) (by exact nop_) (PuI.all (by exact pv_Sm)) rfl (fun w hw => all_ hw) ?_
      refine sd_yes2 11 rfl (by exact gd_) (by kernel_rfl) (by kernel_rfl) (by exact nop_) (PuI.all (by exact pv_Sm)) rfl (fun w hw => all_ hw) ?_
      refine sd_yes2 12 rfl (by exact gd_) (by kernel_rfl) (by kernel_rfl) (by exact nop_) (PuI.all (by exact pv_Sm)) rfl (fun w hw => all_ hw) ?_
      refine sd_yes2 13 rfl (by exact gd_) (by kernel_rfl) (by kernel_rfl) (by exact nop_) (PuI.all (by exact pv_Sm)) rfl (fun w hw => all_ hw) ?_
      refine sd_yes2 14 rfl (by exact gd_) (by kernel_rfl) (by kernel_rfl) (by exact nop_) (PuI.all (by exact pv_Sm)) rfl (fun w hw => all_ hw) ?_
      refine sd_yes2 15 rfl (by exact gd_) (by kernel_rfl) (by kernel_rfl) (by exact nop_) (pu_build (v := .agg #[.int .i64 d.length, .float .f64 d[0].x, .float .f64 d[d.length - 1].x, .float .f64 d[(d.length - 1) / 2].x]) rfl (fun W => by kernel_rfl)) rfl (fun w hw => all_ hw) ?_
      refine sd_one 16 (by kernel_rfl) (sa_sl 16 rfl ?_)
      refine sto_Sm ?_
      refine sl_nil ?_
      refine se_sd (fun _ w hw => all_ hw) ?_
      refine sd_done (by kernel_rfl) ?_
      refine go_Sm ?_
      exact se_ret_c (x := d) ⟨hp, hs⟩ rfl rfl (by exact at_) rfl rfl rfl (congrArg (fun l : List Value => Value.agg l.toArray) (summC_ne h0)) (by exact sub_)
end Go.Proofs.Ytidphdlhghgglaa
