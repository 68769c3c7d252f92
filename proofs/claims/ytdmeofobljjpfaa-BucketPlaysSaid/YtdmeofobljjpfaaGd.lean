/- Vectors of elements, place by place. -/
import Derived.Test.YtdmeofobljjpfaaGc
import Derived.Test.YtdmeofobljjpfaaMv
namespace Go.Proofs.Ytdmeofobljjpfaa
open Go.RowKit
attribute [local irreducible] Go.Calls Go.Exit.then Go.Exit.inBlock Go.bodyPost Go.Code.wp Go.wpList
/-- An owned row of elements. -/
abbrev eo (A : Option Addr) (n c : Nat) (xs : List Int) : Fa := own 65 2 A n c (rows eC xs)
def Els (xs : List Int) : Prop := ∀ x ∈ xs, El x
theorem eC_zero : eC 0 = List.replicate 2 (.int .u64 0) := rfl
theorem vwe_len {K : List Fa} {A : Option Addr} {n : Nat} {xs : List Int} (hr : Vw K (fun w => Reads w 2 A n (rows eC xs))) : ∀ w, Sep w K → xs.length = n := fun w hw => by
  have := (hr w hw).1
  rw [rows_len eC_len] at this
  omega
/-- The first j of a list, noughts behind them. -/
def fillz (zs : List Int) (j : Nat) : List Int := zs.take j ++ List.replicate (zs.length - j) 0
theorem fillz_len (zs : List Int) {j : Nat} (h : j ≤ zs.length) : (fillz zs j).length = zs.length := by simp [fillz]; omega
theorem fillz_all (zs : List Int) : fillz zs zs.length = zs := by simp [fillz]
theorem fillz_zero (zs : List Int) : fillz zs 0 = List.replicate zs.length 0 := by simp [fillz]
theorem fillz_set {zs : List Int} {j : Nat} (h : j < zs.length) : (fillz zs j).set j zs[j] = fillz zs (j + 1) := by
  unfold fillz
  rw [List.set_append_right _ _ (by simp; omega), List.length_take, Nat.min_eq_left (by omega), Nat.sub_self, show zs.length - j = (zs.length - (j + 1)) + 1 by omega, List.replicate_succ, List.set_cons_zero, List.take_succ_eq_append_getElem h, List.append_assoc]
  rfl
def zipE (op : Int → Int → Int) (xs ys : List Int) : List Int := List.zipWith op xs ys
theorem zipE_len {op : Int → Int → Int} {xs ys : List Int} {n : Nat} (hx : xs.length = n) (hy : ys.length = n) : (zipE op xs ys).length = n := by simp [zipE, hx, hy]
theorem zipE_at {op : Int → Int → Int} {xs ys : List Int} {j : Nat} (hx : j < xs.length) (hy : j < ys.length) (h : j < (zipE op xs ys).length) : (zipE op xs ys)[j] = op xs[j] ys[j] := by simp [zipE]
theorem zipE_els {op : Int → Int → Int} {xs ys : List Int} (h : ∀ x y, El (op x y)) : Els (zipE op xs ys) := fun z hz => by
  obtain ⟨i, hi, rfl⟩ := List.getElem_of_mem hz
  simp only [zipE, List.getElem_zipWith]
  exact h _ _
theorem els_at {xs : List Int} (h : Els xs) {j : Nat} (hj : j < xs.length) : El xs[j] := h _ (List.getElem_mem hj)
theorem infoE : (Try.prog.info? 65).map (fun i => (i.zero, i.size, i.bytes)) = some (some (.agg #[.int .u64 0, .int .u64 0]), 2, 16) := by kernel_rfl
theorem nth_Gd {φ : Prop} (h : φ := by (first | rfl | rfl)) : φ := h
theorem mid_Gd {φ : Prop} (h : φ := by (first | exact Mid.all | exact Mid.all | exact Mid.head)) : φ := h
theorem sz_Gd {φ : Prop} (h : φ := by (first | rfl | (rfl; first | done | fail))) : φ := h
theorem one_Gd {φ : Prop} (h : φ := by (first | assumption | exact first | exact u2_one _ _ | exact one_bytes _ | (simp only [List.mem_cons, List.not_mem_nil, or_false, forall_eq_or_imp, forall_eq]; decide) | exact one_bytes _)) : φ := h
theorem set_Gd {φ : Prop} (h : φ := by (first | (fail) | ((repeat (first | exact SetAt.here | apply SetAt.there)); first | done | fail))) : φ := h
theorem cl_Gd {φ : Prop} (h : φ := by first | rfl | exact .t | exact .f | exact .t (by omega) | exact .f (by omega) | exact .u | exact .i (by (first | exact .t (by omega) | exact .f (by omega) | exact .u | exact .i (by omega) | exact .v (by omega) | exact .b (by omega) | exact .w | rfl | omega)) | exact .v (by omega) | exact .b (by omega) | exact .q (by omega) | exact .w | exact .b (by exact at_) rfl (by exact nth_Gd) | exact .w (by exact at_) rfl rfl (by exact sz_Gd) | exact .s (by exact at_) (by exact mid_Gd) rfl rfl (by exact sz_Gd) | exact .z rfl rfl ⟨by kernel_rfl⟩ | exact .b rfl rfl ⟨by kernel_rfl⟩ | exact .a rfl rfl ⟨by kernel_rfl⟩ | exact .o rfl | exact .s | exact .n | exact .p rfl | exact .q rfl | exact .c rfl | exact .d rfl | exact .n rfl rfl (by omega) | exact .a rfl rfl (by omega) | exact .p rfl rfl (by omega) (by omega) | exact .y rfl rfl (by omega) (by omega) | exact .o (by exact at_) (by omega) rfl (by exact nth_Gd) | exact .m (by exact at_) (by omega) (by exact mid_Gd) rfl rfl (by exact sz_Gd) | exact .mlen (by exact at_) rfl | exact .t (by exact at_) rfl rfl (by first | exact True.intro | rfl) (by assumption) | exact .f (by exact at_) rfl rfl (by first | exact True.intro | rfl) (by assumption) rfl | exact .t1 (by exact at_) rfl rfl (by first | exact True.intro | rfl) (by assumption) | exact .f1 (by exact at_) rfl rfl (by first | exact True.intro | rfl) (by assumption) rfl | exact .r rfl rfl (by omega) (by omega) (by exact nth_Gd) rfl | exact .s rfl (by omega) (by assumption) | exact at_ | assumption | exact .r rfl rfl | exact .h rfl rfl rfl (by omega) | exact .l rfl rfl rfl (by omega) (by omega) | exact .g rfl rfl rfl rfl (by omega) (by omega) | exact .h rfl rfl (toN_ (by omega)) (by omega) | exact .l rfl rfl (toN_ (by omega)) (by omega) (by omega) | exact .g rfl rfl (toN_ (by omega)) (toN_ (by omega)) (by omega) (by omega) | exact .o (by decide) | exact .f (by decide) | exact .n (by omega) (by first | decide | (show _ ≤ ((64 : Nat) : Int); omega)) | (constructor; (repeat (first | exact .t (by omega) | exact .f (by omega) | exact .u | exact .i (by omega) | exact .v (by omega) | exact .b (by omega) | exact .w | rfl | omega)); first | done | fail) | omega | (show _ ≤ ((64 : Nat) : Int); omega)) : φ := h
theorem pv_Gd {φ : Prop} (h : φ := by constructor; (repeat exact cl_Gd); first | done | fail) : φ := h
theorem su_Gd {φ ψ : Prop} (k : ψ) (h : Hide ψ → φ := by (intro k; (first | refine sl_pu (PuI.sep (by exact pv_Gd)) rfl ?_ | refine sl_yes rfl rfl ?_ | refine sl_no rfl rfl rfl ?_ | refine sl_off rfl rfl rfl ?_ | (fail)); exact k.out)) : φ := h ⟨k⟩
theorem rq_Gd {φ ψ : Prop} (k : ψ) (h : Hide ψ → φ := by (intro k; (first | refine wq_pu (PuI.sep (by exact pv_Gd)) rfl ?_ | refine wq_yes rfl rfl ?_ | refine wq_no rfl rfl rfl ?_ | refine wq_off rfl rfl rfl ?_ | (fail)); exact k.out)) : φ := h ⟨k⟩
theorem sto_Gd {φ ψ : Prop} (k : ψ) (h : Hide ψ → φ := by (intro k; (first | refine sl_store rfl (by exact pick_) rfl rfl (by kernel_rfl) (by exact set_Gd) ?_ | refine sl_store_whole rfl (by exact pick_) rfl (by exact sz_Gd) (by exact sz_Gd) (by exact one_Gd) ?_); exact k.out)) : φ := h ⟨k⟩
theorem go_Gd {φ ψ : Prop} (k : ψ) (h : Hide ψ → φ := by (intro k; (repeat (first | refine su_Gd ?_ | refine so_ ?_ | refine sto_Gd ?_)); exact k.out)) : φ := h ⟨k⟩
set_option maxRecDepth 100000 in
set_option maxHeartbeats 2000000 in
theorem pair_ok {K : List Fa} {A B : Option Addr} {n ca cb : Nat} {xs ys : List Int} {F : FuncId} {fst : List Value} {op : Int → Int → Int} (hf : callable Try.prog F = true)
    (hop : ∀ {K' : List Fa} {x y : Int}, El x → El y → Fn Try.prog F (fst ++ [Value.agg (eC x).toArray, .agg (eC y).toArray] ++ []).toArray K' (Ret (fun _ : Unit => True) (fun _ => .agg (eC (op x y)).toArray) (fun _ => K')))
    (hx : Vw K (fun w => Reads w 2 A n (rows eC xs))) (hy : Vw K (fun w => Reads w 2 B n (rows eC ys))) (ex : Els xs) (ey : Els ys) (hn : n ≤ 1000000) :
    Fn Try.prog 41 #[.slice A n ca, .slice B n cb, .func (.func F) fst.toArray #[]] K (Ret (fun _ : Nat => True) (fun g => .tuple #[.slice (some ⟨g, 0, none⟩) n n, .int .i64 0]) (fun g => eo (some ⟨g, 0, none⟩) n n (zipE op xs ys) :: K)) := by
  refine fn_know (vwe_len hx) ?_
  intro hlx
  refine fn_know (vwe_len hy) ?_
  intro hly
  refine fn_enter Try.func41 rfl _ Try.ntmps41 (by simp) [(0, .slice A n ca), (1, .slice B n cb), (2, .func (.func F) fst.toArray #[])] (args_of (by simp)) ?_
  have hz : (zipE op xs ys).length = n := zipE_len hlx hly
  refine go_Gd ?_
  refine sl_make (lo := .tmp 16) (i := default) (k := n) (c := n) (bytes := 16) (size := 2) (z := .agg #[.int .u64 0, .int .u64 0]) (e := 65) rfl rfl rfl infoE (Nat.le_refl _) (by omega) (by unfold maxLen; omega) rfl ?_
  intro g
  rw [show ((madeCells (Value.agg #[.int .u64 0, .int .u64 0]).cells (n * 2)).toList.take (n * 2)) = rows eC (fillz (zipE op xs ys) 0) by rw [fillz_zero, hz]; exact made_rows (k := 1) rfl]
  refine go_Gd ?_
  refine sc_for (fun j : Nat => [(0, .slice A n ca), (1, .slice B n cb), (2, .func (.func F) fst.toArray #[]), (8, .slice (some ⟨g, 0, none⟩) n n), (19, .int .i64 n), (20, .int .i64 j)]) (fun j => eo (some ⟨g, 0, none⟩) n n (fillz (zipE op xs ys) j) :: K) (fun j => j ≤ n) (fun j => n - j) 0 (by exact has_) (by exact sub_) (Nat.zero_le _) ?_
  rintro j hj
  by_cases hlt : j < n
  case neg =>
    obtain rfl : j = n := by omega
    rw [show fillz (zipE op xs ys) j = zipE op xs ys by conv => lhs; rw [← hz]
                                                        exact fillz_all _]
    refine go_Gd ?_
    exact se_ret2 g trivial rfl rfl rfl rfl (by exact sub_)
  have hjx : j < xs.length := by omega
  have hjy : j < ys.length := by omega
  refine sc_know (vw_form (L := eo (some ⟨g, 0, none⟩) n n (fillz (zipE op xs ys) j) :: K) (hx.mono (by exact sub_)) (by omega)) ?_
  rintro ⟨a1, rfl⟩
  refine sc_know (vw_form (L := eo (some ⟨g, 0, none⟩) n n (fillz (zipE op xs ys) j) :: K) (hy.mono (by exact sub_)) (by omega)) ?_
  rintro ⟨a2, rfl⟩
  have hs : (rows eC (fillz (zipE op xs ys) j)).take (j * 2) ++ eC (op xs[j] ys[j]) ++ (rows eC (fillz (zipE op xs ys) j)).drop (j * 2 + (eC (op xs[j] ys[j])).length) = rows eC (fillz (zipE op xs ys) (j + 1)) := by
    rw [← zipE_at (op := op) hjx hjy (by omega), ← fillz_set (by omega)]
    exact rows_put eC_len _ (by rw [fillz_len _ (by omega)]; omega)
  refine go_Gd ?_
  refine sd_drawn (S2 (K) []) (fun _ => true) (by kernel_rfl) 14 rfl ?_
  refine sd_yes2 0 rfl (by exact gd_) (by kernel_rfl) (by kernel_rfl) (by exact nop_) (PuI.all2 (by exact pv_Gd)) rfl (fun w hw => ⟨hw.sub (by exact sub_), by exact all_ hw⟩) ?_
  refine sd_yes2 1 rfl (by exact gd_) (by kernel_rfl) (by kernel_rfl) (by exact nop_) (PuI.all2 (by exact pv_Gd)) rfl (fun w hw => ⟨hw.sub (by exact sub_), by exact all_ hw⟩) ?_
  refine sd_yes2 2 rfl (by exact gd_) (by kernel_rfl) (by kernel_rfl) (by exact nop_) (PuI.all2 (by exact pv_Gd)) rfl (fun w hw => ⟨hw.sub (by exact sub_), by exact all_ hw⟩) ?_
  refine sd_yes2 3 rfl (by exact gd_) (by kernel_rfl) (by kernel_rfl) (by exact nop_) (PuI.all2 (by exact pv_Gd)) rfl (fun w hw => ⟨hw.sub (by exact sub_), by exact all_ hw⟩) ?_
  refine sd_yes2 4 rfl (by exact gd_) (by kernel_rfl) (by kernel_rfl) (by exact nop_) (PuI.all2 (by exact pv_Gd)) rfl (fun w hw => ⟨hw.sub (by exact sub_), by exact all_ hw⟩) ?_
  refine sd_yes2 5 rfl (by exact gd_) (by kernel_rfl) (by kernel_rfl) (by exact nop_) (PuI.all2 (by exact pv_Gd)) rfl (fun w hw => ⟨hw.sub (by exact sub_), by exact all_ hw⟩) ?_
  refine sd_yes2 6 rfl (by exact gd_) (by kernel_rfl) (by kernel_rfl) (by exact nop_) (pu_sepK (pu_ldrs hx (by omega) rfl (rows_mid eC_len (List.getElem?_eq_getElem hjx)) rfl rfl rfl)) rfl (fun w hw => ⟨hw.sub (by exact sub_), by exact all_ hw⟩) ?_
  refine sd_yes2 7 rfl (by exact gd_) (by kernel_rfl) (by kernel_rfl) (by exact nop_) (PuI.all2 (by exact pv_Gd)) rfl (fun w hw => ⟨hw.sub (by exact sub_), by exact all_ hw⟩) ?_
  refine sd_yes2 8 rfl (by exact gd_) (by kernel_rfl) (by kernel_rfl) (by exact nop_) (PuI.all2 (by exact pv_Gd)) rfl (fun w hw => ⟨hw.sub (by exact sub_), by exact all_ hw⟩) ?_
  refine sd_yes2 9 rfl (by exact gd_) (by kernel_rfl) (by kernel_rfl) (by exact nop_) (PuI.all2 (by exact pv_Gd)) rfl (fun w hw => ⟨hw.sub (by exact sub_), by exact all_ hw⟩) ?_
  refine sd_yes2 10 rfl (by exact gd_) (by kernel_rfl) (by kernel_rfl) (by exact nop_) (pu_sepK (pu_ldrs hy (by omega) rfl (rows_mid eC_len (List.getElem?_eq_getElem hjy)) rfl rfl rfl)) rfl (fun w hw => ⟨hw.sub (by exact sub_), by exact all_ hw⟩) ?_
  refine sd_one 11 (by kernel_rfl) (sa_sl 11 rfl ?_)
  refine sl_callm (cap := []) rfl rfl hf rfl Sub.refl (hop (els_at ex hjx) (els_at ey hjy)) ?_
  rintro _ -
  refine sl_nil ?_
  refine se_sd (fun _ w hw => ⟨hw.sub (by exact sub_), by exact all_ hw⟩) ?_
  refine sd_yes2 12 rfl (by exact gd_) (by kernel_rfl) (by kernel_rfl) (by exact nop_) (PuI.all2 (by exact pv_Gd)) rfl (fun w hw => ⟨hw.sub (by exact sub_), by exact all_ hw⟩) ?_
  refine sd_one 13 (by kernel_rfl) (sa_sl 13 rfl ?_)
  refine sl_sto_mid (i := j * 2) (cl := eC (op xs[j] ys[j])) (by rw [show ((⟨g, 0, none⟩ : Addr).add (j * 2)) = ⟨g, j * 2, none⟩ from at1 g (j * 2)]; rfl) (by exact pick_) rfl rfl (by show j * 2 + 2 ≤ n * 2; omega) (eC_one _) ?_
  rw [hs]
  refine sl_nil ?_
  refine se_sd (fun _ w hw => ⟨hw.sub (by exact sub_), by exact all_ hw⟩) ?_
  refine sd_done (by kernel_rfl) ?_
  refine go_Gd ?_
  exact se_round (j + 1) (by exact has_) (by exact sub_) (by omega) (by omega)
set_option maxRecDepth 100000 in
theorem pair_size {K : List Fa} {A B : Option Addr} {n m ca cb : Nat} {v : Value} (h : n ≠ m) :
    Fn Try.prog 41 #[.slice A n ca, .slice B m cb, v] K (Ret (fun _ : Unit => True) (fun _ => .tuple #[.slice none 0 0, .int .i64 9]) (fun _ => K)) := by
  refine fn_enter Try.func41 rfl _ Try.ntmps41 (by simp) [(0, .slice A n ca), (1, .slice B m cb), (2, v)] (args_of (by simp)) ?_
  refine go_Gd ?_
  exact se_ret2 () trivial rfl rfl rfl rfl (by exact sub_)
theorem callable_fAdd : callable Try.prog 42 = true := by kernel_rfl
def addV (f : Int) (xs ys : List Int) : List Int := zipE (fAdd f) xs ys
theorem addV_els (f : Int) (xs ys : List Int) : Els (addV f xs ys) := zipE_els (fAdd_El f)
set_option maxRecDepth 100000 in
theorem addVec_ok {K : List Fa} {A B : Option Addr} {n ca cb : Nat} {xs ys : List Int} {f : Int}
    (hx : Vw K (fun w => Reads w 2 A n (rows eC xs))) (hy : Vw K (fun w => Reads w 2 B n (rows eC ys))) (ex : Els xs) (ey : Els ys) (hn : n ≤ 1000000) :
    Fn Try.prog 32 #[.int .u8 f, .slice A n ca, .slice B n cb] K (Ret (fun _ : Nat => True) (fun g => .tuple #[.slice (some ⟨g, 0, none⟩) n n, .int .i64 0]) (fun g => eo (some ⟨g, 0, none⟩) n n (addV f xs ys) :: K)) := by
  refine fn_enter Try.func32 rfl _ Try.ntmps32 (by simp) [(0, .int .u8 f), (1, .slice A n ca), (2, .slice B n cb)] (args_of (by simp)) ?_
  refine go_Gd ?_
  refine sl_pu (pu_mkf (fst := [.int .u8 f]) (cap := []) rfl rfl) rfl ?_
  refine sl_call rfl rfl (by kernel_rfl) rfl Sub.refl (pair_ok (fst := [.int .u8 f]) (op := fAdd f) callable_fAdd (fun h1 h2 => fAdd_ok h1 h2) hx hy ex ey hn) ?_
  rintro g -
  refine go_Gd ?_
  exact se_ret2 g trivial rfl rfl rfl rfl (by exact sub_)
set_option maxRecDepth 100000 in
theorem addVec_size {K : List Fa} {A B : Option Addr} {n m ca cb : Nat} {f : Int} (h : n ≠ m) :
    Fn Try.prog 32 #[.int .u8 f, .slice A n ca, .slice B m cb] K (Ret (fun _ : Unit => True) (fun _ => .tuple #[.slice none 0 0, .int .i64 9]) (fun _ => K)) := by
  refine fn_enter Try.func32 rfl _ Try.ntmps32 (by simp) [(0, .int .u8 f), (1, .slice A n ca), (2, .slice B m cb)] (args_of (by simp)) ?_
  refine go_Gd ?_
  refine sl_pu (pu_mkf (fst := [.int .u8 f]) (cap := []) rfl rfl) rfl ?_
  refine sl_call rfl rfl (by kernel_rfl) rfl Sub.refl (pair_size h) ?_
  rintro _ -
  refine go_Gd ?_
  exact se_ret2 () trivial rfl rfl rfl rfl (by exact sub_)
end Go.Proofs.Ytdmeofobljjpfaa
