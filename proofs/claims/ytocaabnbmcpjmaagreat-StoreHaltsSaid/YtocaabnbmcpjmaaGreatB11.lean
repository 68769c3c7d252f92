/- Several texts of one claim, one behind the other (Kc, Ks). -/
import Derived.Test.YtocaabnbmcpjmaaGreatB05
import Derived.Test.YtocaabnbmcpjmaaGreatB06
set_option linter.unusedVariables false
set_option linter.unusedSimpArgs false
/- The permutation of package keccak: it gives some function of the state. -/
namespace Go.Proofs.YtocaabnbmcpjmaaGreat
open Go.RowKit
attribute [local irreducible] Go.Calls Go.Exit.then Go.Exit.inBlock Go.bodyPost Go.Code.wp Go.wpList
def us (st : List Int) : List Value := st.map (Value.int .u64)
theorem us_len {st : List Int} : (us st).length = st.length := by simp [us]
theorem us_get {st : List Int} {j : Nat} (h : j < st.length) : (us st)[j]? = some (.int .u64 (st.getD j 0)) := by
  simp [us, List.getD, List.getElem?_eq_getElem h]
theorem us_nth {st : List Int} {tl : List Value} {j : Nat} (h : j < st.length) : nth (us st ++ tl) (0 + j * 1) = some (.int .u64 (st.getD j 0)) := by
  rw [nth_eq, Nat.zero_add, Nat.mul_one, List.getElem?_append_left (by rw [us_len]; exact h), us_get h]
theorem us_nth0 {st : List Int} {j : Nat} (h : j < st.length) : nth (us st) (0 + j * 1) = some (.int .u64 (st.getD j 0)) := by
  rw [nth_eq, Nat.zero_add, Nat.mul_one, us_get h]
theorem us_set {st : List Int} {tl : List Value} {j : Nat} {x : Int} (h : j < st.length) : SetAt (0 + j * 1) (.int .u64 x) (us st ++ tl) (us (st.set j x) ++ tl) := by
  rw [Nat.zero_add, Nat.mul_one]
  have h1 := SetAt.mk (i := j) (v := .int .u64 x) (r := us st ++ tl) (by rw [List.length_append, us_len]; omega)
  rw [List.set_append_left _ _ (by rw [us_len]; exact h)] at h1
  unfold us at h1 ⊢
  rwa [← List.map_set] at h1
theorem us_set0 {st : List Int} {j : Nat} {x : Int} (h : j < st.length) : SetAt (0 + j * 1) (.int .u64 x) (us st) (us (st.set j x)) := by
  have h1 := us_set (tl := []) (x := x) h
  rwa [List.append_nil, List.append_nil] at h1
theorem us_one {st : List Int} : ∀ v ∈ us st, v.oneCell' = true := by
  intro v hv
  obtain ⟨x, _, rfl⟩ := List.mem_map.1 hv
  rfl
def isv (st : List Int) : List Value := st.map (Value.int .i64)
theorem isv_nth {st : List Int} {j : Nat} (h : j < st.length) : nth (isv st) (0 + j * 1) = some (.int .i64 (st.getD j 0)) := by
  rw [nth_eq, Nat.zero_add, Nat.mul_one]
  simp [isv, List.getD, List.getElem?_eq_getElem h]
theorem us_put {st so : List Int} {tl : List Value} (h : so.length = st.length) : (us st ++ tl).take 0 ++ us so ++ (us st ++ tl).drop (0 + (us so).length) = us so ++ tl := by
  have h1 : (us so).length = (us st).length := by rw [us_len, us_len, h]
  rw [List.take_zero, List.nil_append, Nat.zero_add, h1, List.drop_left]
def rotl (x k : Int) : Int := bits .or .u64 (IntKind.u64.wrap (x * 2 ^ k.toNat)) (x / 2 ^ (64 - k).toNat)
def mixA (st : List Int) : Nat → List Int
  | 0 => [0, 0, 0, 0, 0]
  | k + 1 => (mixA st k).set ((k : Int) % 5).toNat (bits .xor .u64 ((mixA st k).getD ((k : Int) % 5).toNat 0) (st.getD k 0))
theorem mixA_len {st : List Int} : ∀ {k : Nat}, (mixA st k).length = 5
  | 0 => rfl
  | k + 1 => by rw [mixA, List.length_set]; exact mixA_len
def mixB (su st : List Int) : Nat → List Int
  | 0 => st
  | k + 1 => (mixB su st k).set k (bits .xor .u64 ((mixB su st k).getD k 0) (bits .xor .u64 (su.getD (((k : Int) + 4) % 5).toNat 0) (rotl (su.getD (((k : Int) + 1) % 5).toNat 0) 1)))
theorem mixB_len {su st : List Int} : ∀ {k : Nat}, (mixB su st k).length = st.length
  | 0 => rfl
  | k + 1 => by rw [mixB, List.length_set]; exact mixB_len
def tblL : List Int := [0, 1, 62, 28, 27, 36, 44, 6, 55, 20, 3, 10, 43, 25, 39, 41, 45, 15, 21, 8, 18, 2, 61, 56, 14]
def movA (st : List Int) : Nat → List Int
  | 0 => [0, 0, 0, 0, 0, 0, 0, 0, 0, 0, 0, 0, 0, 0, 0, 0, 0, 0, 0, 0, 0, 0, 0, 0, 0]
  | k + 1 => (movA st k).set ((k : Int) / 5 + 5 * ((2 * ((k : Int) % 5) + 3 * ((k : Int) / 5)) % 5)).toNat (rotl (st.getD k 0) (tblL.getD k 0))
theorem movA_len {st : List Int} : ∀ {k : Nat}, (movA st k).length = 25
  | 0 => rfl
  | k + 1 => by rw [movA, List.length_set]; exact movA_len
def benA (st : List Int) : Nat → List Int
  | 0 => [0, 0, 0, 0, 0, 0, 0, 0, 0, 0, 0, 0, 0, 0, 0, 0, 0, 0, 0, 0, 0, 0, 0, 0, 0]
  | k + 1 => (benA st k).set k (bits .xor .u64 (st.getD k 0) (bits .and .u64 (compl .u64 (st.getD ((k : Int) / 5 * 5 + ((k : Int) + 1) % 5).toNat 0)) (st.getD ((k : Int) / 5 * 5 + ((k : Int) + 2) % 5).toNat 0)))
theorem benA_len {st : List Int} : ∀ {k : Nat}, (benA st k).length = 25
  | 0 => rfl
  | k + 1 => by rw [benA, List.length_set]; exact benA_len
theorem tbl_bd : ∀ k : Nat, k < 25 → 0 ≤ tblL.getD k 0 ∧ tblL.getD k 0 < 64 := by decide
theorem tbl_len : tblL.length = 25 := rfl
def conL : List Int := [2147516555, 9223372036854775947, 9223372036854808713, 9223372036854808579, 9223372036854808578, 9223372036854775936, 32778, 9223372039002259466, 9223372039002292353, 9223372036854808704, 2147483649, 9223372039002292232]
theorem con_len : conL.length = 12 := rfl
def mixS (st : List Int) : List Int := mixB (mixA st 25) st 25
def movS (st : List Int) : List Int := movA st 25
def benS (st : List Int) : List Int := benA st 25
def perA (st : List Int) : Nat → List Int
  | 0 => st
  | k + 1 => (benS (movS (mixS (perA st k)))).set 0 (bits .xor .u64 ((benS (movS (mixS (perA st k)))).getD 0 0) (conL.getD k 0))
theorem perA_len {st : List Int} (h : st.length = 25) : ∀ {k : Nat}, (perA st k).length = 25
  | 0 => h
  | k + 1 => by rw [perA, List.length_set]; exact benA_len
theorem and_63 {k : Int} (h0 : 0 ≤ k) (h : k < 64) : bits .and .u64 k 63 = k := by
  obtain ⟨j, rfl⟩ : ∃ j : Nat, k = j := ⟨k.toNat, by omega⟩
  have hj : j < 64 := by omega
  clear h0 h
  revert j
  decide
theorem nth_Kc {φ : Prop} (h : φ := by (first | rfl | first | exact isv_nth (by rw [tbl_len]; omega) | exact us_nth (by first | omega | (simp only [mixA_len, mixB_len, movA_len, benA_len]; omega)) | exact us_nth0 (by first | omega | (simp only [mixA_len, mixB_len, movA_len, benA_len]; omega)))) : φ := h
theorem mid_Kc {φ : Prop} (h : φ := by (first | exact Mid.all | exact Mid.all | exact Mid.head)) : φ := h
theorem sz_Kc {φ : Prop} (h : φ := by (first | rfl | (first | (simp only [us_len, mixA_len, mixB_len, movA_len, benA_len]; rfl) | (simp only [us_len, *]; rfl) | simp only [us_len, mixA_len, mixB_len, movA_len, benA_len]; first | done | fail))) : φ := h
theorem one_Kc {φ : Prop} (h : φ := by (first | assumption | exact us_one | (simp only [List.mem_cons, List.not_mem_nil, or_false, forall_eq_or_imp, forall_eq]; decide) | exact one_bytes _ | (intro v hv; (repeat (rcases List.mem_cons.1 hv with rfl | hv; rfl)); cases hv))) : φ := h
theorem set_Kc {φ : Prop} (h : φ := by (first | (first | exact us_set (by first | omega | (simp only [mixA_len, mixB_len, movA_len, benA_len]; omega)) | exact us_set0 (by first | omega | (simp only [mixA_len, mixB_len, movA_len, benA_len]; omega))) | ((repeat (first | exact SetAt.here | apply SetAt.there)); first | done | fail))) : φ := h
theorem cl_Kc {φ : Prop} (h : φ := by first | rfl | exact .t | exact .f | exact .t (by omega) | exact .f (by omega) | exact .u | exact .i (by (first | exact .t (by omega) | exact .f (by omega) | exact .u | exact .i (by omega) | exact .v (by omega) | exact .b (by omega) | exact .w | rfl | omega)) | exact .v (by omega) | exact .b (by omega) | exact .q (by omega) | exact .w | exact .b (by exact at_) rfl (by exact nth_Kc) | exact .w (by exact at_) rfl rfl (by exact sz_Kc) | exact .s (by exact at_) (by exact mid_Kc) rfl rfl (by exact sz_Kc) | exact .z rfl rfl ⟨by kernel_rfl⟩ | exact .b rfl rfl ⟨by kernel_rfl⟩ | exact .a rfl rfl ⟨by kernel_rfl⟩ | exact .o rfl | exact .s | exact .n | exact .p rfl | exact .q rfl | exact .c rfl | exact .d rfl | exact .n rfl rfl (by omega) | exact .a rfl rfl (by omega) | exact .p rfl rfl (by omega) (by omega) | exact .y rfl rfl (by omega) (by omega) | exact .o (by exact at_) (by omega) rfl (by exact nth_Kc) | exact .m (by exact at_) (by omega) (by exact mid_Kc) rfl rfl (by exact sz_Kc) | exact .mlen (by exact at_) rfl | exact .t (by exact at_) rfl rfl (by first | exact True.intro | rfl) (by assumption) | exact .f (by exact at_) rfl rfl (by first | exact True.intro | rfl) (by assumption) rfl | exact .t1 (by exact at_) rfl rfl (by first | exact True.intro | rfl) (by assumption) | exact .f1 (by exact at_) rfl rfl (by first | exact True.intro | rfl) (by assumption) rfl | exact .r rfl rfl (by omega) (by omega) (by exact nth_Kc) rfl | exact .s rfl (by omega) (by assumption) | exact at_ | assumption | exact .r rfl rfl | exact .h rfl rfl rfl (by omega) | exact .l rfl rfl rfl (by omega) (by omega) | exact .g rfl rfl rfl rfl (by omega) (by omega) | exact .h rfl rfl (toN_ (by omega)) (by omega) | exact .l rfl rfl (toN_ (by omega)) (by omega) (by omega) | exact .g rfl rfl (toN_ (by omega)) (toN_ (by omega)) (by omega) (by omega) | exact .o (by decide) | exact .f (by decide) | exact .n (by omega) (by first | decide | (show _ ≤ ((64 : Nat) : Int); omega)) | (constructor; (repeat (first | exact .t (by omega) | exact .f (by omega) | exact .u | exact .i (by omega) | exact .v (by omega) | exact .b (by omega) | exact .w | rfl | omega)); first | done | fail) | omega | (show _ ≤ ((64 : Nat) : Int); omega)) : φ := h
theorem pv_Kc {φ : Prop} (h : φ := by constructor; (repeat exact cl_Kc); first | done | fail) : φ := h
theorem su_Kc {φ ψ : Prop} (k : ψ) (h : Hide ψ → φ := by (intro k; (first | refine sl_pu (PuI.sep (by exact pv_Kc)) rfl ?_ | refine sl_yes rfl rfl ?_ | refine sl_no rfl rfl rfl ?_ | refine sl_off rfl rfl rfl ?_ | (fail)); exact k.out)) : φ := h ⟨k⟩
theorem rq_Kc {φ ψ : Prop} (k : ψ) (h : Hide ψ → φ := by (intro k; (first | refine wq_pu (PuI.sep (by exact pv_Kc)) rfl ?_ | refine wq_yes rfl rfl ?_ | refine wq_no rfl rfl rfl ?_ | refine wq_off rfl rfl rfl ?_ | (fail)); exact k.out)) : φ := h ⟨k⟩
theorem sto_Kc {φ ψ : Prop} (k : ψ) (h : Hide ψ → φ := by (intro k; (first | refine sl_store rfl (by exact pick_) rfl rfl (by kernel_rfl) (by exact set_Kc) ?_ | refine sl_store_whole rfl (by exact pick_) rfl (by exact sz_Kc) (by exact sz_Kc) (by exact one_Kc) ?_); exact k.out)) : φ := h ⟨k⟩
theorem go_Kc {φ ψ : Prop} (k : ψ) (h : Hide ψ → φ := by (intro k; (repeat (first | refine su_Kc ?_ | refine so_ ?_ | refine sto_Kc ?_)); exact k.out)) : φ := h ⟨k⟩
set_option maxRecDepth 100000 in
set_option maxHeartbeats 4000000 in
theorem rotl_ok {K : List Fa} {x k : Int} (h0 : 0 ≤ k) (h : k < 64) :
    Fn Tryz.prog 227 #[.int .u64 x, .int .i64 k] K (Ret (fun _ : Unit => True) (fun _ => .int .u64 (rotl x k)) (fun _ => K)) := by
  refine fn_enter Tryz.func227 rfl _ Tryz.ntmps227 (by simp) [(0, .int .u64 x), (1, .int .i64 k)] (args_of (by simp)) ?_
  have h63 := and_63 h0 h
  refine sc_seq ?_
  refine sc_region ?_
  repeat refine su_Kc ?_
  refine sl_nil ?_
  refine se_seq ?_
  refine sc_seq ?_
  refine sc_region ?_
  repeat refine su_Kc ?_
  rw [h63]
  refine go_Kc ?_
  exact se_ret1 () trivial rfl rfl (by exact sub_)
set_option maxRecDepth 100000 in
set_option maxHeartbeats 4000000 in
theorem mix_ok {K : List Fa} {g : Nat} {t : TypeId} {st : List Int} {tl : List Value} (hl : st.length = 25) :
    Fn Tryz.prog 223 #[.pointer (some ⟨g, 0, none⟩)] (blk g t (us st ++ tl) :: K) (Ret (fun _ : Unit => True) (fun _ => .tuple #[]) (fun _ => blk g t (us (mixS st) ++ tl) :: K)) := by
  refine fn_enter Tryz.func223 rfl _ Tryz.ntmps223 (by simp) [(0, .pointer (some ⟨g, 0, none⟩))] (args_of (by simp)) ?_
  refine go_Kc ?_
  refine sl_alloc rfl rfl rfl ?_; intro gs
  refine go_Kc ?_
  refine sc_for (fun k : Nat => [(0, .pointer (some ⟨g, 0, none⟩)), (2, .pointer (some ⟨gs, 0, none⟩)), (6, .pointer (some ⟨g, 0, none⟩)), (7, .int .i64 k)]) (fun k => blk gs 287 (us (mixA st k)) :: blk g t (us st ++ tl) :: K) (fun k => k ≤ 25) (fun k => 25 - k) 0 (by exact has_) (by exact sub_) (by omega) ?_
  intro k hk
  by_cases hlt : k < 25
  · refine go_Kc ?_
    ((refine sq_region (by kernel_rfl) (by kernel_rfl) ?_; (repeat refine rq_Kc ?_); refine sq_end ?_))
    refine go_Kc ?_
    exact se_round (k + 1) (by exact has_) (by exact sub_) hlt (by omega)
  obtain rfl : k = 25 := by omega
  have hsl : (mixA st 25).length = 5 := mixA_len
  rw [show mixS st = mixB (mixA st 25) st 25 from rfl]
  generalize mixA st 25 = su at hsl ⊢
  refine go_Kc ?_
  refine sc_for (fun k : Nat => [(0, .pointer (some ⟨g, 0, none⟩)), (2, .pointer (some ⟨gs, 0, none⟩)), (21, .int .i64 k)]) (fun k => blk gs 287 (us su) :: blk g t (us (mixB su st k) ++ tl) :: K) (fun k => k ≤ 25) (fun k => 25 - k) 0 (by exact has_) (by exact sub_) (by omega) ?_
  intro k hk
  by_cases hlt : k < 25
  · refine go_Kc ?_
    refine sd_drawn (fun W => AllP W [blk gs 287 (us su), blk g t (us (mixB su st k) ++ tl)]) (fun i => !(List.contains [20] i)) (by kernel_rfl) 21 rfl ?_
    refine sd_yes2 0 rfl (by exact gd_) (by kernel_rfl) (by kernel_rfl) (by exact nop_) (PuI.all (by exact pv_Kc)) rfl (fun w hw => all_ hw) ?_
    refine sd_yes2 1 rfl (by exact gd_) (by kernel_rfl) (by kernel_rfl) (by exact nop_) (PuI.all (by exact pv_Kc)) rfl (fun w hw => all_ hw) ?_
    refine sd_yes2 2 rfl (by exact gd_) (by kernel_rfl) (by kernel_rfl) (by exact nop_) (PuI.all (by exact pv_Kc)) rfl (fun w hw => all_ hw) ?_
    refine sd_yes2 3 rfl (by exact gd_) (by kernel_rfl) (by kernel_rfl) (by exact nop_) (PuI.all (by exact pv_Kc)) rfl (fun w hw => all_ hw) ?_
    refine sd_yes2 4 rfl (by exact gd_) (by kernel_rfl) (by kernel_rfl) (by exact nop_) (PuI.all (by exact pv_Kc)) rfl (fun w hw => all_ hw) ?_
    refine sd_yes2 5 rfl (by exact gd_) (by kernel_rfl) (by kernel_rfl) (by exact nop_) (PuI.all (by exact pv_Kc)) rfl (fun w hw => all_ hw) ?_
    refine sd_yes2 6 rfl (by exact gd_) (by kernel_rfl) (by kernel_rfl) (by exact nop_) (PuI.all (by exact pv_Kc)) rfl (fun w hw => all_ hw) ?_
    refine sd_yes2 7 rfl (by exact gd_) (by kernel_rfl) (by kernel_rfl) (by exact nop_) (PuI.all (by exact pv_Kc)) rfl (fun w hw => all_ hw) ?_
    refine sd_yes2 8 rfl (by exact gd_) (by kernel_rfl) (by kernel_rfl) (by exact nop_) (PuI.all (by exact pv_Kc)) rfl (fun w hw => all_ hw) ?_
    refine sd_yes2 9 rfl (by exact gd_) (by kernel_rfl) (by kernel_rfl) (by exact nop_) (PuI.all (by exact pv_Kc)) rfl (fun w hw => all_ hw) ?_
    refine sd_yes2 10 rfl (by exact gd_) (by kernel_rfl) (by kernel_rfl) (by exact nop_) (PuI.all (by exact pv_Kc)) rfl (fun w hw => all_ hw) ?_
    refine sd_yes2 11 rfl (by exact gd_) (by kernel_rfl) (by kernel_rfl) (by exact nop_) (PuI.all (by exact pv_Kc)) rfl (fun w hw => all_ hw) ?_
    refine sd_yes2 12 rfl (by exact gd_) (by kernel_rfl) (by kernel_rfl) (by exact nop_) (PuI.all (by exact pv_Kc)) rfl (fun w hw => all_ hw) ?_
    refine sd_yes2 13 rfl (by exact gd_) (by kernel_rfl) (by kernel_rfl) (by exact nop_) (PuI.all (by exact pv_Kc)) rfl (fun w hw => all_ hw) ?_
    refine sd_yes2 14 rfl (by exact gd_) (by kernel_rfl) (by kernel_rfl) (by exact nop_) (PuI.all (by exact pv_Kc)) rfl (fun w hw => all_ hw) ?_
    refine sd_yes2 18 rfl (by exact gd_) (by kernel_rfl) (by kernel_rfl) (by exact nop_) (PuI.all (by exact pv_Kc)) rfl (fun w hw => all_ hw) ?_
    refine sd_one 15 (by kernel_rfl) (sa_sl 15 rfl ?_)
    refine sl_call rfl rfl (by kernel_rfl) rfl Sub.refl (rotl_ok (by omega) (by omega)) ?_
    rintro _ -
    refine sl_nil ?_
    refine se_sd (fun _ w hw => all_ hw) ?_
    refine sd_yes2 16 rfl (by exact gd_) (by kernel_rfl) (by kernel_rfl) (by exact nop_) (PuI.all (by exact pv_Kc)) rfl (fun w hw => all_ hw) ?_
    refine sd_yes2 17 rfl (by exact gd_) (by kernel_rfl) (by kernel_rfl) (by exact nop_) (PuI.all (by exact pv_Kc)) rfl (fun w hw => all_ hw) ?_
    refine sd_yes2 19 rfl (by exact gd_) (by kernel_rfl) (by kernel_rfl) (by exact nop_) (PuI.all (by exact pv_Kc)) rfl (fun w hw => all_ hw) ?_
    refine sd_one 20 (by kernel_rfl) (sa_sl 20 rfl ?_)
    refine sto_Kc ?_
    refine sl_nil ?_
    refine se_sd (fun h => absurd h (by decide)) ?_
    refine sd_done (by kernel_rfl) ?_
    refine go_Kc ?_
    exact se_round (k + 1) (by exact has_) (by exact sub_) hlt (by omega)
  obtain rfl : k = 25 := by omega
  refine go_Kc ?_
  exact se_end0 () trivial rfl rfl (by exact sub_)
theorem build_turns (W : World) : (Instr.build 289 #[(0, .int .i64 0), (1, .int .i64 1), (2, .int .i64 62), (3, .int .i64 28), (4, .int .i64 27), (5, .int .i64 36), (6, .int .i64 44), (7, .int .i64 6), (8, .int .i64 55), (9, .int .i64 20), (10, .int .i64 3), (11, .int .i64 10), (12, .int .i64 43), (13, .int .i64 25), (14, .int .i64 39), (15, .int .i64 41), (16, .int .i64 45), (17, .int .i64 15), (18, .int .i64 21), (19, .int .i64 8), (20, .int .i64 18), (21, .int .i64 2), (22, .int .i64 61), (23, .int .i64 56), (24, .int .i64 14)]).run Tryz.prog W = .ok (.agg (isv tblL).toArray) W := by kernel_rfl
theorem build_consts (W : World) : (Instr.build 284 #[(0, .int .u64 2147516555), (1, .int .u64 9223372036854775947), (2, .int .u64 9223372036854808713), (3, .int .u64 9223372036854808579), (4, .int .u64 9223372036854808578), (5, .int .u64 9223372036854775936), (6, .int .u64 32778), (7, .int .u64 9223372039002259466), (8, .int .u64 9223372039002292353), (9, .int .u64 9223372036854808704), (10, .int .u64 2147483649), (11, .int .u64 9223372039002292232)]).run Tryz.prog W = .ok (.agg (us conL).toArray) W := by kernel_rfl
theorem isv_len {st : List Int} : (isv st).length = st.length := by simp [isv]
theorem isv_one {st : List Int} : ∀ v ∈ isv st, v.oneCell' = true := by
  intro v hv
  obtain ⟨x, _, rfl⟩ := List.mem_map.1 hv
  rfl
set_option maxRecDepth 100000 in
set_option maxHeartbeats 4000000 in
theorem turns_ok {K : List Fa} : Fn Tryz.prog 228 #[] K (Ret (fun _ : Unit => True) (fun _ => .agg (isv tblL).toArray) (fun _ => K)) := by
  refine fn_enter Tryz.func228 rfl _ Tryz.ntmps228 (by simp) [] (args_of (by simp)) ?_
  refine go_Kc ?_
  refine sl_alloc rfl rfl rfl ?_; intro g0
  refine go_Kc ?_
  refine sl_pu (pu_build (v := .agg (isv tblL).toArray) rfl build_turns) rfl ?_
  refine sl_store_whole (cl := isv tblL) rfl .here rfl rfl rfl isv_one ?_
  refine go_Kc ?_
  exact se_ret_c () trivial rfl rfl (by exact at_) rfl rfl rfl rfl (by exact sub_)
set_option maxRecDepth 100000 in
set_option maxHeartbeats 4000000 in
theorem consts_ok {K : List Fa} : Fn Tryz.prog 222 #[] K (Ret (fun _ : Unit => True) (fun _ => .agg (us conL).toArray) (fun _ => K)) := by
  refine fn_enter Tryz.func222 rfl _ Tryz.ntmps222 (by simp) [] (args_of (by simp)) ?_
  refine go_Kc ?_
  refine sl_alloc rfl rfl rfl ?_; intro g0
  refine go_Kc ?_
  refine sl_pu (pu_build (v := .agg (us conL).toArray) rfl build_consts) rfl ?_
  refine sl_store_whole (cl := us conL) rfl .here rfl rfl rfl us_one ?_
  refine go_Kc ?_
  exact se_ret_c () trivial rfl rfl (by exact at_) rfl rfl rfl rfl (by exact sub_)
attribute [irreducible] tblL conL
set_option maxRecDepth 100000 in
set_option maxHeartbeats 4000000 in
theorem move_ok {K : List Fa} {g : Nat} {t : TypeId} {st : List Int} {tl : List Value} (hl : st.length = 25) :
    Fn Tryz.prog 224 #[.pointer (some ⟨g, 0, none⟩)] (blk g t (us st ++ tl) :: K) (Ret (fun _ : Unit => True) (fun _ => .tuple #[]) (fun _ => blk g t (us (movS st) ++ tl) :: K)) := by
  refine fn_enter Tryz.func224 rfl _ Tryz.ntmps224 (by simp) [(0, .pointer (some ⟨g, 0, none⟩))] (args_of (by simp)) ?_
  refine go_Kc ?_
  refine sl_call rfl rfl (by kernel_rfl) rfl (by exact sub_) turns_ok ?_
  rintro _ -
  refine go_Kc ?_
  refine sl_alloc rfl rfl rfl ?_; intro gb
  refine sl_store_whole (cl := isv tblL) rfl .here rfl (by rw [isv_len, tbl_len]; rfl) (by rw [isv_len, tbl_len]; rfl) isv_one ?_
  refine go_Kc ?_
  refine sl_alloc rfl rfl rfl ?_; intro go
  refine go_Kc ?_
  refine sc_for (fun k : Nat => [(0, .pointer (some ⟨g, 0, none⟩)), (2, .pointer (some ⟨gb, 0, none⟩)), (3, .pointer (some ⟨go, 0, none⟩)), (9, .pointer (some ⟨g, 0, none⟩)), (10, .int .i64 k)]) (fun k => blk go 272 (us (movA st k)) :: blk gb 289 (isv tblL) :: blk g t (us st ++ tl) :: K) (fun k => k ≤ 25) (fun k => 25 - k) 0 (by exact has_) (by exact sub_) (by omega) ?_
  intro k hk
  by_cases hlt : k < 25
  · obtain ⟨hb0, hb1⟩ := tbl_bd k hlt
    refine go_Kc ?_
    ((refine sq_region (by kernel_rfl) (by kernel_rfl) ?_; (repeat refine rq_Kc ?_); refine sq_end ?_))
    refine go_Kc ?_
    refine sl_call rfl rfl (by kernel_rfl) rfl (by exact sub_) (rotl_ok hb0 hb1) ?_
    rintro _ -
    refine go_Kc ?_
    exact se_round (k + 1) (by exact has_) (by exact sub_) hlt (by omega)
  obtain rfl : k = 25 := by omega
  have hsl : (movA st 25).length = 25 := movA_len
  rw [show movS st = movA st 25 from rfl]
  generalize movA st 25 = so at hsl ⊢
  refine go_Kc ?_
  refine sl_store_mid rfl (by exact pick_) rfl (by rw [us_len, hsl]; rfl) (by rw [us_len, List.length_append, us_len]; omega) us_one ?_
  rw [us_put (by rw [hsl, hl])]
  refine go_Kc ?_
  exact se_end0 () trivial rfl rfl (by exact sub_)
set_option maxRecDepth 100000 in
set_option maxHeartbeats 4000000 in
theorem bend_ok {K : List Fa} {g : Nat} {t : TypeId} {st : List Int} {tl : List Value} (hl : st.length = 25) :
    Fn Tryz.prog 225 #[.pointer (some ⟨g, 0, none⟩)] (blk g t (us st ++ tl) :: K) (Ret (fun _ : Unit => True) (fun _ => .tuple #[]) (fun _ => blk g t (us (benS st) ++ tl) :: K)) := by
  refine fn_enter Tryz.func225 rfl _ Tryz.ntmps225 (by simp) [(0, .pointer (some ⟨g, 0, none⟩))] (args_of (by simp)) ?_
  refine go_Kc ?_
  refine sl_alloc rfl rfl rfl ?_; intro go
  refine go_Kc ?_
  refine sc_for (fun k : Nat => [(0, .pointer (some ⟨g, 0, none⟩)), (2, .pointer (some ⟨go, 0, none⟩)), (6, .pointer (some ⟨g, 0, none⟩)), (7, .int .i64 k)]) (fun k => blk go 272 (us (benA st k)) :: blk g t (us st ++ tl) :: K) (fun k => k ≤ 25) (fun k => 25 - k) 0 (by exact has_) (by exact sub_) (by omega) ?_
  intro k hk
  by_cases hlt : k < 25
  · refine go_Kc ?_
    ((refine sq_region (by kernel_rfl) (by kernel_rfl) ?_; (repeat refine rq_Kc ?_); refine sq_end ?_))
    refine go_Kc ?_
    refine sd_drawn (fun W => AllP W [blk g t (us st ++ tl)]) (fun _ => true) (by kernel_rfl) 25 rfl ?_
    refine sd_yes2 0 rfl (by exact gd_) (by kernel_rfl) (by kernel_rfl) (by exact nop_) (PuI.all (by exact pv_Kc)) rfl (fun w hw => all_ hw) ?_
    refine sd_yes2 1 rfl (by exact gd_) (by kernel_rfl) (by kernel_rfl) (by exact nop_) (PuI.all (by exact pv_Kc)) rfl (fun w hw => all_ hw) ?_
    refine sd_yes2 2 rfl (by exact gd_) (by kernel_rfl) (by kernel_rfl) (by exact nop_) (PuI.all (by exact pv_Kc)) rfl (fun w hw => all_ hw) ?_
    refine sd_yes2 3 rfl (by exact gd_) (by kernel_rfl) (by kernel_rfl) (by exact nop_) (PuI.all (by exact pv_Kc)) rfl (fun w hw => all_ hw) ?_
    refine sd_yes2 4 rfl (by exact gd_) (by kernel_rfl) (by kernel_rfl) (by exact nop_) (PuI.all (by exact pv_Kc)) rfl (fun w hw => all_ hw) ?_
    refine sd_yes2 5 rfl (by exact gd_) (by kernel_rfl) (by kernel_rfl) (by exact nop_) (PuI.all (by exact pv_Kc)) rfl (fun w hw => all_ hw) ?_
    refine sd_yes2 6 rfl (by exact gd_) (by kernel_rfl) (by kernel_rfl) (by exact nop_) (PuI.all (by exact pv_Kc)) rfl (fun w hw => all_ hw) ?_
    refine sd_yes2 7 rfl (by exact gd_) (by kernel_rfl) (by kernel_rfl) (by exact nop_) (PuI.all (by exact pv_Kc)) rfl (fun w hw => all_ hw) ?_
    refine sd_yes2 8 rfl (by exact gd_) (by kernel_rfl) (by kernel_rfl) (by exact nop_) (PuI.all (by exact pv_Kc)) rfl (fun w hw => all_ hw) ?_
    refine sd_yes2 9 rfl (by exact gd_) (by kernel_rfl) (by kernel_rfl) (by exact nop_) (PuI.all (by exact pv_Kc)) rfl (fun w hw => all_ hw) ?_
    refine sd_yes2 10 rfl (by exact gd_) (by kernel_rfl) (by kernel_rfl) (by exact nop_) (PuI.all (by exact pv_Kc)) rfl (fun w hw => all_ hw) ?_
    refine sd_yes2 11 rfl (by exact gd_) (by kernel_rfl) (by kernel_rfl) (by exact nop_) (PuI.all (by exact pv_Kc)) rfl (fun w hw => all_ hw) ?_
    refine sd_yes2 12 rfl (by exact gd_) (by kernel_rfl) (by kernel_rfl) (by exact nop_) (PuI.all (by exact pv_Kc)) rfl (fun w hw => all_ hw) ?_
    refine sd_yes2 13 rfl (by exact gd_) (by kernel_rfl) (by kernel_rfl) (by exact nop_) (PuI.all (by exact pv_Kc)) rfl (fun w hw => all_ hw) ?_
    refine sd_yes2 14 rfl (by exact gd_) (by kernel_rfl) (by kernel_rfl) (by exact nop_) (PuI.all (by exact pv_Kc)) rfl (fun w hw => all_ hw) ?_
    refine sd_yes2 15 rfl (by exact gd_) (by kernel_rfl) (by kernel_rfl) (by exact nop_) (PuI.all (by exact pv_Kc)) rfl (fun w hw => all_ hw) ?_
    refine sd_yes2 16 rfl (by exact gd_) (by kernel_rfl) (by kernel_rfl) (by exact nop_) (PuI.all (by exact pv_Kc)) rfl (fun w hw => all_ hw) ?_
    refine sd_yes2 17 rfl (by exact gd_) (by kernel_rfl) (by kernel_rfl) (by exact nop_) (PuI.all (by exact pv_Kc)) rfl (fun w hw => all_ hw) ?_
    refine sd_yes2 18 rfl (by exact gd_) (by kernel_rfl) (by kernel_rfl) (by exact nop_) (PuI.all (by exact pv_Kc)) rfl (fun w hw => all_ hw) ?_
    refine sd_yes2 19 rfl (by exact gd_) (by kernel_rfl) (by kernel_rfl) (by exact nop_) (PuI.all (by exact pv_Kc)) rfl (fun w hw => all_ hw) ?_
    refine sd_yes2 20 rfl (by exact gd_) (by kernel_rfl) (by kernel_rfl) (by exact nop_) (PuI.all (by exact pv_Kc)) rfl (fun w hw => all_ hw) ?_
    refine sd_yes2 21 rfl (by exact gd_) (by kernel_rfl) (by kernel_rfl) (by exact nop_) (PuI.all (by exact pv_Kc)) rfl (fun w hw => all_ hw) ?_
    refine sd_yes2 22 rfl (by exact gd_) (by kernel_rfl) (by kernel_rfl) (by exact nop_) (PuI.all (by exact pv_Kc)) rfl (fun w hw => all_ hw) ?_
    refine sd_yes2 23 rfl (by exact gd_) (by kernel_rfl) (by kernel_rfl) (by exact nop_) (PuI.all (by exact pv_Kc)) rfl (fun w hw => all_ hw) ?_
    refine sd_one 24 (by kernel_rfl) (sa_sl 24 rfl ?_)
    refine sto_Kc ?_
    refine sl_nil ?_
    refine se_sd (fun _ w hw => all_ hw) ?_
    refine sd_done (by kernel_rfl) ?_
    refine go_Kc ?_
    exact se_round (k + 1) (by exact has_) (by exact sub_) hlt (by omega)
  obtain rfl : k = 25 := by omega
  have hsl : (benA st 25).length = 25 := benA_len
  rw [show benS st = benA st 25 from rfl]
  generalize benA st 25 = so at hsl ⊢
  refine go_Kc ?_
  refine sl_store_mid rfl (by exact pick_) rfl (by rw [us_len, hsl]; rfl) (by rw [us_len, List.length_append, us_len]; omega) us_one ?_
  rw [us_put (by rw [hsl, hl])]
  refine go_Kc ?_
  exact se_end0 () trivial rfl rfl (by exact sub_)
theorem mixS_len {st : List Int} (h : st.length = 25) : (mixS st).length = 25 := mixB_len.trans h
theorem movS_len {st : List Int} : (movS st).length = 25 := movA_len
theorem benS_len {st : List Int} : (benS st).length = 25 := benA_len
attribute [irreducible] mixS movS benS
end Go.Proofs.YtocaabnbmcpjmaaGreat
/- Package keccak's sponge: Hash gives some function of the bytes. -/
namespace Go.Proofs.YtocaabnbmcpjmaaGreat
open Go.RowKit
attribute [local irreducible] Go.Calls Go.Exit.then Go.Exit.inBlock Go.bodyPost Go.Code.wp Go.wpList
theorem us_nthp {st : List Int} {p : Int} (h : p.toNat < st.length) : nth (us st) p.toNat = some (.int .u64 (st.getD p.toNat 0)) := by
  rw [nth_eq, us_get h]
def perm (st : List Int) : List Int := perA st 12
theorem perm_len {st : List Int} (h : st.length = 25) : (perm st).length = 25 := perA_len h
/-- The sponge's cells behind its state. -/
def spT (ap dom : Int) (gv : Bool) : List Value := [.int .i64 ap, .int .u8 dom, .bool gv]
theorem us_tl0 {st : List Int} {tl : List Value} {i : Nat} (h : st.length = 25) (h2 : 25 ≤ i) : nth (us st ++ tl) i = nth tl (i - 25) := by
  rw [nth_eq, nth_eq, List.getElem?_append_right (by rw [us_len]; omega), us_len, h]
theorem us_set_tl {st : List Int} {tl r : List Value} {i : Nat} {v : Value} (h : st.length = 25) (h2 : 25 ≤ i) (hs : SetAt (i - 25) v tl r) : SetAt i v (us st ++ tl) (us st ++ r) := by
  have h1 := SetAt.tail (a := us st) (b := tl) (i := i - 25) (k := 25) (v := v) (r := r) (by rw [us_len, h]) hs
  rwa [show 25 + (i - 25) = i by omega] at h1
theorem nth_Ks {φ : Prop} (h : φ := by (first | rfl | first | exact us_nth (by first | omega | (simp only [benS_len]; omega)) | exact us_nthp (by rw [con_len]; omega) | exact (us_tl0 (by first | assumption | omega) (by decide)).trans rfl)) : φ := h
theorem mid_Ks {φ : Prop} (h : φ := by (first | exact Mid.all | exact Mid.all | exact Mid.head)) : φ := h
theorem sz_Ks {φ : Prop} (h : φ := by (first | rfl | ((simp only [us_len, *]; rfl); first | done | fail))) : φ := h
theorem one_Ks {φ : Prop} (h : φ := by (first | assumption | exact us_one | (simp only [List.mem_cons, List.not_mem_nil, or_false, forall_eq_or_imp, forall_eq]; decide) | exact one_bytes _ | (intro v hv; (repeat (rcases List.mem_cons.1 hv with rfl | hv; rfl)); cases hv))) : φ := h
theorem set_Ks {φ : Prop} (h : φ := by (first | (first | exact us_set (by first | omega | (simp only [benS_len]; omega)) | exact us_set_tl (by first | assumption | omega) (by decide) (by (repeat (first | exact SetAt.here | apply SetAt.there)); first | done | fail)) | ((repeat (first | exact SetAt.here | apply SetAt.there)); first | done | fail))) : φ := h
theorem cl_Ks {φ : Prop} (h : φ := by first | rfl | exact .t | exact .f | exact .t (by omega) | exact .f (by omega) | exact .u | exact .i (by (first | exact .t (by omega) | exact .f (by omega) | exact .u | exact .i (by omega) | exact .v (by omega) | exact .b (by omega) | exact .w | rfl | omega)) | exact .v (by omega) | exact .b (by omega) | exact .q (by omega) | exact .w | exact .b (by exact at_) rfl (by exact nth_Ks) | exact .w (by exact at_) rfl rfl (by exact sz_Ks) | exact .s (by exact at_) (by exact mid_Ks) rfl rfl (by exact sz_Ks) | exact .z rfl rfl ⟨by kernel_rfl⟩ | exact .b rfl rfl ⟨by kernel_rfl⟩ | exact .a rfl rfl ⟨by kernel_rfl⟩ | exact .o rfl | exact .s | exact .n | exact .p rfl | exact .q rfl | exact .c rfl | exact .d rfl | exact .n rfl rfl (by omega) | exact .a rfl rfl (by omega) | exact .p rfl rfl (by omega) (by omega) | exact .y rfl rfl (by omega) (by omega) | exact .o (by exact at_) (by omega) rfl (by exact nth_Ks) | exact .m (by exact at_) (by omega) (by exact mid_Ks) rfl rfl (by exact sz_Ks) | exact .mlen (by exact at_) rfl | exact .t (by exact at_) rfl rfl (by first | exact True.intro | rfl) (by assumption) | exact .f (by exact at_) rfl rfl (by first | exact True.intro | rfl) (by assumption) rfl | exact .t1 (by exact at_) rfl rfl (by first | exact True.intro | rfl) (by assumption) | exact .f1 (by exact at_) rfl rfl (by first | exact True.intro | rfl) (by assumption) rfl | exact .r rfl rfl (by omega) (by omega) (by exact nth_Ks) rfl | exact .s rfl (by omega) (by assumption) | exact at_ | assumption | exact .r rfl rfl | exact .h rfl rfl rfl (by omega) | exact .l rfl rfl rfl (by omega) (by omega) | exact .g rfl rfl rfl rfl (by omega) (by omega) | exact .h rfl rfl (toN_ (by omega)) (by omega) | exact .l rfl rfl (toN_ (by omega)) (by omega) (by omega) | exact .g rfl rfl (toN_ (by omega)) (toN_ (by omega)) (by omega) (by omega) | exact .o (by decide) | exact .f (by decide) | exact .n (by omega) (by first | decide | (show _ ≤ ((64 : Nat) : Int); omega)) | (constructor; (repeat (first | exact .t (by omega) | exact .f (by omega) | exact .u | exact .i (by omega) | exact .v (by omega) | exact .b (by omega) | exact .w | rfl | omega)); first | done | fail) | omega | (show _ ≤ ((64 : Nat) : Int); omega)) : φ := h
theorem pv_Ks {φ : Prop} (h : φ := by constructor; (repeat exact cl_Ks); first | done | fail) : φ := h
theorem su_Ks {φ ψ : Prop} (k : ψ) (h : Hide ψ → φ := by (intro k; (first | refine sl_pu (PuI.sep (by exact pv_Ks)) rfl ?_ | refine sl_yes rfl rfl ?_ | refine sl_no rfl rfl rfl ?_ | refine sl_off rfl rfl rfl ?_ | (fail)); exact k.out)) : φ := h ⟨k⟩
theorem sto_Ks {φ ψ : Prop} (k : ψ) (h : Hide ψ → φ := by (intro k; (first | refine sl_store rfl (by exact pick_) rfl rfl (by kernel_rfl) (by exact set_Ks) ?_ | refine sl_store_whole rfl (by exact pick_) rfl (by exact sz_Ks) (by exact sz_Ks) (by exact one_Ks) ?_); exact k.out)) : φ := h ⟨k⟩
theorem go_Ks {φ ψ : Prop} (k : ψ) (h : Hide ψ → φ := by (intro k; (repeat (first | refine su_Ks ?_ | refine so_ ?_ | refine sto_Ks ?_)); exact k.out)) : φ := h ⟨k⟩
set_option maxRecDepth 100000 in
set_option maxHeartbeats 4000000 in
theorem perm_ok {K : List Fa} {g : Nat} {t : TypeId} {st : List Int} {tl : List Value} (hl : st.length = 25) :
    Fn Tryz.prog 211 #[.pointer (some ⟨g, 0, none⟩)] (blk g t (us st ++ tl) :: K) (Ret (fun _ : Unit => True) (fun _ => .tuple #[]) (fun _ => blk g t (us (perm st) ++ tl) :: K)) := by
  refine fn_enter Tryz.func211 rfl _ Tryz.ntmps211 (by simp) [(0, .pointer (some ⟨g, 0, none⟩))] (args_of (by simp)) ?_
  refine go_Ks ?_
  refine sl_call rfl rfl (by kernel_rfl) rfl (by exact sub_) consts_ok ?_
  rintro _ -
  refine go_Ks ?_
  refine sc_for (fun k : Nat => [(0, .pointer (some ⟨g, 0, none⟩)), (6, .agg (us conL).toArray), (7, .int .i64 k)]) (fun k => blk g t (us (perA st k) ++ tl) :: K) (fun k => k ≤ 12) (fun k => 12 - k) 0 (by exact has_) (by exact sub_) (by omega) ?_
  intro k hk
  by_cases hlt : k < 12
  · refine go_Ks ?_
    refine sl_call rfl rfl (by kernel_rfl) rfl (by exact sub_) (mix_ok (perA_len hl)) ?_
    rintro _ -
    refine go_Ks ?_
    refine sl_call rfl rfl (by kernel_rfl) rfl (by exact sub_) (move_ok (mixS_len (perA_len hl))) ?_
    rintro _ -
    refine go_Ks ?_
    refine sl_call rfl rfl (by kernel_rfl) rfl (by exact sub_) (bend_ok movS_len) ?_
    rintro _ -
    refine go_Ks ?_
    refine sd_drawn (fun W => AllP W [blk g t (us (benS (movS (mixS (perA st k)))) ++ tl)]) (fun i => !(List.contains [8] i)) (by kernel_rfl) 9 rfl ?_
    refine sd_yes2 0 rfl (by exact gd_) (by kernel_rfl) (by kernel_rfl) (by exact nop_) (PuI.all (by exact pv_Ks)) rfl (fun w hw => all_ hw) ?_
    refine sd_yes2 1 rfl (by exact gd_) (by kernel_rfl) (by kernel_rfl) (by exact nop_) (PuI.all (by exact pv_Ks)) rfl (fun w hw => all_ hw) ?_
    refine sd_yes2 2 rfl (by exact gd_) (by kernel_rfl) (by kernel_rfl) (by exact nop_) (PuI.all (by exact pv_Ks)) rfl (fun w hw => all_ hw) ?_
    refine sd_yes2 3 rfl (by exact gd_) (by kernel_rfl) (by kernel_rfl) (by exact nop_) (PuI.all (by exact pv_Ks)) rfl (fun w hw => all_ hw) ?_
    refine sd_yes2 4 rfl (by exact gd_) (by kernel_rfl) (by kernel_rfl) (by exact nop_) (PuI.all (by exact pv_Ks)) rfl (fun w hw => all_ hw) ?_
    refine sd_yes2 5 rfl (by exact gd_) (by kernel_rfl) (by kernel_rfl) (by exact nop_) (PuI.all (by exact pv_Ks)) rfl (fun w hw => all_ hw) ?_
    refine sd_yes2 6 rfl (by exact gd_) (by kernel_rfl) (by kernel_rfl) (by exact nop_) (PuI.all (by exact pv_Ks)) rfl (fun w hw => all_ hw) ?_
    refine sd_yes2 7 rfl (by exact gd_) (by kernel_rfl) (by kernel_rfl) (by exact nop_) (PuI.all (by exact pv_Ks)) rfl (fun w hw => all_ hw) ?_
    refine sd_one 8 (by kernel_rfl) (sa_sl 8 rfl ?_)
    refine sto_Ks ?_
    refine sl_nil ?_
    refine se_sd (fun h => absurd h (by decide)) ?_
    refine sd_done (by kernel_rfl) ?_
    refine go_Ks ?_
    exact se_round (k + 1) (by exact has_) (by exact sub_) hlt (by omega)
  obtain rfl : k = 12 := by omega
  rw [show perm st = perA st 12 from rfl]
  generalize perA st 12 = so
  refine go_Ks ?_
  exact se_end0 () trivial rfl rfl (by exact sub_)
attribute [irreducible] perm
/-- One byte more, at a place. -/
def flp (st : List Int) (ap c : Int) : List Int := st.set (ap / 8).toNat (bits .xor .u64 (st.getD (ap / 8).toNat 0) (IntKind.u64.wrap (c * 2 ^ (8 * (ap % 8)).toNat)))
theorem flp_len {st : List Int} {ap c : Int} : (flp st ap c).length = st.length := by simp [flp]
set_option maxRecDepth 100000 in
set_option maxHeartbeats 4000000 in
theorem flip_ok {K : List Fa} {g : Nat} {t : TypeId} {st : List Int} {tl : List Value} {ap c : Int} (hl : st.length = 25) (h0 : 0 ≤ ap) (h1 : ap < 200) (hc : 0 ≤ c ∧ c < 256) :
    Fn Tryz.prog 212 #[.pointer (some ⟨g, 0, none⟩), .int .i64 ap, .int .u8 c] (blk g t (us st ++ tl) :: K) (Ret (fun _ : Unit => True) (fun _ => .tuple #[]) (fun _ => blk g t (us (flp st ap c) ++ tl) :: K)) := by
  refine fn_enter Tryz.func212 rfl _ Tryz.ntmps212 (by simp) [(0, .pointer (some ⟨g, 0, none⟩)), (1, .int .i64 ap), (2, .int .u8 c)] (args_of (by simp)) ?_
  refine go_Ks ?_
  refine sd_drawn (fun W => AllP W [blk g t (us st ++ tl)]) (fun i => !(List.contains [17] i)) (by kernel_rfl) 18 rfl ?_
  refine sd_yes2 0 rfl (by exact gd_) (by kernel_rfl) (by kernel_rfl) (by exact nop_) (PuI.all (by exact pv_Ks)) rfl (fun w hw => all_ hw) ?_
  refine sd_yes2 1 rfl (by exact gd_) (by kernel_rfl) (by kernel_rfl) (by exact nop_) (PuI.all (by exact pv_Ks)) rfl (fun w hw => all_ hw) ?_
  refine sd_yes2 2 rfl (by exact gd_) (by kernel_rfl) (by kernel_rfl) (by exact nop_) (PuI.all (by exact pv_Ks)) rfl (fun w hw => all_ hw) ?_
  refine sd_yes2 3 rfl (by exact gd_) (by kernel_rfl) (by kernel_rfl) (by exact nop_) (PuI.all (by exact pv_Ks)) rfl (fun w hw => all_ hw) ?_
  refine sd_yes2 4 rfl (by exact gd_) (by kernel_rfl) (by kernel_rfl) (by exact nop_) (PuI.all (by exact pv_Ks)) rfl (fun w hw => all_ hw) ?_
  refine sd_yes2 5 rfl (by exact gd_) (by kernel_rfl) (by kernel_rfl) (by exact nop_) (PuI.all (by exact pv_Ks)) rfl (fun w hw => all_ hw) ?_
  refine sd_yes2 6 rfl (by exact gd_) (by kernel_rfl) (by kernel_rfl) (by exact nop_) (PuI.all (by exact pv_Ks)) rfl (fun w hw => all_ hw) ?_
  refine sd_yes2 7 rfl (by exact gd_) (by kernel_rfl) (by kernel_rfl) (by exact nop_) (PuI.all (by exact pv_Ks)) rfl (fun w hw => all_ hw) ?_
  refine sd_yes2 8 rfl (by exact gd_) (by kernel_rfl) (by kernel_rfl) (by exact nop_) (PuI.all (by exact pv_Ks)) rfl (fun w hw => all_ hw) ?_
  refine sd_yes2 9 rfl (by exact gd_) (by kernel_rfl) (by kernel_rfl) (by exact nop_) (PuI.all (by exact pv_Ks)) rfl (fun w hw => all_ hw) ?_
  refine sd_yes2 10 rfl (by exact gd_) (by kernel_rfl) (by kernel_rfl) (by exact nop_) (PuI.all (by exact pv_Ks)) rfl (fun w hw => all_ hw) ?_
  refine sd_yes2 11 rfl (by exact gd_) (by kernel_rfl) (by kernel_rfl) (by exact nop_) (PuI.all (by exact pv_Ks)) rfl (fun w hw => all_ hw) ?_
  refine sd_yes2 12 rfl (by exact gd_) (by kernel_rfl) (by kernel_rfl) (by exact nop_) (PuI.all (by exact pv_Ks)) rfl (fun w hw => all_ hw) ?_
  refine sd_yes2 13 rfl (by exact gd_) (by kernel_rfl) (by kernel_rfl) (by exact nop_) (PuI.all (by exact pv_Ks)) rfl (fun w hw => all_ hw) ?_
  refine sd_yes2 14 rfl (by exact gd_) (by kernel_rfl) (by kernel_rfl) (by exact nop_) (PuI.all (by exact pv_Ks)) rfl (fun w hw => all_ hw) ?_
  refine sd_yes2 15 rfl (by exact gd_) (by kernel_rfl) (by kernel_rfl) (by exact nop_) (PuI.all (by exact pv_Ks)) rfl (fun w hw => all_ hw) ?_
  refine sd_yes2 16 rfl (by exact gd_) (by kernel_rfl) (by kernel_rfl) (by exact nop_) (PuI.all (by exact pv_Ks)) rfl (fun w hw => all_ hw) ?_
  refine sd_one 17 (by kernel_rfl) (sa_sl 17 rfl ?_)
  refine sto_Ks ?_
  refine sl_nil ?_
  refine se_sd (fun h => absurd h (by decide)) ?_
  refine sd_done (by kernel_rfl) ?_
  refine go_Ks ?_
  exact se_end0 () trivial rfl rfl (by exact sub_)
def z25 : List Int := [0, 0, 0, 0, 0, 0, 0, 0, 0, 0, 0, 0, 0, 0, 0, 0, 0, 0, 0, 0, 0, 0, 0, 0, 0]
theorem z25_len : z25.length = 25 := rfl
theorem build_sp (dom : Int) (W : World) : (Instr.build 274 #[(2, .int .u8 dom)]).run Tryz.prog W = .ok (.agg (us z25 ++ spT 0 dom false).toArray) W := by kernel_rfl
attribute [irreducible] z25
set_option maxRecDepth 100000 in
set_option maxHeartbeats 4000000 in
theorem newSp_ok {K : List Fa} {dom : Int} (h0 : 1 ≤ dom) (h1 : dom ≤ 127) :
    Fn Tryz.prog 187 #[.int .u8 dom] K (Ret (fun _ : Nat => True) (fun g => .pointer (some ⟨g, 0, none⟩)) (fun g => blk g 274 (us z25 ++ spT 0 dom false) :: K)) := by
  refine fn_enter Tryz.func187 rfl _ Tryz.ntmps187 (by simp) [(0, .int .u8 dom)] (args_of (by simp)) ?_
  refine go_Ks ?_
  refine sl_pu (pu_build (v := .agg (us z25 ++ spT 0 dom false).toArray) rfl (build_sp dom)) rfl ?_
  refine sl_box rfl rfl rfl ?_
  intro g
  refine go_Ks ?_
  exact se_ret1 g trivial rfl rfl (by exact sub_)
def wr1 (p : List Int × Int) (c : Int) : List Int × Int := if p.2 = 168 then (flp (perm p.1) 0 c, 1) else (flp p.1 p.2 c, p.2 + 1)
def wrL (bs : List Int) (p : List Int × Int) : List Int × Int := bs.foldl wr1 p
theorem wrL_snoc (bs : List Int) (c : Int) (p : List Int × Int) : wrL (bs ++ [c]) p = wr1 (wrL bs p) c := by simp [wrL]
theorem wr1_ok {p : List Int × Int} (c : Int) (h : p.1.length = 25 ∧ 0 ≤ p.2 ∧ p.2 ≤ 168) : (wr1 p c).1.length = 25 ∧ 0 ≤ (wr1 p c).2 ∧ (wr1 p c).2 ≤ 168 := by
  unfold wr1
  split
  · exact ⟨by rw [flp_len, perm_len h.1], by show (0 : Int) ≤ 1; decide, by show (1 : Int) ≤ 168; decide⟩
  · exact ⟨by rw [flp_len, h.1], by show 0 ≤ p.2 + 1; omega, by show p.2 + 1 ≤ 168; omega⟩
theorem wrL_ok : ∀ (bs : List Int) {p : List Int × Int}, p.1.length = 25 ∧ 0 ≤ p.2 ∧ p.2 ≤ 168 → (wrL bs p).1.length = 25 ∧ 0 ≤ (wrL bs p).2 ∧ (wrL bs p).2 ≤ 168
  | [], _, h => h
  | c :: r, p, h => wrL_ok r (p := wr1 p c) (wr1_ok c h)
theorem take_snoc {bs : List Int} {k : Nat} (h : k < bs.length) : bs.take (k + 1) = bs.take k ++ [bs[k]] := by
  rw [List.take_succ_eq_append_getElem h]
theorem bytes_nth1 {xs : List Int} {k : Nat} (h : k < xs.length) : nth (bytes xs) (k * 1) = some (.int .u8 xs[k]) := by
  rw [Nat.mul_one, bytes_at h]
set_option maxRecDepth 100000 in
set_option maxHeartbeats 4000000 in
theorem writeSp_ok {K : List Fa} {g n c : Nat} {A : Option Addr} {bs : List Int} {t : TypeId} {st : List Int} {a dom : Int} (hr : Vw K (fun w => Reads w 1 A n (bytes bs))) (hn : bs.length = n) (hb : IsBytes bs) (hm : n ≤ 70368744177664) (hp : st.length = 25 ∧ 0 ≤ a ∧ a ≤ 168) :
    Fn Tryz.prog 188 #[.pointer (some ⟨g, 0, none⟩), .slice A n c] (blk g t (us st ++ spT a dom false) :: K) (Ret (fun _ : Unit => True) (fun _ => .tuple #[]) (fun _ => blk g t (us (wrL bs (st, a)).1 ++ spT (wrL bs (st, a)).2 dom false) :: K)) := by
  refine fn_enter Tryz.func188 rfl _ Tryz.ntmps188 (by simp) [(0, .pointer (some ⟨g, 0, none⟩)), (1, .slice A n c)] (args_of (by simp)) ?_
  obtain ⟨hl, h0, h1⟩ := hp
  refine go_Ks ?_
  refine sc_for (fun p : Nat × List Int × Int => [(0, .pointer (some ⟨g, 0, none⟩)), (14, .slice A n c), (15, .int .i64 n), (16, .int .i64 p.1)]) (fun p => blk g t (us p.2.1 ++ spT p.2.2 dom false) :: K) (fun p => p.1 ≤ n ∧ p.2 = wrL (bs.take p.1) (st, a)) (fun p => n - p.1) (0, st, a) (by exact has_) (by exact sub_) ⟨Nat.zero_le _, rfl⟩ ?_
  rintro ⟨k, s, q⟩ ⟨hk, hs⟩
  replace hk : k ≤ n := hk
  replace hs : (s, q) = wrL (bs.take k) (st, a) := hs
  obtain ⟨hs1, hq0, hq1⟩ : s.length = 25 ∧ 0 ≤ q ∧ q ≤ 168 := by
    have := wrL_ok (bs.take k) (p := (st, a)) ⟨hl, h0, h1⟩
    rw [← hs] at this
    exact this
  dsimp only
  by_cases hlt : k < n
  · have hlt' : k < bs.length := by omega
    have hc := hb _ (List.getElem_mem hlt')
    have hstep : wr1 (s, q) bs[k] = wrL (bs.take (k + 1)) (st, a) := by rw [take_snoc hlt', wrL_snoc, hs]
    refine sc_know (vw_form (hr.mono (L' := blk g t (us s ++ spT q dom false) :: K) (by exact sub_)) (by omega)) ?_
    rintro ⟨ad, rfl⟩
    refine go_Ks ?_
    refine sl_pu (pu_ldr (hr.mono (by exact sub_)) (by omega) rfl rfl (bytes_nth1 hlt')) rfl ?_
    by_cases hq : q = 168
    · subst hq
      refine go_Ks ?_
      refine sl_call rfl rfl (by kernel_rfl) rfl (by exact sub_) (perm_ok hs1) ?_
      rintro _ -
      have hs2 := perm_len hs1
      refine go_Ks ?_
      refine sl_call rfl rfl (by kernel_rfl) rfl (by exact sub_) (flip_ok (tl := spT 0 dom false) hs2 (by omega) (by omega) hc) ?_
      rintro _ -
      have hs3 : (flp (perm s) 0 bs[k]).length = 25 := by rw [flp_len, hs2]
      refine go_Ks ?_
      exact se_round (k + 1, flp (perm s) 0 bs[k], 1) (by exact has_) (by exact sub_) ⟨hlt, by rw [← hstep]; rfl⟩ (by show n - (k + 1) < n - k; omega)
    · refine go_Ks ?_
      refine sl_call rfl rfl (by kernel_rfl) rfl (by exact sub_) (flip_ok (tl := spT q dom false) hs1 (by omega) (by omega) hc) ?_
      rintro _ -
      have hs3 : (flp s q bs[k]).length = 25 := by rw [flp_len, hs1]
      refine go_Ks ?_
      exact se_round (k + 1, flp s q bs[k], q + 1) (by exact has_) (by exact sub_) ⟨hlt, by rw [← hstep]; exact (if_neg hq).symm⟩ (by show n - (k + 1) < n - k; omega)
  obtain rfl : k = n := by omega
  rw [List.take_of_length_le (by omega)] at hs
  rw [← hs]
  refine go_Ks ?_
  exact se_end0 () trivial rfl rfl (by exact sub_)
def endQ (p : List Int × Int) : List Int × Int := if p.2 = 168 then (perm p.1, 0) else p
def endS (dom : Int) (p : List Int × Int) : List Int := perm (flp (flp (endQ p).1 (endQ p).2 dom) 167 128)
theorem endQ_ok {p : List Int × Int} (h : p.1.length = 25 ∧ 0 ≤ p.2 ∧ p.2 ≤ 168) : (endQ p).1.length = 25 ∧ 0 ≤ (endQ p).2 ∧ (endQ p).2 < 168 := by
  unfold endQ
  split
  · exact ⟨perm_len h.1, by show (0 : Int) ≤ 0; decide, by show (0 : Int) < 168; decide⟩
  · exact ⟨h.1, h.2.1, by omega⟩
theorem endS_len {dom : Int} {p : List Int × Int} (h : p.1.length = 25 ∧ 0 ≤ p.2 ∧ p.2 ≤ 168) : (endS dom p).length = 25 := perm_len (by rw [flp_len, flp_len, (endQ_ok h).1])
set_option maxRecDepth 100000 in
set_option maxHeartbeats 4000000 in
theorem endSp_ok {K : List Fa} {g : Nat} {t : TypeId} {st : List Int} {a dom : Int} (hd : 0 ≤ dom ∧ dom < 256) (hp : st.length = 25 ∧ 0 ≤ a ∧ a ≤ 168) :
    Fn Tryz.prog 213 #[.pointer (some ⟨g, 0, none⟩)] (blk g t (us st ++ spT a dom false) :: K) (Ret (fun _ : Unit => True) (fun _ => .tuple #[]) (fun _ => blk g t (us (endS dom (st, a)) ++ spT 0 dom true) :: K)) := by
  refine fn_enter Tryz.func213 rfl _ Tryz.ntmps213 (by simp) [(0, .pointer (some ⟨g, 0, none⟩))] (args_of (by simp)) ?_
  have hq := endQ_ok (p := (st, a)) hp
  obtain ⟨hl, h0, h1⟩ := hp
  refine go_Ks ?_
  refine sc_join (fun _ : Unit => [(0, .pointer (some ⟨g, 0, none⟩))]) (fun _ => blk g t (us (endQ (st, a)).1 ++ spT (endQ (st, a)).2 dom false) :: K) (fun _ => True) ?_ ?_
  · by_cases ha : a = 168
    · subst ha
      refine go_Ks ?_
      refine sl_call rfl rfl (by kernel_rfl) rfl (by exact sub_) (perm_ok hl) ?_
      rintro _ -
      have hs2 := perm_len hl
      refine go_Ks ?_
      exact se_mid () (by exact has_) (by exact sub_) trivial
    · have he : endQ (st, a) = (st, a) := if_neg ha
      rw [decide_eq_false ha]
      refine go_Ks ?_
      exact se_mid () (by exact has_) (by rw [he]; exact sub_) trivial
  rintro _ -
  unfold endS
  generalize endQ (st, a) = p at hq ⊢
  obtain ⟨s, q⟩ := p
  obtain ⟨hs, hq0, hq1⟩ := hq
  replace hs : s.length = 25 := hs
  replace hq0 : 0 ≤ q := hq0
  replace hq1 : q < 168 := hq1
  dsimp only
  refine go_Ks ?_
  refine sd_drawn (fun W => AllP W [blk g t (us s ++ spT q dom false)]) (fun i => !(List.contains [9] i)) (by kernel_rfl) 10 rfl ?_
  refine sd_yes2 0 rfl (by exact gd_) (by kernel_rfl) (by kernel_rfl) (by exact nop_) (PuI.all (by exact pv_Ks)) rfl (fun w hw => all_ hw) ?_
  refine sd_yes2 1 rfl (by exact gd_) (by kernel_rfl) (by kernel_rfl) (by exact nop_) (PuI.all (by exact pv_Ks)) rfl (fun w hw => all_ hw) ?_
  refine sd_yes2 2 rfl (by exact gd_) (by kernel_rfl) (by kernel_rfl) (by exact nop_) (PuI.all (by exact pv_Ks)) rfl (fun w hw => all_ hw) ?_
  refine sd_yes2 3 rfl (by exact gd_) (by kernel_rfl) (by kernel_rfl) (by exact nop_) (PuI.all (by exact pv_Ks)) rfl (fun w hw => all_ hw) ?_
  refine sd_yes2 4 rfl (by exact gd_) (by kernel_rfl) (by kernel_rfl) (by exact nop_) (PuI.all (by exact pv_Ks)) rfl (fun w hw => all_ hw) ?_
  refine sd_yes2 5 rfl (by exact gd_) (by kernel_rfl) (by kernel_rfl) (by exact nop_) (PuI.all (by exact pv_Ks)) rfl (fun w hw => all_ hw) ?_
  refine sd_yes2 6 rfl (by exact gd_) (by kernel_rfl) (by kernel_rfl) (by exact nop_) (PuI.all (by exact pv_Ks)) rfl (fun w hw => all_ hw) ?_
  refine sd_yes2 7 rfl (by exact gd_) (by kernel_rfl) (by kernel_rfl) (by exact nop_) (PuI.all (by exact pv_Ks)) rfl (fun w hw => all_ hw) ?_
  refine sd_yes2 8 rfl (by exact gd_) (by kernel_rfl) (by kernel_rfl) (by exact nop_) (PuI.all (by exact pv_Ks)) rfl (fun w hw => all_ hw) ?_
  refine sd_one 9 (by kernel_rfl) (sa_sl 9 rfl ?_)
  refine sl_call rfl rfl (by kernel_rfl) rfl (by exact sub_) (flip_ok (tl := spT q dom false) hs (by omega) (by omega) hd) ?_
  rintro _ -
  refine sl_nil ?_
  refine se_sd (fun h => absurd h (by decide)) ?_
  refine sd_done (by kernel_rfl) ?_
  refine go_Ks ?_
  refine sl_call rfl rfl (by kernel_rfl) rfl (by exact sub_) (flip_ok (tl := spT q dom false) (by rw [flp_len, hs]) (by omega) (by omega) (by omega)) ?_
  rintro _ -
  refine go_Ks ?_
  refine sl_call rfl rfl (by kernel_rfl) rfl (by exact sub_) (perm_ok (by rw [flp_len, flp_len, hs])) ?_
  rintro _ -
  have hs3 : (perm (flp (flp s q dom) 167 128)).length = 25 := perm_len (by rw [flp_len, flp_len, hs])
  refine go_Ks ?_
  exact se_end0 () trivial rfl rfl (by exact sub_)
/-- One byte out. -/
def rd1 (p : List Int × Int × List Int) : List Int × Int × List Int := ((endQ (p.1, p.2.1)).1, (endQ (p.1, p.2.1)).2 + 1, p.2.2 ++ [IntKind.u8.wrap ((endQ (p.1, p.2.1)).1.getD ((endQ (p.1, p.2.1)).2 / 8).toNat 0 / 2 ^ (8 * ((endQ (p.1, p.2.1)).2 % 8)).toNat)])
def rdL (s : List Int) : Nat → List Int × Int × List Int
  | 0 => (s, 0, [])
  | k + 1 => rd1 (rdL s k)
theorem rdL_ok {s : List Int} (h : s.length = 25) : ∀ k, (rdL s k).1.length = 25 ∧ 0 ≤ (rdL s k).2.1 ∧ (rdL s k).2.1 ≤ 168 ∧ (rdL s k).2.2.length = k ∧ IsBytes (rdL s k).2.2
  | 0 => ⟨h, by show (0 : Int) ≤ 0; decide, by show (0 : Int) ≤ 168; decide, rfl, fun x hx => by cases hx⟩
  | k + 1 => by
    obtain ⟨h1, h2, h3, h4, h5⟩ := rdL_ok h k
    have hq := endQ_ok (p := ((rdL s k).1, (rdL s k).2.1)) ⟨h1, h2, h3⟩
    refine ⟨hq.1, ?_, ?_, ?_, ?_⟩
    · show 0 ≤ (endQ ((rdL s k).1, (rdL s k).2.1)).2 + 1
      omega
    · show (endQ ((rdL s k).1, (rdL s k).2.1)).2 + 1 ≤ 168
      omega
    · show ((rdL s k).2.2 ++ [_]).length = k + 1
      simp [h4]
    · refine IsBytes.app h5 (fun x hx => ?_)
      rw [List.mem_singleton] at hx
      subst hx
      rw [IntKind.wrap_u8]
      omega
set_option maxRecDepth 100000 in
set_option maxHeartbeats 4000000 in
theorem readSp_ok {K : List Fa} {g n : Nat} {t : TypeId} {st : List Int} {a dom : Int} (hd : 0 ≤ dom ∧ dom < 256) (hn : n ≤ 65536) (hp : st.length = 25 ∧ 0 ≤ a ∧ a ≤ 168) :
    Fn Tryz.prog 189 #[.pointer (some ⟨g, 0, none⟩), .int .i64 n] (blk g t (us st ++ spT a dom false) :: K) (Ret (fun _ : Option Addr × Nat => True) (fun p => .slice p.1 n p.2) (fun p => own 5 1 p.1 n p.2 (bytes (rdL (endS dom (st, a)) n).2.2) :: K)) := by
  refine fn_enter Tryz.func189 rfl _ Tryz.ntmps189 (by simp) [(0, .pointer (some ⟨g, 0, none⟩)), (1, .int .i64 n)] (args_of (by simp)) ?_
  have hl := hp.1
  have hes := endS_len (dom := dom) (p := (st, a)) hp
  refine go_Ks ?_
  refine sl_call rfl rfl (by kernel_rfl) rfl (by exact sub_) (endSp_ok hd hp) ?_
  rintro _ -
  generalize endS dom (st, a) = s at hes ⊢
  have hm : (if (65536 : Int) < (n : Int) then (65536 : Int) else n) = n := if_neg (by omega)
  refine go_Ks ?_
  rw [hm]
  refine sl_make (lo := .tmp 0) (i := default) (k := 0) rfl rfl rfl Tryz.info5 (by omega) (by omega) (by unfold maxLen; omega) rfl ?_
  intro go
  rw [show ((madeCells (Value.int .u8 0).cells (n * 1)).toList.take (0 * 1)) = [] from rfl]
  refine go_Ks ?_
  rw [hm]
  refine go_Ks ?_
  refine sc_for (fun p : Nat × Option Addr × Nat => [(0, .pointer (some ⟨g, 0, none⟩)), (5, .slice p.2.1 p.1 p.2.2), (23, .int .i64 n), (24, .int .i64 p.1)]) (fun p => own 5 1 p.2.1 p.1 p.2.2 (bytes (rdL s p.1).2.2) :: blk g t (us (rdL s p.1).1 ++ spT (rdL s p.1).2.1 dom true) :: K) (fun p => p.1 ≤ n) (fun p => n - p.1) (0, some ⟨go, 0, none⟩, n) (by exact has_) (by exact sub_) (Nat.zero_le _) ?_
  rintro ⟨k, A, c⟩ hk
  replace hk : k ≤ n := hk
  dsimp only
  by_cases hlt : k < n
  · obtain ⟨r1, r2, r3, r4, r5⟩ := rdL_ok hes k
    have hst : rdL s (k + 1) = rd1 (rdL s k) := rfl
    generalize rdL s k = p at *
    obtain ⟨s1, q, out⟩ := p
    replace r1 : s1.length = 25 := r1
    replace r2 : 0 ≤ q := r2
    replace r3 : q ≤ 168 := r3
    replace r4 : out.length = k := r4
    dsimp only
    have hq := endQ_ok (p := (s1, q)) ⟨r1, r2, r3⟩
    refine go_Ks ?_
    refine sc_join (fun _ : Unit => [(0, .pointer (some ⟨g, 0, none⟩)), (5, .slice A k c), (23, .int .i64 n), (24, .int .i64 k)]) (fun _ => own 5 1 A k c (bytes out) :: blk g t (us (endQ (s1, q)).1 ++ spT (endQ (s1, q)).2 dom true) :: K) (fun _ => True) ?_ ?_
    · by_cases ha : q = 168
      · subst ha
        refine go_Ks ?_
        refine sl_call rfl rfl (by kernel_rfl) rfl (by exact sub_) (perm_ok r1) ?_
        rintro _ -
        have hs2 := perm_len r1
        refine go_Ks ?_
        exact se_mid () (by exact has_) (by exact sub_) trivial
      · have he : endQ (s1, q) = (s1, q) := if_neg ha
        rw [decide_eq_false ha]
        refine go_Ks ?_
        exact se_mid () (by exact has_) (by rw [he]; exact sub_) trivial
    rintro _ -
    have hst' : rdL s (k + 1) = ((endQ (s1, q)).1, (endQ (s1, q)).2 + 1, out ++ [IntKind.u8.wrap ((endQ (s1, q)).1.getD ((endQ (s1, q)).2 / 8).toNat 0 / 2 ^ (8 * ((endQ (s1, q)).2 % 8)).toNat)]) := hst
    clear hst
    generalize endQ (s1, q) = e at *
    obtain ⟨s2, q2⟩ := e
    obtain ⟨e1, e2, e3⟩ := hq
    replace e1 : s2.length = 25 := e1
    replace e2 : 0 ≤ q2 := e2
    replace e3 : q2 < 168 := e3
    dsimp only at hst' ⊢
    refine go_Ks ?_
    refine sd_drawn (fun W => AllP W [blk g t (us s2 ++ spT q2 dom true)]) (fun _ => true) (by kernel_rfl) 22 rfl ?_
    refine sd_yes2 0 rfl (by exact gd_) (by kernel_rfl) (by kernel_rfl) (by exact nop_) (PuI.all (by exact pv_Ks)) rfl (fun w hw => all_ hw) ?_
    refine sd_yes2 1 rfl (by exact gd_) (by kernel_rfl) (by kernel_rfl) (by exact nop_) (PuI.all (by exact pv_Ks)) rfl (fun w hw => all_ hw) ?_
    refine sd_yes2 2 rfl (by exact gd_) (by kernel_rfl) (by kernel_rfl) (by exact nop_) (PuI.all (by exact pv_Ks)) rfl (fun w hw => all_ hw) ?_
    refine sd_yes2 3 rfl (by exact gd_) (by kernel_rfl) (by kernel_rfl) (by exact nop_) (PuI.all (by exact pv_Ks)) rfl (fun w hw => all_ hw) ?_
    refine sd_yes2 4 rfl (by exact gd_) (by kernel_rfl) (by kernel_rfl) (by exact nop_) (PuI.all (by exact pv_Ks)) rfl (fun w hw => all_ hw) ?_
    refine sd_yes2 5 rfl (by exact gd_) (by kernel_rfl) (by kernel_rfl) (by exact nop_) (PuI.all (by exact pv_Ks)) rfl (fun w hw => all_ hw) ?_
    refine sd_yes2 6 rfl (by exact gd_) (by kernel_rfl) (by kernel_rfl) (by exact nop_) (PuI.all (by exact pv_Ks)) rfl (fun w hw => all_ hw) ?_
    refine sd_yes2 7 rfl (by exact gd_) (by kernel_rfl) (by kernel_rfl) (by exact nop_) (PuI.all (by exact pv_Ks)) rfl (fun w hw => all_ hw) ?_
    refine sd_yes2 8 rfl (by exact gd_) (by kernel_rfl) (by kernel_rfl) (by exact nop_) (PuI.all (by exact pv_Ks)) rfl (fun w hw => all_ hw) ?_
    refine sd_yes2 9 rfl (by exact gd_) (by kernel_rfl) (by kernel_rfl) (by exact nop_) (PuI.all (by exact pv_Ks)) rfl (fun w hw => all_ hw) ?_
    refine sd_yes2 10 rfl (by exact gd_) (by kernel_rfl) (by kernel_rfl) (by exact nop_) (PuI.all (by exact pv_Ks)) rfl (fun w hw => all_ hw) ?_
    refine sd_yes2 11 rfl (by exact gd_) (by kernel_rfl) (by kernel_rfl) (by exact nop_) (PuI.all (by exact pv_Ks)) rfl (fun w hw => all_ hw) ?_
    refine sd_yes2 12 rfl (by exact gd_) (by kernel_rfl) (by kernel_rfl) (by exact nop_) (PuI.all (by exact pv_Ks)) rfl (fun w hw => all_ hw) ?_
    refine sd_yes2 13 rfl (by exact gd_) (by kernel_rfl) (by kernel_rfl) (by exact nop_) (PuI.all (by exact pv_Ks)) rfl (fun w hw => all_ hw) ?_
    refine sd_yes2 14 rfl (by exact gd_) (by kernel_rfl) (by kernel_rfl) (by exact nop_) (PuI.all (by exact pv_Ks)) rfl (fun w hw => all_ hw) ?_
    refine sd_yes2 15 rfl (by exact gd_) (by kernel_rfl) (by kernel_rfl) (by exact nop_) (PuI.all (by exact pv_Ks)) rfl (fun w hw => all_ hw) ?_
    refine sd_yes2 16 rfl (by exact gd_) (by kernel_rfl) (by kernel_rfl) (by exact nop_) (PuI.all (by exact pv_Ks)) rfl (fun w hw => all_ hw) ?_
    refine sd_yes2 17 rfl (by exact gd_) (by kernel_rfl) (by kernel_rfl) (by exact nop_) (PuI.all (by exact pv_Ks)) rfl (fun w hw => all_ hw) ?_
    refine sd_yes2 18 rfl (by exact gd_) (by kernel_rfl) (by kernel_rfl) (by exact nop_) (PuI.all (by exact pv_Ks)) rfl (fun w hw => all_ hw) ?_
    refine sd_one 19 (by kernel_rfl) (sa_sl 19 rfl ?_)
    refine sl_build (size := 1) (e := 5) (cells := bytes [IntKind.u8.wrap (s2.getD (q2 / 8).toNat 0 / 2 ^ (8 * (q2 % 8)).toNat)]) rfl (fun W => by kernel_rfl) rfl (by decide) rfl ?_
    intro gb
    refine sl_nil ?_
    refine se_sd (fun _ w hw => all_ hw) ?_
    refine sd_one 20 (by kernel_rfl) (sa_sl 20 rfl ?_)
    refine sl_app rfl (by exact pick_) rfl (Vw.of_own (by exact at_)) (one_bytes _) rfl Tryz.info5 (by decide) (by decide) rfl (by unfold maxLen; omega) (by omega) ?_
    intro A2 c2
    rw [← bytes_app]
    refine sl_nil ?_
    refine se_sd (fun _ w hw => all_ hw) ?_
    refine sd_yes2 21 rfl (by exact gd_) (by kernel_rfl) (by kernel_rfl) (by exact nop_) (PuI.all (by exact pv_Ks)) rfl (fun w hw => all_ hw) ?_
    refine sd_done (by kernel_rfl) ?_
    refine go_Ks ?_
    exact se_round (k + 1, A2, c2) (by exact has_) (by rw [hst']; exact sub_) hlt (by show n - (k + 1) < n - k; omega)
  obtain rfl : k = n := by omega
  refine go_Ks ?_
  exact se_ret1 (A, c) trivial rfl rfl (by exact sub_)
def hashL (dom : Int) (bs : List Int) (n : Nat) : List Int := (rdL (endS dom (wrL bs (z25, 0))) n).2.2
theorem z_ok : z25.length = 25 ∧ (0 : Int) ≤ 0 ∧ (0 : Int) ≤ 168 := ⟨z25_len, by decide, by decide⟩
theorem hashL_ok (dom : Int) (bs : List Int) (n : Nat) : (hashL dom bs n).length = n ∧ IsBytes (hashL dom bs n) := (rdL_ok (endS_len (dom := dom) (wrL_ok bs (p := (z25, 0)) z_ok)) n).2.2.2
set_option maxRecDepth 100000 in
set_option maxHeartbeats 4000000 in
theorem hash_ok {K : List Fa} {m c n : Nat} {A : Option Addr} {bs : List Int} {dom : Int} (h0 : 1 ≤ dom) (h1 : dom ≤ 127) (hn : n ≤ 65536) (hr : Vw K (fun w => Reads w 1 A m (bytes bs))) (hb : IsBytes bs) (hl : bs.length = m) (hm : m ≤ 70368744177664) :
    Fn Tryz.prog 149 #[.int .u8 dom, .slice A m c, .int .i64 n] K (Ret (fun _ : Option Addr × Nat => True) (fun p => .slice p.1 n p.2) (fun p => own 5 1 p.1 n p.2 (bytes (hashL dom bs n)) :: K)) := by
  refine fn_enter Tryz.func149 rfl _ Tryz.ntmps149 (by simp) [(0, .int .u8 dom), (1, .slice A m c), (2, .int .i64 n)] (args_of (by simp)) ?_
  refine go_Ks ?_
  refine sl_call rfl rfl (by kernel_rfl) rfl (by exact sub_) (newSp_ok h0 h1) ?_
  rintro g -
  refine go_Ks ?_
  refine sl_call rfl rfl (by kernel_rfl) rfl (by exact sub_) (writeSp_ok hr hl hb hm z_ok) ?_
  rintro _ -
  refine go_Ks ?_
  have hw := wrL_ok bs (p := (z25, 0)) z_ok
  refine sl_call rfl rfl (by kernel_rfl) rfl (by exact sub_) (readSp_ok (by omega) hn hw) ?_
  rintro ⟨A2, c2⟩ -
  refine go_Ks ?_
  exact se_ret1 (A2, c2) trivial rfl rfl (by exact sub_)
end Go.Proofs.YtocaabnbmcpjmaaGreat
