/- StatsNone: its walk. -/
import Derived.Test.YtidphdlhghgglaaSn
namespace Go.Proofs.Ytidphdlhghgglaa
open Go.RowKit
attribute [local irreducible] Go.Calls Go.Exit.then Go.Exit.inBlock Go.bodyPost Go.Code.wp Go.wpList
def NoE (g2 g10 ga2 c2 : Nat) : Bool → Env
  | false => [(2, .pointer (some ⟨g2, 0, none⟩)), (5, .pointer none), (7, .bool false), (9, .int .i64 6), (10, .pointer (some ⟨g10, 0, none⟩)), (12, .int .i64 0), (13, .slice (some ⟨ga2, 0, none⟩) 1 c2), (45, .int .i64 1), (46, .int .i64 0)]
  | true => [(2, .pointer (some ⟨g2, 0, none⟩)), (5, .pointer none), (7, .bool false), (9, .int .i64 6), (10, .pointer (some ⟨g10, 0, none⟩)), (12, .int .i64 0), (13, .slice (some ⟨ga2, 0, none⟩) 1 c2), (45, .int .i64 1), (46, .int .i64 1)]
def NoH (K : List Fa) (gB2 d2 : Nat) : Bool → List Fa
  | false => own 24 1 (some ⟨gB2, 0, none⟩) 2 d2 [.float .f64 4607182418800017408, .float .f64 4611686018427387904] :: K
  | true => own 24 1 (some ⟨gB2, 0, none⟩) 2 d2 [.float .f64 4607182418800017408, .float .f64 4619567317775286272] :: K
def noM : Bool → Nat
  | false => 1
  | true => 0
theorem nth_So {φ : Prop} (h : φ := by (first | rfl | assumption)) : φ := h
theorem mid_So {φ : Prop} (h : φ := by (first | exact Mid.all | exact Mid.all | exact Mid.head)) : φ := h
theorem sz_So {φ : Prop} (h : φ := by (first | rfl | (rfl; first | done | fail))) : φ := h
theorem one_So {φ : Prop} (h : φ := by (first | assumption | exact first | exact row_one | exact one_bytes _ | (simp only [List.mem_cons, List.not_mem_nil, or_false, forall_eq_or_imp, forall_eq]; decide) | exact one_bytes _)) : φ := h
theorem set_So {φ : Prop} (h : φ := by (first | (fail) | ((repeat (first | exact SetAt.here | apply SetAt.there)); first | done | fail))) : φ := h
theorem cl_So {φ : Prop} (h : φ := by first | rfl | exact .t | exact .f | exact .t (by omega) | exact .f (by omega) | exact .u | exact .i (by (first | exact .t (by omega) | exact .f (by omega) | exact .u | exact .i (by omega) | exact .v (by omega) | exact .b (by omega) | exact .w | rfl | omega)) | exact .v (by omega) | exact .b (by omega) | exact .q (by omega) | exact .w | exact .b (by exact at_) rfl (by exact nth_So) | exact .w (by exact at_) rfl rfl (by exact sz_So) | exact .s (by exact at_) (by exact mid_So) rfl rfl (by exact sz_So) | exact .z rfl rfl ⟨by kernel_rfl⟩ | exact .b rfl rfl ⟨by kernel_rfl⟩ | exact .a rfl rfl ⟨by kernel_rfl⟩ | exact .o rfl | exact .s | exact .n | exact .p rfl | exact .q rfl | exact .c rfl | exact .d rfl | exact .n rfl rfl (by omega) | exact .a rfl rfl (by omega) | exact .p rfl rfl (by omega) (by omega) | exact .y rfl rfl (by omega) (by omega) | exact .o (by exact at_) (by omega) rfl (by exact nth_So) | exact .m (by exact at_) (by omega) (by exact mid_So) rfl rfl (by exact sz_So) | exact .mlen (by exact at_) rfl | exact .t (by exact at_) rfl rfl (by first | exact True.intro | rfl) (by assumption) | exact .f (by exact at_) rfl rfl (by first | exact True.intro | rfl) (by assumption) rfl | exact .t1 (by exact at_) rfl rfl (by first | exact True.intro | rfl) (by assumption) | exact .f1 (by exact at_) rfl rfl (by first | exact True.intro | rfl) (by assumption) rfl | exact .r rfl rfl (by omega) (by omega) (by exact nth_So) rfl | exact .s rfl (by omega) (by assumption) | exact at_ | assumption | exact .r rfl rfl | exact .h rfl rfl rfl (by omega) | exact .l rfl rfl rfl (by omega) (by omega) | exact .g rfl rfl rfl rfl (by omega) (by omega) | exact .h rfl rfl (toN_ (by omega)) (by omega) | exact .l rfl rfl (toN_ (by omega)) (by omega) (by omega) | exact .g rfl rfl (toN_ (by omega)) (toN_ (by omega)) (by omega) (by omega) | exact .o (by decide) | exact .f (by decide) | exact .n (by omega) (by first | decide | (show _ ≤ ((64 : Nat) : Int); omega)) | (constructor; (repeat (first | exact .t (by omega) | exact .f (by omega) | exact .u | exact .i (by omega) | exact .v (by omega) | exact .b (by omega) | exact .w | rfl | omega)); first | done | fail) | omega | (show _ ≤ ((64 : Nat) : Int); omega)) : φ := h
theorem pv_So {φ : Prop} (h : φ := by constructor; (repeat exact cl_So); first | done | fail) : φ := h
theorem su_So {φ ψ : Prop} (k : ψ) (h : Hide ψ → φ := by (intro k; (first | refine sl_pu (PuI.sep (by exact pv_So)) rfl ?_ | refine sl_yes rfl rfl ?_ | refine sl_no rfl rfl rfl ?_ | refine sl_off rfl rfl rfl ?_ | (fail)); exact k.out)) : φ := h ⟨k⟩
theorem rq_So {φ ψ : Prop} (k : ψ) (h : Hide ψ → φ := by (intro k; (first | refine wq_pu (PuI.sep (by exact pv_So)) rfl ?_ | refine wq_yes rfl rfl ?_ | refine wq_no rfl rfl rfl ?_ | refine wq_off rfl rfl rfl ?_ | (fail)); exact k.out)) : φ := h ⟨k⟩
theorem sto_So {φ ψ : Prop} (k : ψ) (h : Hide ψ → φ := by (intro k; (first | refine sl_store rfl (by exact pick_) rfl rfl (by kernel_rfl) (by exact set_So) ?_ | refine sl_store_whole rfl (by exact pick_) rfl (by exact sz_So) (by exact sz_So) (by exact one_So) ?_); exact k.out)) : φ := h ⟨k⟩
theorem go_So {φ ψ : Prop} (k : ψ) (h : Hide ψ → φ := by (intro k; (repeat (first | refine su_So ?_ | refine so_ ?_ | refine sto_So ?_)); exact k.out)) : φ := h ⟨k⟩
set_option maxRecDepth 100000 in
set_option maxHeartbeats 4000000 in
theorem lawNoneT_ok {K : List Fa} {s m at' : Int} {A : Option Addr} {n c : Nat} (hn : n ≤ 9223372036854775807) :
    Fn Try.prog 8 #[.agg #[.int .u64 s, .int .i64 m, .slice A n c], .int .i64 at'] K (Ret (fun _ : Unit => True) (fun _ => .bool true) (fun _ => K)) := by
  refine fn_enter Try.func8 rfl _ Try.ntmps8 (by simp) [(0, .agg #[.int .u64 s, .int .i64 m, .slice A n c]), (1, .int .i64 at')] (args_of (by simp)) ?_
  refine sc_seq ?_
  refine sc_region ?_
  refine sl_box rfl rfl rfl ?_; intro g2
  refine go_So ?_
  refine sl_call rfl rfl (by kernel_rfl) rfl Sub.refl awake30 ?_
  rintro _ -
  by_cases h60 : 60 < n
  · refine go_So ?_
    exact se_ret1 () trivial rfl rfl (by exact sub_)
  refine go_So ?_
  refine sl_call rfl rfl (by kernel_rfl) rfl Sub.refl column_nilT ?_
  rintro _ -
  refine go_So ?_
  refine sl_call rfl rfl (by kernel_rfl) rfl Sub.refl mean_nilT ?_
  rintro _ -
  refine go_So ?_
  refine sl_alloc rfl rfl rfl ?_; intro g10
  refine go_So ?_
  refine sl_build (size := 1) (e := 24) (cells := [.float .f64 4607182418800017408, .float .f64 4611686018427387904]) rfl (fun W => by kernel_rfl) rfl (by decide) rfl ?_
  intro gi
  refine go_So ?_
  refine sl_pu (pu_build (v := .agg #[.int .u64 3, .int .i64 1, .slice (some ⟨gi, 0, none⟩) 2 2]) rfl (fun W => by kernel_rfl)) rfl ?_
  have hadd := add_first (K := blk g2 52 [.int .u64 s, .int .i64 m, .slice A n c] :: K) (g := g10) (gi := gi) (xs := [.float .f64 4607182418800017408, .float .f64 4611686018427387904]) (by intro u hu; simp only [List.mem_cons, List.not_mem_nil, or_false] at hu; rcases hu with rfl | rfl <;> rfl)
  refine sl_call rfl rfl (by kernel_rfl) rfl (by exact sub_) hadd ?_
  clear hadd
  rintro ⟨A1, c1, B1, d1⟩ -
  dsimp only
  refine sl_form (e := 52) (size := 3) (A := A1) (m := 1) (by exact at_) (by decide) ?_
  rintro ga rfl
  refine sl_form (e := 24) (size := 1) (A := B1) (m := 2) (by exact at_) (by decide) ?_
  rintro gB rfl
  refine go_So ?_
  refine sl_sto (e := 24) (size := 1) (k := 2) (c := 2) (g := gi) (i := 0) rfl (by exact pick_) rfl rfl rfl (by decide) ?_
  refine go_So ?_
  refine sl_sub (L' := blk g10 49 [.slice (some ⟨ga, 0, none⟩) 1 c1] :: own 52 3 (some ⟨ga, 0, none⟩) 1 c1 [.int .u64 3, .int .i64 1, .slice (some ⟨gB, 0, none⟩) 2 d1] :: own 24 1 (some ⟨gB, 0, none⟩) 2 d1 [.float .f64 4607182418800017408, .float .f64 4611686018427387904] :: blk g2 52 [.int .u64 s, .int .i64 m, .slice A n c] :: K) (by exact sub_) ?_
  refine sl_call rfl rfl (by kernel_rfl) rfl Sub.refl (rowsT_one (g := g10) (ga := ga) (c := c1) (n := 2) (d := d1) (s := 3) (m := 1) (B := some ⟨gB, 0, none⟩) (xs := [.float .f64 4607182418800017408, .float .f64 4611686018427387904]) (by exact at_) (by exact at_) (Vw.of_own (e := 24) (c := d1) (by exact at_)) (by intro u hu; simp only [List.mem_cons, List.not_mem_nil, or_false] at hu; rcases hu with rfl | rfl <;> rfl) (by decide)) ?_
  rintro ⟨A2, c2, B2, d2⟩ -
  dsimp only
  refine sl_form (e := 52) (size := 3) (A := A2) (m := 1) (by exact at_) (by decide) ?_
  rintro ga2 rfl
  refine sl_form (e := 24) (size := 1) (A := B2) (m := 2) (by exact at_) (by decide) ?_
  rintro gB2 rfl
  refine go_So ?_
  refine sc_for (NoE g2 g10 ga2 c2) (NoH (own 52 3 (some ⟨ga2, 0, none⟩) 1 c2 [.int .u64 3, .int .i64 1, .slice (some ⟨gB2, 0, none⟩) 2 d2] :: blk g10 49 [.slice (some ⟨ga, 0, none⟩) 1 c1] :: own 52 3 (some ⟨ga, 0, none⟩) 1 c1 [.int .u64 3, .int .i64 1, .slice (some ⟨gB, 0, none⟩) 2 d1] :: own 24 1 (some ⟨gB, 0, none⟩) 2 d1 [.float .f64 4607182418800017408, .float .f64 4611686018427387904] :: blk g2 52 [.int .u64 s, .int .i64 m, .slice A n c] :: K) gB2 d2) (fun _ => True) noM false (by show Has _ [_, _, _, _, _, _, _, _, _]; exact has_) (by show Sub _ (_ :: _ :: _ :: _ :: _ :: _ :: K); exact sub_) trivial ?_
  rintro (_ | _) -
  · show SC _ _ _ _ [(2, .pointer (some ⟨g2, 0, none⟩)), (5, .pointer none), (7, .bool false), (9, .int .i64 6), (10, .pointer (some ⟨g10, 0, none⟩)), (12, .int .i64 0), (13, .slice (some ⟨ga2, 0, none⟩) 1 c2), (45, .int .i64 1), (46, .int .i64 0)] (own 24 1 (some ⟨gB2, 0, none⟩) 2 d2 [.float .f64 4607182418800017408, .float .f64 4611686018427387904] :: own 52 3 (some ⟨ga2, 0, none⟩) 1 c2 [.int .u64 3, .int .i64 1, .slice (some ⟨gB2, 0, none⟩) 2 d2] :: blk g10 49 [.slice (some ⟨ga, 0, none⟩) 1 c1] :: own 52 3 (some ⟨ga, 0, none⟩) 1 c1 [.int .u64 3, .int .i64 1, .slice (some ⟨gB, 0, none⟩) 2 d1] :: own 24 1 (some ⟨gB, 0, none⟩) 2 d1 [.float .f64 4607182418800017408, .float .f64 4611686018427387904] :: blk g2 52 [.int .u64 s, .int .i64 m, .slice A n c] :: K)
    refine go_So ?_
    refine sl_pu (pu_ldr (size := 3) (Vw.of_own (e := 52) (A := some ⟨ga2, 0, none⟩) (n := 1) (c := c2) (by exact at_)) (by decide) (i := 2) rfl rfl rfl) rfl ?_
    refine go_So ?_
    refine sl_sto (e := 24) (size := 1) (k := 2) (c := d2) (g := gB2) (i := 1) rfl (by exact pick_) rfl rfl rfl (by decide) ?_
    refine go_So ?_
    exact se_round true (by show Has _ [_, _, _, _, _, _, _, _, _]; exact has_) (by show Sub _ (_ :: _ :: _ :: _ :: _ :: _ :: K); exact sub_) trivial (by show 0 < 1; decide)
  · show SC _ _ _ _ [(2, .pointer (some ⟨g2, 0, none⟩)), (5, .pointer none), (7, .bool false), (9, .int .i64 6), (10, .pointer (some ⟨g10, 0, none⟩)), (12, .int .i64 0), (13, .slice (some ⟨ga2, 0, none⟩) 1 c2), (45, .int .i64 1), (46, .int .i64 1)] (own 24 1 (some ⟨gB2, 0, none⟩) 2 d2 [.float .f64 4607182418800017408, .float .f64 4619567317775286272] :: own 52 3 (some ⟨ga2, 0, none⟩) 1 c2 [.int .u64 3, .int .i64 1, .slice (some ⟨gB2, 0, none⟩) 2 d2] :: blk g10 49 [.slice (some ⟨ga, 0, none⟩) 1 c1] :: own 52 3 (some ⟨ga, 0, none⟩) 1 c1 [.int .u64 3, .int .i64 1, .slice (some ⟨gB, 0, none⟩) 2 d1] :: own 24 1 (some ⟨gB, 0, none⟩) 2 d1 [.float .f64 4607182418800017408, .float .f64 4611686018427387904] :: blk g2 52 [.int .u64 s, .int .i64 m, .slice A n c] :: K)
    refine go_So ?_
    refine sl_sub (L' := blk g10 49 [.slice (some ⟨ga, 0, none⟩) 1 c1] :: own 52 3 (some ⟨ga, 0, none⟩) 1 c1 [.int .u64 3, .int .i64 1, .slice (some ⟨gB, 0, none⟩) 2 d1] :: own 24 1 (some ⟨gB, 0, none⟩) 2 d1 [.float .f64 4607182418800017408, .float .f64 4611686018427387904] :: blk g2 52 [.int .u64 s, .int .i64 m, .slice A n c] :: K) (by exact sub_) ?_
    refine sl_call rfl rfl (by kernel_rfl) rfl Sub.refl (column_one (g := g10) (ga := ga) (c := c1) (n := 2) (d := d1) (s := 3) (m := 1) (gB := gB) (k := 0) (v := 4607182418800017408) (xs := [.float .f64 4607182418800017408, .float .f64 4611686018427387904]) (by exact at_) (by exact at_) (Vw.of_own (e := 24) (c := d1) (by exact at_)) (by decide) (by decide) rfl) ?_
    rintro ⟨A3, c3⟩ -
    dsimp only
    refine sl_form (e := 24) (size := 1) (A := A3) (m := 1) (by exact at_) (by decide) ?_
    rintro g3 rfl
    refine go_So ?_
    refine sl_call rfl rfl (by kernel_rfl) rfl Sub.refl (column_one (g := g10) (ga := ga) (c := c1) (n := 2) (d := d1) (s := 3) (m := 1) (gB := gB) (k := 1) (v := 4611686018427387904) (xs := [.float .f64 4607182418800017408, .float .f64 4611686018427387904]) (by exact at_) (by exact at_) (Vw.of_own (e := 24) (c := d1) (by exact at_)) (by decide) (by decide) rfl) ?_
    rintro ⟨A4, c4⟩ -
    dsimp only
    refine sl_form (e := 24) (size := 1) (A := A4) (m := 1) (by exact at_) (by decide) ?_
    rintro g4 rfl
    refine go_So ?_
    refine sl_call rfl rfl (by kernel_rfl) rfl Sub.refl add_nilT ?_
    rintro _ -
    refine go_So ?_
    refine sl_call rfl rfl (by kernel_rfl) rfl Sub.refl rows_nilT ?_
    rintro _ -
    refine go_So ?_
    refine sl_pu (pu_feql rfl rfl) rfl ?_
    rw [show fEq 4607182418800017408 4607182418800017408 = true from fEq_self (by rw [fnan_eq]; rfl)]
    refine go_So ?_
    refine sl_pu (pu_feql rfl rfl) rfl ?_
    rw [show fEq 4611686018427387904 4611686018427387904 = true from fEq_self (by rw [fnan_eq]; rfl)]
    refine go_So ?_
    exact se_ret1 () trivial rfl rfl (by exact sub_)
end Go.Proofs.Ytidphdlhghgglaa
