/- Package bucket: Add, Close. -/
import Derived.Test.YtdmeofobljjpfaaGh
namespace Go.Proofs.Ytdmeofobljjpfaa
open Go.RowKit Go.MapKept
attribute [local irreducible] Go.Calls Go.Exit.then Go.Exit.inBlock Go.bodyPost Go.Code.wp Go.wpList
attribute [local irreducible] hashL ofId
/-- A report more in a bucket. -/
def BK.add (b : BK) (fl : Int) (id : Id) (ys : List Int) (g : Nat) : BK := ⟨b.st, some ⟨g, 0, none⟩, b.l.length, addV fl b.l ys, b.m + 1, xorI b.k (ofId id), b.cl, b.bn⟩
theorem addV_len {f : Int} {xs ys : List Int} (h : ys.length = xs.length) : (addV f xs ys).length = xs.length := zipE_len rfl h
theorem bfa_eq {b : BK} {fl : Int} {id : Id} {ys : List Int} {g : Nat} (h : ys.length = b.l.length) : BM.fa (b.add fl id ys g) = eo (some ⟨g, 0, none⟩) b.l.length b.l.length (addV fl b.l ys) := by
  show eo (some ⟨g, 0, none⟩) (addV fl b.l ys).length b.l.length (addV fl b.l ys) = _
  rw [addV_len h]
theorem bval_eq {b : BK} {fl : Int} {id : Id} {ys : List Int} {g : Nat} (h : ys.length = b.l.length) : BM.val (b.add fl id ys g) = .agg (bkC b.st (tc (some ⟨g, 0, none⟩) b.l.length b.l.length (b.m + 1) (xorI b.k (ofId id))) b.cl).toArray := by
  show Value.agg (bkC b.st (tc (some ⟨g, 0, none⟩) (addV fl b.l ys).length b.l.length (b.m + 1) (xorI b.k (ofId id))) b.cl).toArray = _
  rw [addV_len h]
theorem fits_some {r : Rl} {fs : List BK} {now : Int} {b : BK} (h : fitsE r fs now = 0) (hf : bfind fs (stN r.w now) = some b) : now ≤ 1099511627776 ∧ b.cl = false ∧ b.m < r.mx := by
  unfold fitsE at h
  split at h
  · cases h
  · rw [hf] at h
    dsimp only at h
    split at h
    · cases h
    · split at h
      · cases h
      · rename_i h1 h2 h3
        exact ⟨by omega, by simpa using h2, by omega⟩
theorem fits_none {r : Rl} {fs : List BK} {now : Int} (h : fitsE r fs now = 0) (hf : bfind fs (stN r.w now) = none) : now ≤ 1099511627776 ∧ fs.length ≠ 32 ∧ 0 < r.mx := by
  unfold fitsE at h
  split at h
  · cases h
  · rw [hf] at h
    dsimp only at h
    split at h
    · cases h
    · split at h
      · cases h
      · rename_i h1 h2 h3
        exact ⟨by omega, h2, by omega⟩
theorem list18b {cs : List Value} (h : cs.length = 18) : ∃ a0 a1 a2 a3 a4 a5 a6 a7 a8 a9 a10 a11 a12 a13 a14 a15 a16 a17, cs = [a0, a1, a2, a3, a4, a5, a6, a7, a8, a9, a10, a11, a12, a13, a14, a15, a16, a17] := by
  match cs, h with
  | [a0, a1, a2, a3, a4, a5, a6, a7, a8, a9, a10, a11, a12, a13, a14, a15, a16, a17], _ => exact ⟨a0, a1, a2, a3, a4, a5, a6, a7, a8, a9, a10, a11, a12, a13, a14, a15, a16, a17, rfl⟩
theorem build_b2 (a0 a1 a2 a3 a4 a5 a6 a7 a8 a9 a10 a11 a12 a13 a14 a15 a16 a17 : Value) (s : Int) (W : World) : (Instr.build 60 #[(0, .int .u64 s), (1, .agg #[a0, a1, a2, a3, a4, a5, a6, a7, a8, a9, a10, a11, a12, a13, a14, a15, a16, a17])]).run Try.prog W = .ok (.agg #[.int .u64 s, a0, a1, a2, a3, a4, a5, a6, a7, a8, a9, a10, a11, a12, a13, a14, a15, a16, a17, .bool false]) W := by kernel_rfl
theorem build_buck {s : Int} {T : List Value} (hT : T.length = 18) (W : World) : (Instr.build 60 #[(0, .int .u64 s), (1, .agg T.toArray)]).run Try.prog W = .ok (.agg (bkC s T false).toArray) W := by
  obtain ⟨a0, a1, a2, a3, a4, a5, a6, a7, a8, a9, a10, a11, a12, a13, a14, a15, a16, a17, h⟩ := list18b hT
  have h1 := build_b2 a0 a1 a2 a3 a4 a5 a6 a7 a8 a9 a10 a11 a12 a13 a14 a15 a16 a17 s W
  rw [h]
  exact h1
/-- A bucket's first report. -/
def bfst (s : Int) (t : Ta) (id : Id) (ys : List Int) (g ck : Nat) : BK := ⟨s, some ⟨g, 0, none⟩, ys.length, addV t.fl (List.replicate ys.length 0) ys, 1, xorI zId (ofId id), false, ck⟩
theorem bfst_fa {s : Int} {t : Ta} {id : Id} {ys : List Int} {g ck : Nat} : BM.fa (bfst s t id ys g ck) = eo (some ⟨g, 0, none⟩) ys.length ys.length (addV t.fl (List.replicate ys.length 0) ys) := by
  show eo (some ⟨g, 0, none⟩) (addV t.fl (List.replicate ys.length 0) ys).length ys.length (addV t.fl (List.replicate ys.length 0) ys) = _
  rw [addV_len (by simp), List.length_replicate]
theorem bfst_val {s : Int} {t : Ta} {id : Id} {ys : List Int} {g ck : Nat} : BM.val (bfst s t id ys g ck) = .agg (bkC s (tc (some ⟨g, 0, none⟩) ys.length ys.length 1 (xorI zId (ofId id))) false).toArray := by
  show Value.agg (bkC s (tc (some ⟨g, 0, none⟩) (addV t.fl (List.replicate ys.length 0) ys).length ys.length 1 (xorI zId (ofId id))) false).toArray = _
  rw [addV_len (by simp), List.length_replicate]
theorem els_rep (n : Nat) : Els (List.replicate n 0) := fun x hx => by
  rw [List.eq_of_mem_replicate hx]
  unfold El
  decide
theorem nth_Gi {φ : Prop} (h : φ := by (first | rfl | first | exact bkC_n0 | exact bkC_n1 | exact bkC_n2 | exact bkC_n19' | exact tc_n0 | exact tc_n1)) : φ := h
theorem mid_Gi {φ : Prop} (h : φ := by (first | first | exact boC_mt | exact boC_mr | exact bkC_mid | exact Ta.mid _ | exact tc_mid | exact Mid.all | exact Mid.all | exact Mid.head)) : φ := h
theorem sz_Gi {φ : Prop} (h : φ := by (first | rfl | ((try simp only [bkC_len tc_len, tc_len, BK.len, bytes_length, Id.len]); (first | done | rfl); first | done | fail))) : φ := h
theorem one_Gi {φ : Prop} (h : φ := by (first | assumption | exact first | exact BK.one _ | exact bkC_one tc_one | exact tc_one | exact Ta.one _ | exact Rl.one _ | exact one_bytes _ | (simp only [List.mem_cons, List.not_mem_nil, or_false, forall_eq_or_imp, forall_eq]; decide) | exact one_bytes _)) : φ := h
theorem set_Gi {φ : Prop} (h : φ := by (first | (first | exact tc_set0 | exact bkC_set19 tc_len) | ((repeat (first | exact SetAt.here | apply SetAt.there)); first | done | fail))) : φ := h
theorem cl_Gi {φ : Prop} (h : φ := by first | rfl | exact .t | exact .f | exact .t (by omega) | exact .f (by omega) | exact .u | exact .i (by (first | exact .t (by omega) | exact .f (by omega) | exact .u | exact .i (by omega) | exact .v (by omega) | exact .b (by omega) | exact .w | rfl | omega)) | exact .v (by omega) | exact .b (by omega) | exact .q (by omega) | exact .w | exact .b (by exact at_) rfl (by exact nth_Gi) | exact .w (by exact at_) rfl rfl (by exact sz_Gi) | exact .s (by exact at_) (by exact mid_Gi) rfl rfl (by exact sz_Gi) | exact .z rfl rfl ⟨by kernel_rfl⟩ | exact .b rfl rfl ⟨by kernel_rfl⟩ | exact .a rfl rfl ⟨by kernel_rfl⟩ | exact .o rfl | exact .s | exact .n | exact .p rfl | exact .q rfl | exact .c rfl | exact .d rfl | exact .n rfl rfl (by omega) | exact .a rfl rfl (by omega) | exact .p rfl rfl (by omega) (by omega) | exact .y rfl rfl (by omega) (by omega) | exact .o (by exact at_) (by omega) rfl (by exact nth_Gi) | exact .m (by exact at_) (by omega) (by exact mid_Gi) rfl rfl (by exact sz_Gi) | exact .mlen (by exact at_) rfl | exact .t (by exact at_) rfl rfl (by first | exact True.intro | rfl) (by assumption) | exact .f (by exact at_) rfl rfl (by first | exact True.intro | rfl) (by assumption) rfl | exact .t1 (by exact at_) rfl rfl (by first | exact True.intro | rfl) (by assumption) | exact .f1 (by exact at_) rfl rfl (by first | exact True.intro | rfl) (by assumption) rfl | exact .r rfl rfl (by omega) (by omega) (by exact nth_Gi) rfl | exact .s rfl (by omega) (by assumption) | exact at_ | assumption | exact .r rfl rfl | exact .h rfl rfl rfl (by omega) | exact .l rfl rfl rfl (by omega) (by omega) | exact .g rfl rfl rfl rfl (by omega) (by omega) | exact .h rfl rfl (toN_ (by omega)) (by omega) | exact .l rfl rfl (toN_ (by omega)) (by omega) (by omega) | exact .g rfl rfl (toN_ (by omega)) (toN_ (by omega)) (by omega) (by omega) | exact .o (by decide) | exact .f (by decide) | exact .n (by omega) (by first | decide | (show _ ≤ ((64 : Nat) : Int); omega)) | (constructor; (repeat (first | exact .t (by omega) | exact .f (by omega) | exact .u | exact .i (by omega) | exact .v (by omega) | exact .b (by omega) | exact .w | rfl | omega)); first | done | fail) | omega | (show _ ≤ ((64 : Nat) : Int); omega)) : φ := h
theorem pv_Gi {φ : Prop} (h : φ := by constructor; (repeat exact cl_Gi); first | done | fail) : φ := h
theorem su_Gi {φ ψ : Prop} (k : ψ) (h : Hide ψ → φ := by (intro k; (first | refine sl_pu (PuI.sep (by exact pv_Gi)) rfl ?_ | refine sl_yes rfl rfl ?_ | refine sl_no rfl rfl rfl ?_ | refine sl_off rfl rfl rfl ?_ | (fail)); exact k.out)) : φ := h ⟨k⟩
theorem rq_Gi {φ ψ : Prop} (k : ψ) (h : Hide ψ → φ := by (intro k; (first | refine wq_pu (PuI.sep (by exact pv_Gi)) rfl ?_ | refine wq_yes rfl rfl ?_ | refine wq_no rfl rfl rfl ?_ | refine wq_off rfl rfl rfl ?_ | (fail)); exact k.out)) : φ := h ⟨k⟩
theorem sto_Gi {φ ψ : Prop} (k : ψ) (h : Hide ψ → φ := by (intro k; (first | refine sl_store rfl (by exact pick_) rfl rfl (by kernel_rfl) (by exact set_Gi) ?_ | refine sl_store_whole rfl (by exact pick_) rfl (by exact sz_Gi) (by exact sz_Gi) (by exact one_Gi) ?_); exact k.out)) : φ := h ⟨k⟩
theorem go_Gi {φ ψ : Prop} (k : ψ) (h : Hide ψ → φ := by (intro k; (repeat (first | refine su_Gi ?_ | refine so_ ?_ | refine sto_Gi ?_)); exact k.out)) : φ := h ⟨k⟩
set_option maxRecDepth 100000 in
set_option maxHeartbeats 4000000 in
theorem badd_old {K : List Fa} {g m ck : Nat} {t : Ta} {r : Rl} {X Y : List BK} {b : BK} {now : Int} {id : Id} {B : Option Addr} {cb : Nat} {ys : List Int}
    (hw : 0 ≤ r.w) (h : 0 ≤ now) (ht : t.err = 0) (hf : fitsE r (X ++ b :: Y) now = 0) (hb : bfind (X ++ b :: Y) (stN r.w now) = some b) (hm : 0 ≤ b.m) (hr : r.mx ≤ 256) (ho : t.out = b.l.length) (ex : Els b.l) (ey : Els ys) (hy : Vw K (fun w => Reads w 2 B b.l.length (rows eC ys))) :
    Fn Try.prog 16 #[.pointer (some ⟨g, 0, none⟩), .int .u64 now, id.v, .slice B b.l.length cb] (bB g t r m :: bM m (X ++ b :: Y) ck :: bS (X ++ b :: Y) :: K) (Ret (fun _ : Nat => True) (fun _ => .int .i64 0) (fun g5 => bB g t r m :: bM m (X ++ b.add t.fl id ys g5 :: Y) ck :: bS (X ++ b.add t.fl id ys g5 :: Y) :: K)) := by
  refine fn_know (fun w hw' => vwe_len hy w hw'.tl.tl.tl) ?_
  intro hly
  refine fn_enter Try.func16 rfl _ Try.ntmps16 (by simp) [(0, .pointer (some ⟨g, 0, none⟩)), (1, .int .u64 now), (2, id.v), (3, .slice B b.l.length cb)] (args_of (by simp)) ?_
  obtain ⟨hn1, hn2, hn3⟩ := fits_some hf hb
  obtain ⟨hbm, hbs⟩ := bfind_some hb
  have hg := bget hbm
  rw [hbs] at hg
  have hol := t.out_le ht
  refine go_Gi ?_
  refine sl_box rfl rfl rfl ?_; intro g1
  refine go_Gi ?_
  refine sl_call rfl rfl (by kernel_rfl) rfl Sub.refl (fits_ok (g := g) (m := m) (ck := ck) (t := t) (r := r) (fs := X ++ b :: Y) (by exact at_) (by exact at_) hw (by omega)) ?_
  rintro _ -
  rw [hf]
  refine go_Gi ?_
  refine sl_call rfl rfl (by kernel_rfl) rfl Sub.refl (start_ok hw (by omega)) ?_
  rintro _ -
  refine go_Gi ?_
  refine sl_alloc rfl rfl rfl ?_; intro g2
  refine go_Gi ?_
  refine sc_join (α := Nat × Nat) (fun q => [(0, .pointer (some ⟨g, 0, none⟩)), (10, .int .u64 (stN r.w now)), (11, .pointer (some ⟨g2, 0, none⟩)), (13, .pointer (some ⟨q.1, 0, none⟩)), (14, .int .i64 0)])
    (fun q => blk q.1 56 (tc (some ⟨q.2, 0, none⟩) b.l.length b.l.length (b.m + 1) (xorI b.k (ofId id))) :: eo (some ⟨q.2, 0, none⟩) b.l.length b.l.length (addV t.fl b.l ys) :: blk g2 60 (bkC (stN r.w now) (tc b.A b.l.length b.c b.m b.k) b.cl) :: bB g t r m :: bM m (X ++ b :: Y) ck :: bS (X ++ b :: Y) :: K) (fun _ => True) ?_ ?_
  · refine sd_drawn (fun W => AllP W [blk g2 60 (bkC (stN r.w now) (tc b.A b.l.length b.c b.m b.k) b.cl), bB g t r m, blk g1 52 (bytes id.l)]) (fun _ => true) (by kernel_rfl) 15 rfl ?_
    refine sd_yes2 0 rfl (by exact gd_) (by kernel_rfl) (by kernel_rfl) (by exact nop_) (PuI.all (by exact pv_Gi)) rfl (fun w hw => all_ hw) ?_
    refine sd_yes2 1 rfl (by exact gd_) (by kernel_rfl) (by kernel_rfl) (by exact nop_) (PuI.all (by exact pv_Gi)) rfl (fun w hw => all_ hw) ?_
    refine sd_yes2 2 rfl (by exact gd_) (by kernel_rfl) (by kernel_rfl) (by exact nop_) (PuI.all (by exact pv_Gi)) rfl (fun w hw => all_ hw) ?_
    refine sd_yes2 3 rfl (by exact gd_) (by kernel_rfl) (by kernel_rfl) (by exact nop_) (PuI.all (by exact pv_Gi)) rfl (fun w hw => all_ hw) ?_
    refine sd_yes2 4 rfl (by exact gd_) (by kernel_rfl) (by kernel_rfl) (by exact nop_) (PuI.all (by exact pv_Gi)) rfl (fun w hw => all_ hw) ?_
    refine sd_yes2 5 rfl (by exact gd_) (by kernel_rfl) (by kernel_rfl) (by exact nop_) (PuI.all (by exact pv_Gi)) rfl (fun w hw => all_ hw) ?_
    refine sd_yes2 6 rfl (by exact gd_) (by kernel_rfl) (by kernel_rfl) (by exact nop_) (PuI.all (by exact pv_Gi)) rfl (fun w hw => all_ hw) ?_
    refine sd_yes2 7 rfl (by exact gd_) (by kernel_rfl) (by kernel_rfl) (by exact nop_) (PuI.all (by exact pv_Gi)) rfl (fun w hw => all_ hw) ?_
    refine sd_two 8 12 (by kernel_rfl) (sa_sl 8 rfl ?_) (sa_sl 12 rfl ?_)
    · refine sl_call rfl rfl (by kernel_rfl) rfl (by exact sub_) (tadd_ok ht (by omega) ho ((bs_get (fs := X ++ b :: Y) (L := bS (X ++ b :: Y) :: K) .here hbm).mono (by exact sub_)) (hy.mono (by exact sub_)) ex ey) ?_
      rintro g5 -
      refine sl_nil ?_
      refine se_sd (fun _ w hw => all_ hw) ?_
      refine sd_yes2 9 rfl (by exact gd_) (by kernel_rfl) (by kernel_rfl) (by exact nop_) (PuI.all (by exact pv_Gi)) rfl (fun w hw => all_ hw) ?_
      refine sd_yes2 10 rfl (by exact gd_) (by kernel_rfl) (by kernel_rfl) (by exact nop_) (PuI.all (by exact pv_Gi)) rfl (fun w hw => all_ hw) ?_
      refine sd_yes2 11 rfl (by exact gd_) (by kernel_rfl) (by kernel_rfl) (by exact nop_) (PuI.all (by exact pv_Gi)) rfl (fun w hw => all_ hw) ?_
      refine sd_one 12 (by kernel_rfl) (sa_sl 12 rfl ?_)
      refine sl_alloc rfl rfl rfl ?_; intro g6
      refine sl_nil ?_
      refine se_sd (fun _ w hw => all_ hw) ?_
      refine sd_one 13 (by kernel_rfl) (sa_sl 13 rfl ?_)
      refine sto_Gi ?_
      refine sl_nil ?_
      refine se_sd (fun _ w hw => all_ hw) ?_
      refine sd_yes2 14 rfl (by exact gd_) (by kernel_rfl) (by kernel_rfl) (by exact nop_) (PuI.all (by exact pv_Gi)) rfl (fun w hw => all_ hw) ?_
      refine sd_done (by kernel_rfl) ?_
      exact se_mid (g6, g5) (by exact has_) (by exact sub_) trivial
    · refine sl_alloc rfl rfl rfl ?_; intro g6
      refine sl_nil ?_
      refine se_sd (fun _ w hw => all_ hw) ?_
      refine sd_one 8 (by kernel_rfl) (sa_sl 8 rfl ?_)
      refine sl_call rfl rfl (by kernel_rfl) rfl (by exact sub_) (tadd_ok ht (by omega) ho ((bs_get (fs := X ++ b :: Y) (L := bS (X ++ b :: Y) :: K) .here hbm).mono (by exact sub_)) (hy.mono (by exact sub_)) ex ey) ?_
      rintro g5 -
      refine sl_nil ?_
      refine se_sd (fun _ w hw => all_ hw) ?_
      refine sd_yes2 9 rfl (by exact gd_) (by kernel_rfl) (by kernel_rfl) (by exact nop_) (PuI.all (by exact pv_Gi)) rfl (fun w hw => all_ hw) ?_
      refine sd_yes2 10 rfl (by exact gd_) (by kernel_rfl) (by kernel_rfl) (by exact nop_) (PuI.all (by exact pv_Gi)) rfl (fun w hw => all_ hw) ?_
      refine sd_yes2 11 rfl (by exact gd_) (by kernel_rfl) (by kernel_rfl) (by exact nop_) (PuI.all (by exact pv_Gi)) rfl (fun w hw => all_ hw) ?_
      refine sd_one 13 (by kernel_rfl) (sa_sl 13 rfl ?_)
      refine sto_Gi ?_
      refine sl_nil ?_
      refine se_sd (fun _ w hw => all_ hw) ?_
      refine sd_yes2 14 rfl (by exact gd_) (by kernel_rfl) (by kernel_rfl) (by exact nop_) (PuI.all (by exact pv_Gi)) rfl (fun w hw => all_ hw) ?_
      refine sd_done (by kernel_rfl) ?_
      exact se_mid (g6, g5) (by exact has_) (by exact sub_) trivial
  rintro ⟨g6, g5⟩ -
  dsimp only
  refine go_Gi ?_
  refine sl_store_mid (cl := tc (some ⟨g5, 0, none⟩) b.l.length b.l.length (b.m + 1) (xorI b.k (ofId id))) rfl (by exact pick_) rfl (by rw [tc_len]; rfl) (by rw [tc_len, bkC_len tc_len]; decide) tc_one ?_
  rw [bkC_put tc_len tc_len]
  refine go_Gi ?_
  refine sd_drawn (fun W => AllP W [blk g2 60 (bkC (stN r.w now) (tc (some ⟨g5, 0, none⟩) b.l.length b.l.length (b.m + 1) (xorI b.k (ofId id))) b.cl), bB g t r m]) (fun _ => true) (by kernel_rfl) 7 rfl ?_
  refine sd_yes2 0 rfl (by exact gd_) (by kernel_rfl) (by kernel_rfl) (by exact nop_) (PuI.all (by exact pv_Gi)) rfl (fun w hw => all_ hw) ?_
  refine sd_yes2 1 rfl (by exact gd_) (by kernel_rfl) (by kernel_rfl) (by exact nop_) (PuI.all (by exact pv_Gi)) rfl (fun w hw => all_ hw) ?_
  refine sd_yes2 2 rfl (by exact gd_) (by kernel_rfl) (by kernel_rfl) (by exact nop_) (PuI.all (by exact pv_Gi)) rfl (fun w hw => all_ hw) ?_
  refine sd_yes2 3 rfl (by exact gd_) (by kernel_rfl) (by kernel_rfl) (by exact nop_) (PuI.all (by exact pv_Gi)) rfl (fun w hw => all_ hw) ?_
  refine sd_yes2 4 rfl (by exact gd_) (by kernel_rfl) (by kernel_rfl) (by exact nop_) (PuI.all (by exact pv_Gi)) rfl (fun w hw => all_ hw) ?_
  refine sd_yes2 5 rfl (by exact gd_) (by kernel_rfl) (by kernel_rfl) (by exact nop_) (PuI.all (by exact pv_Gi)) rfl (fun w hw => all_ hw) ?_
  refine sd_one 6 (by kernel_rfl) (sa_sl 6 rfl ?_)
  refine sl_kput (M := BM) (f := b) (f' := b.add t.fl id ys g5) rfl (by rw [← hbs]; rfl) (by rw [bval_eq hly, hbs]; rfl) rfl rfl (by exact pick_) rfl rfl rfl ?_
  refine sl_nil ?_
  refine se_sd (fun _ w hw => all_ hw) ?_
  refine sd_done (by kernel_rfl) ?_
  refine go_Gi ?_
  refine se_subK (L' := eo (some ⟨g5, 0, none⟩) b.l.length b.l.length (addV t.fl b.l ys) :: bS (X ++ b :: Y) :: bB g t r m :: bM m (X ++ b.add t.fl id ys g5 :: Y) ck :: K) (by exact sub_) ?_
  rw [← bfa_eq (b := b) (fl := t.fl) (id := id) (g := g5) hly]
  refine se_ent (ks_swap (M := BM)) ?_
  exact se_ret1 g5 trivial rfl rfl (by exact sub_)
set_option maxRecDepth 100000 in
set_option maxHeartbeats 4000000 in
theorem badd_new {K : List Fa} {g m ck : Nat} {t : Ta} {r : Rl} {fs : List BK} {now : Int} {id : Id} {B : Option Addr} {n cb : Nat} {ys : List Int}
    (hw : 0 ≤ r.w) (h : 0 ≤ now) (ht : t.err = 0) (hf : fitsE r fs now = 0) (hb : bfind fs (stN r.w now) = none) (ho : t.out = n) (ey : Els ys) (hy : Vw K (fun w => Reads w 2 B n (rows eC ys))) :
    Fn Try.prog 16 #[.pointer (some ⟨g, 0, none⟩), .int .u64 now, id.v, .slice B n cb] (bB g t r m :: bM m fs ck :: bS fs :: K) (Ret (fun _ : Nat => True) (fun _ => .int .i64 0) (fun g5 => bB g t r m :: bM m (fs ++ [bfst (stN r.w now) t id ys g5 ck]) (ck + 1) :: bS (fs ++ [bfst (stN r.w now) t id ys g5 ck]) :: K)) := by
  refine fn_know (fun w hw' => vwe_len hy w hw'.tl.tl.tl) ?_
  intro hly
  subst hly
  refine fn_enter Try.func16 rfl _ Try.ntmps16 (by simp) [(0, .pointer (some ⟨g, 0, none⟩)), (1, .int .u64 now), (2, id.v), (3, .slice B ys.length cb)] (args_of (by simp)) ?_
  obtain ⟨hn1, hn2, hn3⟩ := fits_none hf hb
  have hno := bno hb
  have hol := t.out_le ht
  refine go_Gi ?_
  refine sl_box rfl rfl rfl ?_; intro g1
  refine go_Gi ?_
  refine sl_call rfl rfl (by kernel_rfl) rfl Sub.refl (fits_ok (g := g) (m := m) (ck := ck) (t := t) (r := r) (fs := fs) (by exact at_) (by exact at_) hw (by omega)) ?_
  rintro _ -
  rw [hf]
  refine go_Gi ?_
  refine sl_call rfl rfl (by kernel_rfl) rfl Sub.refl (start_ok hw (by omega)) ?_
  rintro _ -
  refine go_Gi ?_
  refine sl_alloc rfl rfl rfl ?_; intro g2
  refine go_Gi ?_
  refine sl_call rfl rfl (by kernel_rfl) rfl (by exact sub_) (tnew_ok ht) ?_; rintro g3 -
  rw [ho, Int.toNat_natCast]
  refine sl_pu (pu_build (v := .agg (bkC (stN r.w now) (tc (some ⟨g3, 0, none⟩) ys.length ys.length 0 zId) false).toArray) rfl (build_buck tc_len)) rfl ?_
  refine go_Gi ?_
  refine sc_join (α := Nat × Nat) (fun q => [(0, .pointer (some ⟨g, 0, none⟩)), (10, .int .u64 (stN r.w now)), (11, .pointer (some ⟨g2, 0, none⟩)), (13, .pointer (some ⟨q.1, 0, none⟩)), (14, .int .i64 0)])
    (fun q => blk q.1 56 (tc (some ⟨q.2, 0, none⟩) ys.length ys.length (0 + 1) (xorI zId (ofId id))) :: eo (some ⟨q.2, 0, none⟩) ys.length ys.length (addV t.fl (List.replicate ys.length 0) ys) :: blk g2 60 (bkC (stN r.w now) (tc (some ⟨g3, 0, none⟩) ys.length ys.length 0 zId) false) :: bB g t r m :: bM m fs ck :: bS fs :: K) (fun _ => True) ?_ ?_
  · refine sd_drawn (fun W => AllP W [blk g2 60 (bkC (stN r.w now) (tc (some ⟨g3, 0, none⟩) ys.length ys.length 0 zId) false), bB g t r m, blk g1 52 (bytes id.l)]) (fun _ => true) (by kernel_rfl) 15 rfl ?_
    refine sd_yes2 0 rfl (by exact gd_) (by kernel_rfl) (by kernel_rfl) (by exact nop_) (PuI.all (by exact pv_Gi)) rfl (fun w hw => all_ hw) ?_
    refine sd_yes2 1 rfl (by exact gd_) (by kernel_rfl) (by kernel_rfl) (by exact nop_) (PuI.all (by exact pv_Gi)) rfl (fun w hw => all_ hw) ?_
    refine sd_yes2 2 rfl (by exact gd_) (by kernel_rfl) (by kernel_rfl) (by exact nop_) (PuI.all (by exact pv_Gi)) rfl (fun w hw => all_ hw) ?_
    refine sd_yes2 3 rfl (by exact gd_) (by kernel_rfl) (by kernel_rfl) (by exact nop_) (PuI.all (by exact pv_Gi)) rfl (fun w hw => all_ hw) ?_
    refine sd_yes2 4 rfl (by exact gd_) (by kernel_rfl) (by kernel_rfl) (by exact nop_) (PuI.all (by exact pv_Gi)) rfl (fun w hw => all_ hw) ?_
    refine sd_yes2 5 rfl (by exact gd_) (by kernel_rfl) (by kernel_rfl) (by exact nop_) (PuI.all (by exact pv_Gi)) rfl (fun w hw => all_ hw) ?_
    refine sd_yes2 6 rfl (by exact gd_) (by kernel_rfl) (by kernel_rfl) (by exact nop_) (PuI.all (by exact pv_Gi)) rfl (fun w hw => all_ hw) ?_
    refine sd_yes2 7 rfl (by exact gd_) (by kernel_rfl) (by kernel_rfl) (by exact nop_) (PuI.all (by exact pv_Gi)) rfl (fun w hw => all_ hw) ?_
    refine sd_two 8 12 (by kernel_rfl) (sa_sl 8 rfl ?_) (sa_sl 12 rfl ?_)
    · refine sl_call rfl rfl (by kernel_rfl) rfl (by exact sub_) (tadd_ok ht (by decide) ho (Vw.of_own (e := 65) (A := some ⟨g3, 0, none⟩) (c := ys.length) (xs := rows eC (List.replicate ys.length 0)) (by exact at_)) (hy.mono (by exact sub_)) (els_rep _) ey) ?_
      rintro g5 -
      refine sl_nil ?_
      refine se_sd (fun _ w hw => all_ hw) ?_
      refine sd_yes2 9 rfl (by exact gd_) (by kernel_rfl) (by kernel_rfl) (by exact nop_) (PuI.all (by exact pv_Gi)) rfl (fun w hw => all_ hw) ?_
      refine sd_yes2 10 rfl (by exact gd_) (by kernel_rfl) (by kernel_rfl) (by exact nop_) (PuI.all (by exact pv_Gi)) rfl (fun w hw => all_ hw) ?_
      refine sd_yes2 11 rfl (by exact gd_) (by kernel_rfl) (by kernel_rfl) (by exact nop_) (PuI.all (by exact pv_Gi)) rfl (fun w hw => all_ hw) ?_
      refine sd_one 12 (by kernel_rfl) (sa_sl 12 rfl ?_)
      refine sl_alloc rfl rfl rfl ?_; intro g6
      refine sl_nil ?_
      refine se_sd (fun _ w hw => all_ hw) ?_
      refine sd_one 13 (by kernel_rfl) (sa_sl 13 rfl ?_)
      refine sto_Gi ?_
      refine sl_nil ?_
      refine se_sd (fun _ w hw => all_ hw) ?_
      refine sd_yes2 14 rfl (by exact gd_) (by kernel_rfl) (by kernel_rfl) (by exact nop_) (PuI.all (by exact pv_Gi)) rfl (fun w hw => all_ hw) ?_
      refine sd_done (by kernel_rfl) ?_
      exact se_mid (g6, g5) (by exact has_) (by exact sub_) trivial
    · refine sl_alloc rfl rfl rfl ?_; intro g6
      refine sl_nil ?_
      refine se_sd (fun _ w hw => all_ hw) ?_
      refine sd_one 8 (by kernel_rfl) (sa_sl 8 rfl ?_)
      refine sl_call rfl rfl (by kernel_rfl) rfl (by exact sub_) (tadd_ok ht (by decide) ho (Vw.of_own (e := 65) (A := some ⟨g3, 0, none⟩) (c := ys.length) (xs := rows eC (List.replicate ys.length 0)) (by exact at_)) (hy.mono (by exact sub_)) (els_rep _) ey) ?_
      rintro g5 -
      refine sl_nil ?_
      refine se_sd (fun _ w hw => all_ hw) ?_
      refine sd_yes2 9 rfl (by exact gd_) (by kernel_rfl) (by kernel_rfl) (by exact nop_) (PuI.all (by exact pv_Gi)) rfl (fun w hw => all_ hw) ?_
      refine sd_yes2 10 rfl (by exact gd_) (by kernel_rfl) (by kernel_rfl) (by exact nop_) (PuI.all (by exact pv_Gi)) rfl (fun w hw => all_ hw) ?_
      refine sd_yes2 11 rfl (by exact gd_) (by kernel_rfl) (by kernel_rfl) (by exact nop_) (PuI.all (by exact pv_Gi)) rfl (fun w hw => all_ hw) ?_
      refine sd_one 13 (by kernel_rfl) (sa_sl 13 rfl ?_)
      refine sto_Gi ?_
      refine sl_nil ?_
      refine se_sd (fun _ w hw => all_ hw) ?_
      refine sd_yes2 14 rfl (by exact gd_) (by kernel_rfl) (by kernel_rfl) (by exact nop_) (PuI.all (by exact pv_Gi)) rfl (fun w hw => all_ hw) ?_
      refine sd_done (by kernel_rfl) ?_
      exact se_mid (g6, g5) (by exact has_) (by exact sub_) trivial
  rintro ⟨g6, g5⟩ -
  dsimp only
  refine go_Gi ?_
  refine sl_store_mid (cl := tc (some ⟨g5, 0, none⟩) ys.length ys.length (0 + 1) (xorI zId (ofId id))) rfl (by exact pick_) rfl (by rw [tc_len]; rfl) (by rw [tc_len, bkC_len tc_len]; decide) tc_one ?_
  rw [bkC_put tc_len tc_len]
  refine go_Gi ?_
  refine sd_drawn (fun W => AllP W [blk g2 60 (bkC (stN r.w now) (tc (some ⟨g5, 0, none⟩) ys.length ys.length (0 + 1) (xorI zId (ofId id))) false), bB g t r m]) (fun _ => true) (by kernel_rfl) 7 rfl ?_
  refine sd_yes2 0 rfl (by exact gd_) (by kernel_rfl) (by kernel_rfl) (by exact nop_) (PuI.all (by exact pv_Gi)) rfl (fun w hw => all_ hw) ?_
  refine sd_yes2 1 rfl (by exact gd_) (by kernel_rfl) (by kernel_rfl) (by exact nop_) (PuI.all (by exact pv_Gi)) rfl (fun w hw => all_ hw) ?_
  refine sd_yes2 2 rfl (by exact gd_) (by kernel_rfl) (by kernel_rfl) (by exact nop_) (PuI.all (by exact pv_Gi)) rfl (fun w hw => all_ hw) ?_
  refine sd_yes2 3 rfl (by exact gd_) (by kernel_rfl) (by kernel_rfl) (by exact nop_) (PuI.all (by exact pv_Gi)) rfl (fun w hw => all_ hw) ?_
  refine sd_yes2 4 rfl (by exact gd_) (by kernel_rfl) (by kernel_rfl) (by exact nop_) (PuI.all (by exact pv_Gi)) rfl (fun w hw => all_ hw) ?_
  refine sd_yes2 5 rfl (by exact gd_) (by kernel_rfl) (by kernel_rfl) (by exact nop_) (PuI.all (by exact pv_Gi)) rfl (fun w hw => all_ hw) ?_
  refine sd_one 6 (by kernel_rfl) (sa_sl 6 rfl ?_)
  refine sl_knew (M := BM) (f' := bfst (stN r.w now) t id ys g5 ck) rfl rfl (by rw [bfst_val]; rfl) rfl rfl (fun b hb' e => by injection e with _ e'; exact bfind_none hb b hb' e') (by exact pick_) rfl rfl rfl ?_
  refine sl_nil ?_
  refine se_sd (fun _ w hw => all_ hw) ?_
  refine sd_done (by kernel_rfl) ?_
  refine go_Gi ?_
  refine se_subK (L' := eo (some ⟨g5, 0, none⟩) ys.length ys.length (addV t.fl (List.replicate ys.length 0) ys) :: bS fs :: bB g t r m :: bM m (fs ++ [bfst (stN r.w now) t id ys g5 ck]) (ck + 1) :: K) (by exact sub_) ?_
  rw [← bfst_fa (s := stN r.w now) (t := t) (id := id) (g := g5) (ck := ck)]
  refine se_ent (ks_new (M := BM)) ?_
  exact se_ret1 g5 trivial rfl rfl (by exact sub_)
set_option maxRecDepth 100000 in
set_option maxHeartbeats 4000000 in
theorem badd_size {K : List Fa} {g m ck : Nat} {t : Ta} {r : Rl} {fs : List BK} {now : Int} {id : Id} {B : Option Addr} {n cb : Nat} (hBo : At (bB g t r m) K) (hMo : At (bM m fs ck) K)
    (hw : 0 ≤ r.w) (h : 0 ≤ now) (ht : t.err = 0) (hf : fitsE r fs now = 0) (hm : ∀ b ∈ fs, 0 ≤ b.m) (hr : r.mx ≤ 256) (ho : t.out ≠ n) :
    Fn Try.prog 16 #[.pointer (some ⟨g, 0, none⟩), .int .u64 now, id.v, .slice B n cb] K (Ret (fun _ : Unit => True) (fun _ => .int .i64 9) (fun _ => K)) := by
  refine fn_enter Try.func16 rfl _ Try.ntmps16 (by simp) [(0, .pointer (some ⟨g, 0, none⟩)), (1, .int .u64 now), (2, id.v), (3, .slice B n cb)] (args_of (by simp)) ?_
  cases hb : bfind fs (stN r.w now) with
  | none =>
    obtain ⟨hn1, hn2, hn3⟩ := fits_none hf hb
    have hno := bno hb
    refine go_Gi ?_
    refine sl_box rfl rfl rfl ?_; intro g1
    refine go_Gi ?_
    refine sl_call rfl rfl (by kernel_rfl) rfl (by exact sub_) (fits_ok (g := g) (m := m) (ck := ck) (t := t) (r := r) (fs := fs) (by exact at_) (by exact at_) hw (by omega)) ?_; rintro _ -
    rw [hf]
    refine go_Gi ?_
    refine sl_call rfl rfl (by kernel_rfl) rfl (by exact sub_) (start_ok hw (by omega)) ?_; rintro _ -
    refine go_Gi ?_
    refine sl_alloc rfl rfl rfl ?_; intro g2
    refine go_Gi ?_
    refine sl_call rfl rfl (by kernel_rfl) rfl (by exact sub_) (tnew_ok ht) ?_; rintro g3 -
    refine sl_pu (pu_build (v := .agg (bkC (stN r.w now) (tc (some ⟨g3, 0, none⟩) t.out.toNat t.out.toNat 0 zId) false).toArray) rfl (build_buck tc_len)) rfl ?_
    refine go_Gi ?_
    refine sd_drawn (fun W => AllP W [blk g2 60 (bkC (stN r.w now) (tc (some ⟨g3, 0, none⟩) t.out.toNat t.out.toNat 0 zId) false), bB g t r m, blk g1 52 (bytes id.l)]) (fun _ => true) (by kernel_rfl) 15 rfl ?_
    refine sd_yes2 0 rfl (by exact gd_) (by kernel_rfl) (by kernel_rfl) (by exact nop_) (PuI.all (by exact pv_Gi)) rfl (fun w hw => all_ hw) ?_
    refine sd_yes2 1 rfl (by exact gd_) (by kernel_rfl) (by kernel_rfl) (by exact nop_) (PuI.all (by exact pv_Gi)) rfl (fun w hw => all_ hw) ?_
    refine sd_yes2 2 rfl (by exact gd_) (by kernel_rfl) (by kernel_rfl) (by exact nop_) (PuI.all (by exact pv_Gi)) rfl (fun w hw => all_ hw) ?_
    refine sd_yes2 3 rfl (by exact gd_) (by kernel_rfl) (by kernel_rfl) (by exact nop_) (PuI.all (by exact pv_Gi)) rfl (fun w hw => all_ hw) ?_
    refine sd_yes2 4 rfl (by exact gd_) (by kernel_rfl) (by kernel_rfl) (by exact nop_) (PuI.all (by exact pv_Gi)) rfl (fun w hw => all_ hw) ?_
    refine sd_yes2 5 rfl (by exact gd_) (by kernel_rfl) (by kernel_rfl) (by exact nop_) (PuI.all (by exact pv_Gi)) rfl (fun w hw => all_ hw) ?_
    refine sd_yes2 6 rfl (by exact gd_) (by kernel_rfl) (by kernel_rfl) (by exact nop_) (PuI.all (by exact pv_Gi)) rfl (fun w hw => all_ hw) ?_
    refine sd_yes2 7 rfl (by exact gd_) (by kernel_rfl) (by kernel_rfl) (by exact nop_) (PuI.all (by exact pv_Gi)) rfl (fun w hw => all_ hw) ?_
    refine sd_two 8 12 (by kernel_rfl) (sa_sl 8 rfl ?_) (sa_sl 12 rfl ?_)
    · refine sl_call rfl rfl (by kernel_rfl) rfl (by exact sub_) (tadd_size ht (by decide) ho) ?_
      rintro _ -
      refine sl_nil ?_
      refine se_sd (fun _ w hw => all_ hw) ?_
      refine sd_yes2 9 rfl (by exact gd_) (by kernel_rfl) (by kernel_rfl) (by exact nop_) (PuI.all (by exact pv_Gi)) rfl (fun w hw => all_ hw) ?_
      refine sd_yes2 10 rfl (by exact gd_) (by kernel_rfl) (by kernel_rfl) (by exact nop_) (PuI.all (by exact pv_Gi)) rfl (fun w hw => all_ hw) ?_
      refine sd_yes2 11 rfl (by exact gd_) (by kernel_rfl) (by kernel_rfl) (by exact nop_) (PuI.all (by exact pv_Gi)) rfl (fun w hw => all_ hw) ?_
      refine sd_one 12 (by kernel_rfl) (sa_sl 12 rfl ?_)
      refine sl_alloc rfl rfl rfl ?_; intro g6
      refine sl_nil ?_
      refine se_sd (fun _ w hw => all_ hw) ?_
      refine sd_one 13 (by kernel_rfl) (sa_sl 13 rfl ?_)
      refine sto_Gi ?_
      refine sl_nil ?_
      refine se_sd (fun _ w hw => all_ hw) ?_
      refine sd_yes2 14 rfl (by exact gd_) (by kernel_rfl) (by kernel_rfl) (by exact nop_) (PuI.all (by exact pv_Gi)) rfl (fun w hw => all_ hw) ?_
      refine sd_done (by kernel_rfl) ?_
      refine go_Gi ?_
      exact se_ret1 () trivial rfl rfl (by exact sub_)
    · refine sl_alloc rfl rfl rfl ?_; intro g6
      refine sl_nil ?_
      refine se_sd (fun _ w hw => all_ hw) ?_
      refine sd_one 8 (by kernel_rfl) (sa_sl 8 rfl ?_)
      refine sl_call rfl rfl (by kernel_rfl) rfl (by exact sub_) (tadd_size ht (by decide) ho) ?_
      rintro _ -
      refine sl_nil ?_
      refine se_sd (fun _ w hw => all_ hw) ?_
      refine sd_yes2 9 rfl (by exact gd_) (by kernel_rfl) (by kernel_rfl) (by exact nop_) (PuI.all (by exact pv_Gi)) rfl (fun w hw => all_ hw) ?_
      refine sd_yes2 10 rfl (by exact gd_) (by kernel_rfl) (by kernel_rfl) (by exact nop_) (PuI.all (by exact pv_Gi)) rfl (fun w hw => all_ hw) ?_
      refine sd_yes2 11 rfl (by exact gd_) (by kernel_rfl) (by kernel_rfl) (by exact nop_) (PuI.all (by exact pv_Gi)) rfl (fun w hw => all_ hw) ?_
      refine sd_one 13 (by kernel_rfl) (sa_sl 13 rfl ?_)
      refine sto_Gi ?_
      refine sl_nil ?_
      refine se_sd (fun _ w hw => all_ hw) ?_
      refine sd_yes2 14 rfl (by exact gd_) (by kernel_rfl) (by kernel_rfl) (by exact nop_) (PuI.all (by exact pv_Gi)) rfl (fun w hw => all_ hw) ?_
      refine sd_done (by kernel_rfl) ?_
      refine go_Gi ?_
      exact se_ret1 () trivial rfl rfl (by exact sub_)
  | some b =>
    obtain ⟨hn1, hn2, hn3⟩ := fits_some hf hb
    obtain ⟨hbm, hbs⟩ := bfind_some hb
    have hg := bget hbm
    rw [hbs] at hg
    have hmb := hm b hbm
    refine go_Gi ?_
    refine sl_box rfl rfl rfl ?_; intro g1
    refine go_Gi ?_
    refine sl_call rfl rfl (by kernel_rfl) rfl (by exact sub_) (fits_ok (g := g) (m := m) (ck := ck) (t := t) (r := r) (fs := fs) (by exact at_) (by exact at_) hw (by omega)) ?_; rintro _ -
    rw [hf]
    refine go_Gi ?_
    refine sl_call rfl rfl (by kernel_rfl) rfl (by exact sub_) (start_ok hw (by omega)) ?_; rintro _ -
    refine go_Gi ?_
    refine sl_alloc rfl rfl rfl ?_; intro g2
    refine go_Gi ?_
    refine sd_drawn (fun W => AllP W [blk g2 60 (bkC (stN r.w now) (tc b.A b.l.length b.c b.m b.k) b.cl), bB g t r m, blk g1 52 (bytes id.l)]) (fun _ => true) (by kernel_rfl) 15 rfl ?_
    refine sd_yes2 0 rfl (by exact gd_) (by kernel_rfl) (by kernel_rfl) (by exact nop_) (PuI.all (by exact pv_Gi)) rfl (fun w hw => all_ hw) ?_
    refine sd_yes2 1 rfl (by exact gd_) (by kernel_rfl) (by kernel_rfl) (by exact nop_) (PuI.all (by exact pv_Gi)) rfl (fun w hw => all_ hw) ?_
    refine sd_yes2 2 rfl (by exact gd_) (by kernel_rfl) (by kernel_rfl) (by exact nop_) (PuI.all (by exact pv_Gi)) rfl (fun w hw => all_ hw) ?_
    refine sd_yes2 3 rfl (by exact gd_) (by kernel_rfl) (by kernel_rfl) (by exact nop_) (PuI.all (by exact pv_Gi)) rfl (fun w hw => all_ hw) ?_
    refine sd_yes2 4 rfl (by exact gd_) (by kernel_rfl) (by kernel_rfl) (by exact nop_) (PuI.all (by exact pv_Gi)) rfl (fun w hw => all_ hw) ?_
    refine sd_yes2 5 rfl (by exact gd_) (by kernel_rfl) (by kernel_rfl) (by exact nop_) (PuI.all (by exact pv_Gi)) rfl (fun w hw => all_ hw) ?_
    refine sd_yes2 6 rfl (by exact gd_) (by kernel_rfl) (by kernel_rfl) (by exact nop_) (PuI.all (by exact pv_Gi)) rfl (fun w hw => all_ hw) ?_
    refine sd_yes2 7 rfl (by exact gd_) (by kernel_rfl) (by kernel_rfl) (by exact nop_) (PuI.all (by exact pv_Gi)) rfl (fun w hw => all_ hw) ?_
    refine sd_two 8 12 (by kernel_rfl) (sa_sl 8 rfl ?_) (sa_sl 12 rfl ?_)
    · refine sl_call rfl rfl (by kernel_rfl) rfl (by exact sub_) (tadd_size ht (by omega) ho) ?_
      rintro _ -
      refine sl_nil ?_
      refine se_sd (fun _ w hw => all_ hw) ?_
      refine sd_yes2 9 rfl (by exact gd_) (by kernel_rfl) (by kernel_rfl) (by exact nop_) (PuI.all (by exact pv_Gi)) rfl (fun w hw => all_ hw) ?_
      refine sd_yes2 10 rfl (by exact gd_) (by kernel_rfl) (by kernel_rfl) (by exact nop_) (PuI.all (by exact pv_Gi)) rfl (fun w hw => all_ hw) ?_
      refine sd_yes2 11 rfl (by exact gd_) (by kernel_rfl) (by kernel_rfl) (by exact nop_) (PuI.all (by exact pv_Gi)) rfl (fun w hw => all_ hw) ?_
      refine sd_one 12 (by kernel_rfl) (sa_sl 12 rfl ?_)
      refine sl_alloc rfl rfl rfl ?_; intro g6
      refine sl_nil ?_
      refine se_sd (fun _ w hw => all_ hw) ?_
      refine sd_one 13 (by kernel_rfl) (sa_sl 13 rfl ?_)
      refine sto_Gi ?_
      refine sl_nil ?_
      refine se_sd (fun _ w hw => all_ hw) ?_
      refine sd_yes2 14 rfl (by exact gd_) (by kernel_rfl) (by kernel_rfl) (by exact nop_) (PuI.all (by exact pv_Gi)) rfl (fun w hw => all_ hw) ?_
      refine sd_done (by kernel_rfl) ?_
      refine go_Gi ?_
      exact se_ret1 () trivial rfl rfl (by exact sub_)
    · refine sl_alloc rfl rfl rfl ?_; intro g6
      refine sl_nil ?_
      refine se_sd (fun _ w hw => all_ hw) ?_
      refine sd_one 8 (by kernel_rfl) (sa_sl 8 rfl ?_)
      refine sl_call rfl rfl (by kernel_rfl) rfl (by exact sub_) (tadd_size ht (by omega) ho) ?_
      rintro _ -
      refine sl_nil ?_
      refine se_sd (fun _ w hw => all_ hw) ?_
      refine sd_yes2 9 rfl (by exact gd_) (by kernel_rfl) (by kernel_rfl) (by exact nop_) (PuI.all (by exact pv_Gi)) rfl (fun w hw => all_ hw) ?_
      refine sd_yes2 10 rfl (by exact gd_) (by kernel_rfl) (by kernel_rfl) (by exact nop_) (PuI.all (by exact pv_Gi)) rfl (fun w hw => all_ hw) ?_
      refine sd_yes2 11 rfl (by exact gd_) (by kernel_rfl) (by kernel_rfl) (by exact nop_) (PuI.all (by exact pv_Gi)) rfl (fun w hw => all_ hw) ?_
      refine sd_one 13 (by kernel_rfl) (sa_sl 13 rfl ?_)
      refine sto_Gi ?_
      refine sl_nil ?_
      refine se_sd (fun _ w hw => all_ hw) ?_
      refine sd_yes2 14 rfl (by exact gd_) (by kernel_rfl) (by kernel_rfl) (by exact nop_) (PuI.all (by exact pv_Gi)) rfl (fun w hw => all_ hw) ?_
      refine sd_done (by kernel_rfl) ?_
      refine go_Gi ?_
      exact se_ret1 () trivial rfl rfl (by exact sub_)
set_option maxRecDepth 100000 in
set_option maxHeartbeats 4000000 in
theorem badd_no {K : List Fa} {g m ck : Nat} {t : Ta} {r : Rl} {fs : List BK} {now : Int} {id : Id} {B : Option Addr} {n cb : Nat} (hBo : At (bB g t r m) K) (hMo : At (bM m fs ck) K)
    (hw : 0 ≤ r.w) (h : 0 ≤ now ∧ now ≤ 18446744073709551615) (hf : fitsE r fs now ≠ 0) :
    Fn Try.prog 16 #[.pointer (some ⟨g, 0, none⟩), .int .u64 now, id.v, .slice B n cb] K (Ret (fun _ : Unit => True) (fun _ => .int .i64 (fitsE r fs now)) (fun _ => K)) := by
  refine fn_enter Try.func16 rfl _ Try.ntmps16 (by simp) [(0, .pointer (some ⟨g, 0, none⟩)), (1, .int .u64 now), (2, id.v), (3, .slice B n cb)] (args_of (by simp)) ?_
  refine go_Gi ?_
  refine sl_box rfl rfl rfl ?_; intro g1
  refine go_Gi ?_
  refine sl_call rfl rfl (by kernel_rfl) rfl (by exact sub_) (fits_ok (g := g) (m := m) (ck := ck) (t := t) (r := r) (fs := fs) (by exact at_) (by exact at_) hw h) ?_; rintro _ -
  generalize fitsE r fs now = e at hf ⊢
  refine go_Gi ?_
  exact se_ret1 () trivial rfl rfl (by exact sub_)
set_option maxRecDepth 100000 in
theorem badd_nil {K : List Fa} {now : Int} {id : Id} {B : Option Addr} {n cb : Nat} :
    Fn Try.prog 16 #[.pointer none, .int .u64 now, id.v, .slice B n cb] K (Ret (fun _ : Unit => True) (fun _ => .int .i64 1) (fun _ => K)) := by
  refine fn_enter Try.func16 rfl _ Try.ntmps16 (by simp) [(0, .pointer none), (1, .int .u64 now), (2, id.v), (3, .slice B n cb)] (args_of (by simp)) ?_
  refine go_Gi ?_
  refine sl_box rfl rfl rfl ?_; intro g1
  refine go_Gi ?_
  refine sl_call rfl rfl (by kernel_rfl) rfl (by exact sub_) fits_nil ?_; rintro _ -
  refine go_Gi ?_
  exact se_ret1 () trivial rfl rfl (by exact sub_)
end Go.Proofs.Ytdmeofobljjpfaa
