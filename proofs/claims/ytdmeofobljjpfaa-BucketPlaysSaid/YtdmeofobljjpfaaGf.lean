/- Package total: New, Add. -/
import Derived.Test.YtdmeofobljjpfaaGe
import Derived.Test.YtdmeofobljjpfaaGd
import Derived.Test.YtdmeofobljjpfaaCc
namespace Go.Proofs.Ytdmeofobljjpfaa
open Go.RowKit
attribute [local irreducible] Go.Calls Go.Exit.then Go.Exit.inBlock Go.bodyPost Go.Code.wp Go.wpList
attribute [local irreducible] hashL ofId
/-- A task. -/
structure Ta where
  kd : Int
  fl : Int
  bt : Int
  ln : Int
  wt : Int
  ch : Int
  np : Int
  tag : ByteArray
def Ta.ci (t : Ta) : List Value := cCells t.kd t.fl t.bt t.ln t.wt t.ch
def Ta.c (t : Ta) : List Value := tCells t.kd t.fl t.bt t.ln t.wt t.ch t.np t.tag
def Ta.err (t : Ta) : Int := tErr t.kd t.fl t.bt t.ln t.wt t.ch t.np t.tag
def Ta.out (t : Ta) : Int := outN t.kd t.ln
theorem Ta.one (t : Ta) : ∀ v ∈ t.c, v.oneCell' = true := by
  intro v hv
  simp only [Ta.c, tCells, cCells, List.cons_append, List.nil_append, List.mem_cons, List.not_mem_nil, or_false] at hv
  rcases hv with rfl | rfl | rfl | rfl | rfl | rfl | rfl | rfl <;> rfl
theorem Ta.mid (t : Ta) : Mid t.c 0 t.ci := Mid.head
theorem Ta.ci_err {t : Ta} (h : t.err = 0) : ciErr t.kd t.fl t.bt t.ln t.wt t.ch = 0 := by
  unfold Ta.err tErr at h
  by_cases hc : ciErr t.kd t.fl t.bt t.ln t.wt t.ch = 0
  · exact hc
  · rw [if_pos hc] at h
    exact absurd h hc
theorem ci_ok {kd fl bt ln wt ch : Int} (h : ciErr kd fl bt ln wt ch = 0) : (fl = 1 ∨ fl = 2) ∧ (1 ≤ kd ∧ kd ≤ 5) ∧ ciIn kd bt ln wt ch = true ∧ callsN kd bt ln wt ch ≤ 511 := by
  unfold ciErr at h
  split at h
  · omega
  split at h
  · omega
  split at h
  · omega
  split at h
  · omega
  rename_i h1 h2 h3 h4
  exact ⟨Decidable.of_not_not h1, by omega, by simpa using h3, by omega⟩
theorem Ta.le {t : Ta} (h : t.err = 0) : (t.fl = 1 ∨ t.fl = 2) ∧ (1 ≤ t.kd ∧ t.kd ≤ 5) ∧ (0 ≤ t.bt ∧ t.bt ≤ 32) ∧ (0 ≤ t.ln ∧ t.ln ≤ 64) ∧ (0 ≤ t.wt ∧ t.wt ≤ 64) ∧ 0 ≤ t.ch ∧ t.ch ≤ 16 := by
  obtain ⟨h1, h2, h3, _⟩ := ci_ok (t.ci_err h)
  obtain ⟨h4, h5, h6, h7⟩ := ci_le h3
  exact ⟨h1, h2, h4, h5, h6, h7⟩
theorem Ta.out_le {t : Ta} (h : t.err = 0) : 0 ≤ t.out ∧ t.out ≤ 64 := by
  obtain ⟨_, _, _, h4, _⟩ := t.le h
  unfold Ta.out outN
  split
  · omega
  split <;> omega
/-- A total's cells. -/
def tc (A : Option Addr) (n c : Nat) (m : Int) (k : Id) : List Value := [.slice A n c, .int .i64 m] ++ bytes k.l
theorem tc_len {A : Option Addr} {n c : Nat} {m : Int} {k : Id} : (tc A n c m k).length = 18 := by simp [tc, bytes, k.len]
theorem tc_one {A : Option Addr} {n c : Nat} {m : Int} {k : Id} : ∀ v ∈ tc A n c m k, v.oneCell' = true := by
  intro v hv
  rcases List.mem_append.1 hv with h | h
  · simp only [List.mem_cons, List.not_mem_nil, or_false] at h
    rcases h with rfl | rfl <;> rfl
  · exact one_bytes _ v h
theorem tc_mid {A : Option Addr} {n c : Nat} {m : Int} {k : Id} : Mid (tc A n c m k) 2 (bytes k.l) := by
  have := Mid.of_append (a := [Value.slice A n c, .int .i64 m]) (cl := bytes k.l) (b := []) (o := 2) rfl
  rwa [List.append_nil] at this
abbrev tz : List Value := tc none 0 0 0 zId
theorem tz_one : ∀ v ∈ tz, v.oneCell' = true := tc_one
theorem vwe_nil {K : List Fa} {n : Nat} {xs : List Value} (hr : Vw K (fun w => Reads w 2 none n xs)) : ∀ w, Sep w K → n = 0 := fun w hw => by
  rcases Nat.eq_zero_or_pos n with h | h
  · exact h
  · obtain ⟨ad, h1, _⟩ := (hr w hw).2 h
    cases h1
theorem eCs_one (xs : List Int) : ∀ v ∈ rows eC xs, v.oneCell' = true := rows_one_cell eC_one xs
theorem tc_set0 {A B : Option Addr} {n c p d : Nat} {m : Int} {k : Id} : SetAt 0 (.slice B p d) (tc A n c m k) (tc B p d m k) := SetAt.here
theorem tc_n0 {A : Option Addr} {n c : Nat} {m : Int} {k : Id} : nth (tc A n c m k) 0 = some (.slice A n c) := rfl
theorem tc_n1 {A : Option Addr} {n c : Nat} {m : Int} {k : Id} : nth (tc A n c m k) 1 = some (.int .i64 m) := rfl
theorem tc_eq {A : Option Addr} {n c : Nat} {m : Int} {k : Id} : tc A n c m k = [.slice A n c, .int .i64 m] ++ bytes k.l := rfl
theorem list16t {cs : List Value} (h : cs.length = 16) : ∃ a0 a1 a2 a3 a4 a5 a6 a7 a8 a9 a10 a11 a12 a13 a14 a15, cs = [a0, a1, a2, a3, a4, a5, a6, a7, a8, a9, a10, a11, a12, a13, a14, a15] := by
  match cs, h with
  | [a0, a1, a2, a3, a4, a5, a6, a7, a8, a9, a10, a11, a12, a13, a14, a15], _ => exact ⟨a0, a1, a2, a3, a4, a5, a6, a7, a8, a9, a10, a11, a12, a13, a14, a15, rfl⟩
theorem build_t3 (a0 a1 a2 a3 a4 a5 a6 a7 a8 a9 a10 a11 a12 a13 a14 a15 : Value) (A : Option Addr) (n c : Nat) (m : Int) (W : World) : (Instr.build 56 #[(0, .slice A n c), (1, .int .i64 m), (2, .agg #[a0, a1, a2, a3, a4, a5, a6, a7, a8, a9, a10, a11, a12, a13, a14, a15])]).run Try.prog W = .ok (.agg #[.slice A n c, .int .i64 m, a0, a1, a2, a3, a4, a5, a6, a7, a8, a9, a10, a11, a12, a13, a14, a15]) W := by kernel_rfl
theorem build_tot (A : Option Addr) (n c : Nat) (m : Int) (k : Id) (W : World) : (Instr.build 56 #[(0, .slice A n c), (1, .int .i64 m), (2, k.v)]).run Try.prog W = .ok (.agg (tc A n c m k).toArray) W := by
  obtain ⟨a0, a1, a2, a3, a4, a5, a6, a7, a8, a9, a10, a11, a12, a13, a14, a15, h⟩ := list16t (show (bytes k.l).length = 16 from Id.len_b k)
  have h1 := build_t3 a0 a1 a2 a3 a4 a5 a6 a7 a8 a9 a10 a11 a12 a13 a14 a15 A n c m W
  rw [tc_eq]
  show (Instr.build 56 #[(0, .slice A n c), (1, .int .i64 m), (2, .agg (bytes k.l).toArray)]).run Try.prog W = _
  rw [h]
  exact h1
theorem tz_eq : tz = [.slice none 0 0, .int .i64 0] ++ bytes zId.l := rfl
theorem new_tc {g : Nat} {t : TypeId} {L : List Fa} {P : Program} {ops : Array Oper} {Q : Exit → Act → World → Prop} {n : Nat} {l : Env} {rest : List Oper} (h : SL P ops Q rest n l (blk g t tz :: L)) : SL P ops Q rest n l (blk g t ([.slice none 0 0, .int .i64 0] ++ bytes zId.l) :: L) := h
attribute [irreducible] tc
theorem nth_Gf {φ : Prop} (h : φ := by (first | rfl | first | exact tc_n0 | exact tc_n1)) : φ := h
theorem mid_Gf {φ : Prop} (h : φ := by (first | first | exact Ta.mid _ | exact tc_mid | exact Mid.all | exact Mid.all | exact Mid.head)) : φ := h
theorem sz_Gf {φ : Prop} (h : φ := by (first | rfl | (first | (rw [bytes_length, Id.len]; rfl) | (rw [tc_len]; rfl) | rw [tc_len, tc_len]; first | done | fail))) : φ := h
theorem one_Gf {φ : Prop} (h : φ := by (first | assumption | exact first | exact tc_one | exact one_bytes _ | (simp only [List.mem_cons, List.not_mem_nil, or_false, forall_eq_or_imp, forall_eq]; decide) | exact one_bytes _)) : φ := h
theorem set_Gf {φ : Prop} (h : φ := by (first | (exact tc_set0) | ((repeat (first | exact SetAt.here | apply SetAt.there)); first | done | fail))) : φ := h
theorem cl_Gf {φ : Prop} (h : φ := by first | rfl | exact .t | exact .f | exact .t (by omega) | exact .f (by omega) | exact .u | exact .i (by (first | exact .t (by omega) | exact .f (by omega) | exact .u | exact .i (by omega) | exact .v (by omega) | exact .b (by omega) | exact .w | rfl | omega)) | exact .v (by omega) | exact .b (by omega) | exact .q (by omega) | exact .w | exact .b (by exact at_) rfl (by exact nth_Gf) | exact .w (by exact at_) rfl rfl (by exact sz_Gf) | exact .s (by exact at_) (by exact mid_Gf) rfl rfl (by exact sz_Gf) | exact .z rfl rfl ⟨by kernel_rfl⟩ | exact .b rfl rfl ⟨by kernel_rfl⟩ | exact .a rfl rfl ⟨by kernel_rfl⟩ | exact .o rfl | exact .s | exact .n | exact .p rfl | exact .q rfl | exact .c rfl | exact .d rfl | exact .n rfl rfl (by omega) | exact .a rfl rfl (by omega) | exact .p rfl rfl (by omega) (by omega) | exact .y rfl rfl (by omega) (by omega) | exact .o (by exact at_) (by omega) rfl (by exact nth_Gf) | exact .m (by exact at_) (by omega) (by exact mid_Gf) rfl rfl (by exact sz_Gf) | exact .mlen (by exact at_) rfl | exact .t (by exact at_) rfl rfl (by first | exact True.intro | rfl) (by assumption) | exact .f (by exact at_) rfl rfl (by first | exact True.intro | rfl) (by assumption) rfl | exact .t1 (by exact at_) rfl rfl (by first | exact True.intro | rfl) (by assumption) | exact .f1 (by exact at_) rfl rfl (by first | exact True.intro | rfl) (by assumption) rfl | exact .r rfl rfl (by omega) (by omega) (by exact nth_Gf) rfl | exact .s rfl (by omega) (by assumption) | exact at_ | assumption | exact .r rfl rfl | exact .h rfl rfl rfl (by omega) | exact .l rfl rfl rfl (by omega) (by omega) | exact .g rfl rfl rfl rfl (by omega) (by omega) | exact .h rfl rfl (toN_ (by omega)) (by omega) | exact .l rfl rfl (toN_ (by omega)) (by omega) (by omega) | exact .g rfl rfl (toN_ (by omega)) (toN_ (by omega)) (by omega) (by omega) | exact .o (by decide) | exact .f (by decide) | exact .n (by omega) (by first | decide | (show _ ≤ ((64 : Nat) : Int); omega)) | (constructor; (repeat (first | exact .t (by omega) | exact .f (by omega) | exact .u | exact .i (by omega) | exact .v (by omega) | exact .b (by omega) | exact .w | rfl | omega)); first | done | fail) | omega | (show _ ≤ ((64 : Nat) : Int); omega)) : φ := h
theorem pv_Gf {φ : Prop} (h : φ := by constructor; (repeat exact cl_Gf); first | done | fail) : φ := h
theorem su_Gf {φ ψ : Prop} (k : ψ) (h : Hide ψ → φ := by (intro k; (first | refine sl_pu (PuI.sep (by exact pv_Gf)) rfl ?_ | refine sl_yes rfl rfl ?_ | refine sl_no rfl rfl rfl ?_ | refine sl_off rfl rfl rfl ?_ | (fail)); exact k.out)) : φ := h ⟨k⟩
theorem rq_Gf {φ ψ : Prop} (k : ψ) (h : Hide ψ → φ := by (intro k; (first | refine wq_pu (PuI.sep (by exact pv_Gf)) rfl ?_ | refine wq_yes rfl rfl ?_ | refine wq_no rfl rfl rfl ?_ | refine wq_off rfl rfl rfl ?_ | (fail)); exact k.out)) : φ := h ⟨k⟩
theorem sto_Gf {φ ψ : Prop} (k : ψ) (h : Hide ψ → φ := by (intro k; (first | refine sl_store rfl (by exact pick_) rfl rfl (by kernel_rfl) (by exact set_Gf) ?_ | refine sl_store_whole rfl (by exact pick_) rfl (by exact sz_Gf) (by exact sz_Gf) (by exact one_Gf) ?_); exact k.out)) : φ := h ⟨k⟩
theorem go_Gf {φ ψ : Prop} (k : ψ) (h : Hide ψ → φ := by (intro k; (repeat (first | refine su_Gf ?_ | refine so_ ?_ | refine sto_Gf ?_)); exact k.out)) : φ := h ⟨k⟩
set_option maxRecDepth 100000 in
set_option maxHeartbeats 2000000 in
theorem cloneE_ok {K : List Fa} {A : Option Addr} {n c : Nat} {xs : List Int} (hr : Vw K (fun w => Reads w 2 A n (rows eC xs))) (hn : n ≤ 1000000) :
    Fn Try.prog 38 #[.slice A n c] K (Ret (fun _ : Option Addr × Nat => True) (fun q => .slice q.1 n q.2) (fun q => eo q.1 n q.2 xs :: K)) := by
  refine fn_enter Try.func38 rfl _ Try.ntmps38 (by simp) [(0, .slice A n c)] (args_of (by simp)) ?_
  cases A with
  | none =>
    refine sc_know (vwe_nil hr) ?_
    intro h0
    subst h0
    refine sc_know (vwe_len hr) ?_
    intro hl
    obtain rfl : xs = [] := List.eq_nil_of_length_eq_zero hl
    refine go_Gf ?_
    exact se_ret1 (none, 0) trivial rfl rfl (Sub.own_nil Sub.refl)
  | some a =>
    refine go_Gf ?_
    refine sl_build0 (e := 65) (size := 2) rfl (fun W => by kernel_rfl) rfl ?_
    intro g0
    refine go_Gf ?_
    refine sl_app rfl (by exact pick_) rfl (hr.mono (by exact sub_)) (eCs_one _) rfl infoE (by decide) (by decide) rfl (by unfold maxLen; omega) (by omega) ?_
    intro A2 c2
    rw [Nat.zero_add, List.nil_append]
    refine go_Gf ?_
    exact se_ret1 (A2, c2) trivial rfl rfl (by exact sub_)
set_option maxRecDepth 100000 in
set_option maxHeartbeats 2000000 in
theorem copied_ok {K : List Fa} {A : Option Addr} {n c : Nat} {m : Int} {k : Id} {xs : List Int} (hr : Vw K (fun w => Reads w 2 A n (rows eC xs))) (hn : n ≤ 1000000) :
    Fn Try.prog 27 #[.agg (tc A n c m k).toArray] K (Ret (fun _ : Option Addr × Nat => True) (fun q => .agg (tc q.1 n q.2 m k).toArray) (fun q => eo q.1 n q.2 xs :: K)) := by
  refine fn_enter Try.func27 rfl _ Try.ntmps27 (by simp) [(0, .agg (tc A n c m k).toArray)] (args_of (by simp)) ?_
  refine go_Gf ?_
  refine sl_box rfl rfl rfl ?_; intro g1
  refine go_Gf ?_
  refine sl_alloc rfl rfl rfl ?_; intro g2
  refine go_Gf ?_
  refine sl_call rfl rfl (by kernel_rfl) rfl (by exact sub_) (cloneE_ok (hr.mono (by exact sub_)) hn) ?_; rintro ⟨A2, c2⟩ -
  refine go_Gf ?_
  exact se_ret_c (A2, c2) trivial rfl rfl (by exact at_) rfl rfl (by rw [tc_len]; rfl) rfl (by exact sub_)
set_option maxRecDepth 100000 in
set_option maxHeartbeats 2000000 in
theorem tnew_ok {K : List Fa} {t : Ta} (h : t.err = 0) :
    Fn Try.prog 23 #[.agg t.c.toArray] K (Ret (fun _ : Nat => True) (fun g => .agg (tc (some ⟨g, 0, none⟩) t.out.toNat t.out.toNat 0 zId).toArray) (fun g => eo (some ⟨g, 0, none⟩) t.out.toNat t.out.toNat (List.replicate t.out.toNat 0) :: K)) := by
  refine fn_enter Try.func23 rfl _ Try.ntmps23 (by simp) [(0, .agg t.c.toArray)] (args_of (by simp)) ?_
  have hol := t.out_le h
  obtain ⟨o, ho⟩ : ∃ o : Nat, t.out = o := ⟨t.out.toNat, by omega⟩
  rw [ho] at hol
  refine go_Gf ?_
  refine sl_box rfl rfl rfl ?_; intro g1
  refine go_Gf ?_
  refine sl_alloc rfl rfl rfl ?_; intro g2
  refine go_Gf ?_
  refine sl_call rfl rfl (by kernel_rfl) rfl Sub.refl (tcheck_ok t.kd t.fl t.bt t.ln t.wt t.ch t.np t.tag) ?_
  rintro _ -
  rw [show tErr t.kd t.fl t.bt t.ln t.wt t.ch t.np t.tag = 0 from h]
  refine go_Gf ?_
  refine sl_call rfl rfl (by kernel_rfl) rfl Sub.refl (out_ok t.kd t.fl t.bt t.ln t.wt t.ch) ?_
  rintro _ -
  rw [show outN t.kd t.ln = (o : Int) from ho]
  refine sl_make (lo := .tmp 9) (i := default) (k := o) (c := o) (bytes := 16) (size := 2) (z := .agg #[.int .u64 0, .int .u64 0]) (e := 65) rfl rfl rfl infoE (Nat.le_refl _) (by omega) (by unfold maxLen; omega) rfl ?_
  intro g
  rw [show ((madeCells (Value.agg #[.int .u64 0, .int .u64 0]).cells (o * 2)).toList.take (o * 2)) = rows eC (List.replicate o 0) from made_rows (k := 1) rfl]
  refine sl_pu (pu_build (v := .agg (tc (some ⟨g, 0, none⟩) o o 0 zId).toArray) rfl (fun W => by kernel_rfl)) rfl ?_
  refine sl_store_whole rfl (by exact pick_) rfl (by rw [tc_len]; rfl) (by rw [tc_len]; rfl) tc_one ?_
  refine go_Gf ?_
  exact se_ret_c g trivial rfl rfl (by exact at_) rfl rfl (by rw [tc_len]; rfl) (by rw [ho, Int.toNat_natCast]) (by rw [ho, Int.toNat_natCast]; exact sub_)
set_option maxRecDepth 100000 in
set_option maxHeartbeats 2000000 in
theorem tadd_ok {K : List Fa} {t : Ta} {A B : Option Addr} {n c cb : Nat} {m : Int} {k id : Id} {xs ys : List Int} (h : t.err = 0) (hm : 0 ≤ m ∧ m < 256) (ho : t.out = n)
    (hx : Vw K (fun w => Reads w 2 A n (rows eC xs))) (hy : Vw K (fun w => Reads w 2 B n (rows eC ys))) (ex : Els xs) (ey : Els ys) :
    Fn Try.prog 24 #[.agg (tc A n c m k).toArray, .agg t.c.toArray, id.v, .slice B n cb] K (Ret (fun _ : Nat => True) (fun g => .tuple #[.agg (tc (some ⟨g, 0, none⟩) n n (m + 1) (xorI k (ofId id))).toArray, .int .i64 0]) (fun g => eo (some ⟨g, 0, none⟩) n n (addV t.fl xs ys) :: K)) := by
  refine fn_enter Try.func24 rfl _ Try.ntmps24 (by simp) [(0, .agg (tc A n c m k).toArray), (1, .agg t.c.toArray), (2, id.v), (3, .slice B n cb)] (args_of (by simp)) ?_
  have hol := t.out_le h
  refine go_Gf ?_
  refine sl_box rfl rfl rfl ?_; intro g1
  refine go_Gf ?_
  refine sl_box rfl rfl rfl ?_; intro g2
  refine go_Gf ?_
  refine sl_box rfl rfl rfl ?_; intro g3
  refine go_Gf ?_
  refine sl_alloc rfl rfl rfl ?_; intro g4
  refine go_Gf ?_
  refine sl_call rfl rfl (by kernel_rfl) rfl (by exact sub_) (tcheck_ok t.kd t.fl t.bt t.ln t.wt t.ch t.np t.tag) ?_; rintro _ -
  rw [show tErr t.kd t.fl t.bt t.ln t.wt t.ch t.np t.tag = 0 from h]
  refine go_Gf ?_
  refine sl_call rfl rfl (by kernel_rfl) rfl (by exact sub_) (out_ok t.kd t.fl t.bt t.ln t.wt t.ch) ?_; rintro _ -
  rw [show outN t.kd t.ln = (n : Int) from ho]
  refine go_Gf ?_
  refine sl_call rfl rfl (by kernel_rfl) rfl (by exact sub_) (addVec_ok (f := t.fl) (hx.mono (by exact sub_)) (hy.mono (by exact sub_)) ex ey (by omega)) ?_; rintro g5 -
  refine go_Gf ?_
  refine sd_drawn (fun W => AllP W [blk g1 56 (tc A n c m k), blk g3 52 (bytes id.l)]) (fun _ => true) (by kernel_rfl) 12 rfl ?_
  refine sd_yes2 0 rfl (by exact gd_) (by kernel_rfl) (by kernel_rfl) (by exact nop_) (PuI.all (by exact pv_Gf)) rfl (fun w hw => all_ hw) ?_
  refine sd_yes2 1 rfl (by exact gd_) (by kernel_rfl) (by kernel_rfl) (by exact nop_) (PuI.all (by exact pv_Gf)) rfl (fun w hw => all_ hw) ?_
  refine sd_yes2 2 rfl (by exact gd_) (by kernel_rfl) (by kernel_rfl) (by exact nop_) (PuI.all (by exact pv_Gf)) rfl (fun w hw => all_ hw) ?_
  refine sd_yes2 3 rfl (by exact gd_) (by kernel_rfl) (by kernel_rfl) (by exact nop_) (PuI.all (by exact pv_Gf)) rfl (fun w hw => all_ hw) ?_
  refine sd_yes2 4 rfl (by exact gd_) (by kernel_rfl) (by kernel_rfl) (by exact nop_) (PuI.all (by exact pv_Gf)) rfl (fun w hw => all_ hw) ?_
  refine sd_yes2 5 rfl (by exact gd_) (by kernel_rfl) (by kernel_rfl) (by exact nop_) (PuI.all (by exact pv_Gf)) rfl (fun w hw => all_ hw) ?_
  refine sd_yes2 6 rfl (by exact gd_) (by kernel_rfl) (by kernel_rfl) (by exact nop_) (PuI.all (by exact pv_Gf)) rfl (fun w hw => all_ hw) ?_
  refine sd_one 7 (by kernel_rfl) (sa_sl 7 rfl ?_)
  refine sl_call rfl rfl (by kernel_rfl) rfl (by exact sub_) ofId_ok ?_
  rintro _ -
  refine sl_nil ?_
  refine se_sd (fun _ w hw => all_ hw) ?_
  refine sd_one 8 (by kernel_rfl) (sa_sl 8 rfl ?_)
  refine sl_call rfl rfl (by kernel_rfl) rfl (by exact sub_) with_ok ?_
  rintro _ -
  refine sl_nil ?_
  refine se_sd (fun _ w hw => all_ hw) ?_
  refine sd_yes2 9 rfl (by exact gd_) (by kernel_rfl) (by kernel_rfl) (by exact nop_) (pu_build (v := .agg (tc (some ⟨g5, 0, none⟩) n n (m + 1) (xorI k (ofId id))).toArray) rfl (build_tot _ _ _ _ _)) rfl (fun w hw => all_ hw) ?_
  refine sd_one 10 (by kernel_rfl) (sa_sl 10 rfl ?_)
  refine sl_store_whole rfl (by exact pick_) rfl (by rw [tc_len]; rfl) (by rw [tc_len]; rfl) tc_one ?_
  refine sl_nil ?_
  refine se_sd (fun _ w hw => all_ hw) ?_
  refine sd_yes2 11 rfl (by exact gd_) (by kernel_rfl) (by kernel_rfl) (by exact nop_) (PuI.all (by exact pv_Gf)) rfl (fun w hw => all_ hw) ?_
  refine sd_done (by kernel_rfl) ?_
  refine go_Gf ?_
  exact se_ret_ct g5 trivial rfl rfl (by exact at_) rfl rfl (by rw [tc_len]; rfl) rfl rfl (by exact sub_)
set_option maxRecDepth 100000 in
set_option maxHeartbeats 2000000 in
theorem tadd_size {K : List Fa} {t : Ta} {A B : Option Addr} {n p c cb : Nat} {m : Int} {k id : Id} (h : t.err = 0) (hm : 0 ≤ m ∧ m < 256) (ho : t.out ≠ p) :
    Fn Try.prog 24 #[.agg (tc A n c m k).toArray, .agg t.c.toArray, id.v, .slice B p cb] K (Ret (fun _ : Unit => True) (fun _ => .tuple #[.agg tz.toArray, .int .i64 9]) (fun _ => K)) := by
  refine fn_enter Try.func24 rfl _ Try.ntmps24 (by simp) [(0, .agg (tc A n c m k).toArray), (1, .agg t.c.toArray), (2, id.v), (3, .slice B p cb)] (args_of (by simp)) ?_
  refine go_Gf ?_
  refine sl_box rfl rfl rfl ?_; intro g1
  refine go_Gf ?_
  refine sl_box rfl rfl rfl ?_; intro g2
  refine go_Gf ?_
  refine sl_box rfl rfl rfl ?_; intro g3
  refine go_Gf ?_
  refine sl_alloc rfl rfl rfl ?_; intro g4
  refine go_Gf ?_
  refine sl_call rfl rfl (by kernel_rfl) rfl (by exact sub_) (tcheck_ok t.kd t.fl t.bt t.ln t.wt t.ch t.np t.tag) ?_; rintro _ -
  rw [show tErr t.kd t.fl t.bt t.ln t.wt t.ch t.np t.tag = 0 from h]
  refine go_Gf ?_
  refine sl_call rfl rfl (by kernel_rfl) rfl (by exact sub_) (out_ok t.kd t.fl t.bt t.ln t.wt t.ch) ?_; rintro _ -
  have ho' : outN t.kd t.ln ≠ (p : Int) := ho
  generalize outN t.kd t.ln = q at ho' ⊢
  refine go_Gf ?_
  refine sl_pu (pu_build (v := .agg tz.toArray) rfl (fun W => by kernel_rfl)) rfl ?_
  refine sl_store_whole rfl (by exact pick_) rfl (by rw [tc_len]; rfl) (by rw [tc_len]; rfl) tc_one ?_
  refine go_Gf ?_
  exact se_ret_ct () trivial rfl rfl (by exact at_) rfl rfl (by rw [tc_len]; rfl) rfl rfl (by exact sub_)
end Go.Proofs.Ytdmeofobljjpfaa
