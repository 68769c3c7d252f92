/- Several texts of one claim, one behind the other (Gg). -/
import Derived.Test.YtocaabnbmcpjmaaGreatDoorB11
import Derived.Test.YtocaabnbmcpjmaaGreatDoorB06
set_option linter.unusedVariables false
set_option linter.unusedSimpArgs false
/- Package bucket: rules; books over facts; Fits, Get, Rules. -/
namespace Go.Proofs.YtocaabnbmcpjmaaGreatDoor
open Go.RowKit Go.MapKept
attribute [local irreducible] Go.Calls Go.Exit.then Go.Exit.inBlock Go.bodyPost Go.Code.wp Go.wpList
attribute [local irreducible] hashL ofId
/-- Rules. -/
structure Rl where
  w : Int
  mn : Int
  mx : Int
def Rl.c (r : Rl) : List Value := [.int .u64 r.w, .int .i64 r.mn, .int .i64 r.mx]
theorem Rl.one (r : Rl) : ∀ v ∈ r.c, v.oneCell' = true := by
  intro v hv
  simp only [Rl.c, List.mem_cons, List.not_mem_nil, or_false] at hv
  rcases hv with rfl | rfl | rfl <;> rfl
/-- Where a time's window begins. -/
def stN (w now : Int) : Int := if w = 0 then now else now / w * w
theorem stN_le {w now : Int} (hw : 0 ≤ w) (h : 0 ≤ now) : 0 ≤ stN w now ∧ stN w now ≤ now := by
  unfold stN
  split
  · omega
  · rename_i h0
    exact ⟨Int.mul_nonneg (Int.ediv_nonneg h hw) hw, Int.ediv_mul_le _ h0⟩
/-- May they be, of a task? -/
def rErr (r : Rl) (t : Ta) : Int := if t.err ≠ 0 then t.err else if r.w < 1 ∨ 1099511627776 < r.w then 6 else if r.mn < 1 ∨ r.mx < r.mn ∨ 256 < r.mx then 6 else 0
/-- A bucket. -/
structure BK where
  st : Int
  A : Option Addr
  c : Nat
  l : List Int
  m : Int
  k : Id
  cl : Bool
  bn : Nat
def bkC (st : Int) (T : List Value) (cl : Bool) : List Value := [.int .u64 st] ++ T ++ [.bool cl]
def BK.T (b : BK) : List Value := tc b.A b.l.length b.c b.m b.k
def BK.cells (b : BK) : List Value := bkC b.st b.T b.cl
theorem bkC_len {st : Int} {T : List Value} {cl : Bool} (h : T.length = 18) : (bkC st T cl).length = 20 := by simp [bkC, h]
theorem BK.len (b : BK) : b.cells.length = 20 := bkC_len tc_len
theorem bkC_one {st : Int} {T : List Value} {cl : Bool} (h : ∀ v ∈ T, v.oneCell' = true) : ∀ v ∈ bkC st T cl, v.oneCell' = true := by
  intro v hv
  simp only [bkC, List.cons_append, List.nil_append, List.mem_cons, List.mem_append, List.not_mem_nil, or_false] at hv
  rcases hv with rfl | hv | rfl
  · rfl
  · exact h v hv
  · rfl
theorem BK.one (b : BK) : ∀ v ∈ b.cells, v.oneCell' = true := bkC_one tc_one
theorem bkC_mid {st : Int} {T : List Value} {cl : Bool} : Mid (bkC st T cl) 1 T := Mid.of_append (a := [Value.int .u64 st]) rfl
theorem BK.mid (b : BK) : Mid b.cells 1 b.T := bkC_mid
theorem bkC_n0 {st : Int} {T : List Value} {cl : Bool} : nth (bkC st T cl) 0 = some (.int .u64 st) := rfl
theorem bkC_nT {st : Int} {T : List Value} {cl : Bool} {i : Nat} {v : Value} (h : nth T i = some v) : nth (bkC st T cl) (1 + i) = some v := nth_mid (pre := [Value.int .u64 st]) rfl h
theorem bkC_n2 {st : Int} {A : Option Addr} {n c : Nat} {m : Int} {k : Id} {cl : Bool} : nth (bkC st (tc A n c m k) cl) 2 = some (.int .i64 m) := bkC_nT (i := 1) tc_n1
theorem bkC_n1 {st : Int} {A : Option Addr} {n c : Nat} {m : Int} {k : Id} {cl : Bool} : nth (bkC st (tc A n c m k) cl) 1 = some (.slice A n c) := bkC_nT (i := 0) tc_n0
theorem bkC_n19 {st : Int} {T : List Value} {cl : Bool} (h : T.length = 18) : nth (bkC st T cl) 19 = some (.bool cl) := by
  rw [nth_eq]
  unfold bkC
  rw [List.getElem?_append_right (by simp [h])]
  simp [h]
theorem bkC_n19' {st : Int} {A : Option Addr} {n c : Nat} {m : Int} {k : Id} {cl : Bool} : nth (bkC st (tc A n c m k) cl) 19 = some (.bool cl) := bkC_n19 tc_len
theorem bkC_set19 {st : Int} {T : List Value} {cl cl' : Bool} (h : T.length = 18) : SetAt 19 (.bool cl') (bkC st T cl) (bkC st T cl') := by
  have h1 := SetAt.mk (i := 19) (v := .bool cl') (r := bkC st T cl) (by rw [bkC_len h]; decide)
  have h2 : (bkC st T cl).set 19 (.bool cl') = bkC st T cl' := by
    unfold bkC
    rw [List.set_append_right _ _ (by simp [h])]
    simp [h]
  rwa [h2] at h1
def BM : MK BK := ⟨fun b => .int .u64 b.st, fun b => .agg b.cells.toArray, fun b => b.bn, fun b => eo b.A b.l.length b.c b.l⟩
/-- A book. -/
def boC (t : Ta) (r : Rl) (m : Nat) : List Value := t.c ++ r.c ++ [.map (some m)]
theorem boC_mt {t : Ta} {r : Rl} {m : Nat} : Mid (boC t r m) 0 t.c := by
  unfold boC
  rw [List.append_assoc]
  exact Mid.head
theorem boC_mr {t : Ta} {r : Rl} {m : Nat} : Mid (boC t r m) 8 r.c := Mid.of_append (a := t.c) rfl
abbrev bB (g : Nat) (t : Ta) (r : Rl) (m : Nat) : Fa := blk g 116 (boC t r m)
abbrev bM (m : Nat) (fs : List BK) (ck : Nat) : Fa := kM BM m (.int .u64) fs ck
abbrev bS (fs : List BK) : Fa := kS BM fs
theorem bget {fs : List BK} {b : BK} (h : b ∈ fs) : MGet (fs.map BM.ent) (.int .u64 b.st) (.agg (bkC b.st (tc b.A b.l.length b.c b.m b.k) b.cl).toArray) := kget (M := BM) h
def bfind (fs : List BK) (s : Int) : Option BK := fs.find? (fun b => decide (b.st = s))
theorem bfind_some {fs : List BK} {s : Int} {b : BK} (h : bfind fs s = some b) : b ∈ fs ∧ b.st = s := ⟨List.mem_of_find?_eq_some h, by simpa using List.find?_some h⟩
theorem bfind_none {fs : List BK} {s : Int} (h : bfind fs s = none) : ∀ b ∈ fs, b.st ≠ s := fun b hb => by simpa using List.find?_eq_none.1 h b hb
theorem bno {fs : List BK} {s : Int} (h : bfind fs s = none) : MNo (fs.map BM.ent) (.int .u64 s) := kno (M := BM) fun b hb e => by
  have e' : Value.int .u64 b.st = .int .u64 s := e
  injection e' with _ e'
  exact bfind_none h b hb e'
/-- May a report of a time be added? -/
def fitsE (r : Rl) (fs : List BK) (now : Int) : Int := if 1099511627776 < now then 15 else match bfind fs (stN r.w now) with
  | none => if fs.length = 32 then 5 else if r.mx ≤ 0 then 18 else 0
  | some b => if b.cl then 16 else if r.mx ≤ b.m then 18 else 0
theorem nth_Gg {φ : Prop} (h : φ := by (first | rfl | first | exact bkC_n0 | exact bkC_n1 | exact bkC_n2 | exact bkC_n19' | exact tc_n0 | exact tc_n1)) : φ := h
theorem mid_Gg {φ : Prop} (h : φ := by (first | first | exact boC_mt | exact boC_mr | exact bkC_mid | exact Ta.mid _ | exact tc_mid | exact Mid.all | exact Mid.all | exact Mid.head)) : φ := h
theorem sz_Gg {φ : Prop} (h : φ := by (first | rfl | (first | (rw [bkC_len tc_len]; rfl) | rw [bkC_len tc_len] | rw [BK.len] | (rw [bytes_length, Id.len]; rfl) | (rw [tc_len]; rfl) | rw [tc_len, tc_len]; first | done | fail))) : φ := h
theorem one_Gg {φ : Prop} (h : φ := by (first | assumption | exact first | exact BK.one _ | exact bkC_one tc_one | exact tc_one | exact Ta.one _ | exact Rl.one _ | exact one_bytes _ | (simp only [List.mem_cons, List.not_mem_nil, or_false, forall_eq_or_imp, forall_eq]; decide) | exact one_bytes _ | (intro v hv; (repeat (rcases List.mem_cons.1 hv with rfl | hv; rfl)); cases hv))) : φ := h
theorem set_Gg {φ : Prop} (h : φ := by (first | (first | exact tc_set0 | exact bkC_set19 tc_len) | ((repeat (first | exact SetAt.here | apply SetAt.there)); first | done | fail))) : φ := h
theorem cl_Gg {φ : Prop} (h : φ := by first | rfl | exact .t | exact .f | exact .t (by omega) | exact .f (by omega) | exact .u | exact .i (by (first | exact .t (by omega) | exact .f (by omega) | exact .u | exact .i (by omega) | exact .v (by omega) | exact .b (by omega) | exact .w | rfl | omega)) | exact .v (by omega) | exact .b (by omega) | exact .q (by omega) | exact .w | exact .b (by exact at_) rfl (by exact nth_Gg) | exact .w (by exact at_) rfl rfl (by exact sz_Gg) | exact .s (by exact at_) (by exact mid_Gg) rfl rfl (by exact sz_Gg) | exact .z rfl rfl ⟨by kernel_rfl⟩ | exact .b rfl rfl ⟨by kernel_rfl⟩ | exact .a rfl rfl ⟨by kernel_rfl⟩ | exact .o rfl | exact .s | exact .n | exact .p rfl | exact .q rfl | exact .c rfl | exact .d rfl | exact .n rfl rfl (by omega) | exact .a rfl rfl (by omega) | exact .p rfl rfl (by omega) (by omega) | exact .y rfl rfl (by omega) (by omega) | exact .o (by exact at_) (by omega) rfl (by exact nth_Gg) | exact .m (by exact at_) (by omega) (by exact mid_Gg) rfl rfl (by exact sz_Gg) | exact .mlen (by exact at_) rfl | exact .t (by exact at_) rfl rfl (by first | exact True.intro | rfl) (by assumption) | exact .f (by exact at_) rfl rfl (by first | exact True.intro | rfl) (by assumption) rfl | exact .t1 (by exact at_) rfl rfl (by first | exact True.intro | rfl) (by assumption) | exact .f1 (by exact at_) rfl rfl (by first | exact True.intro | rfl) (by assumption) rfl | exact .tk (by exact at_) rfl (by assumption) (by assumption) | exact .fk (by exact at_) rfl (by assumption) (by assumption) rfl | exact .tk1 (by exact at_) rfl (by assumption) (by assumption) | exact .fk1 (by exact at_) rfl (by assumption) (by assumption) rfl | exact .r rfl rfl (by omega) (by omega) (by exact nth_Gg) rfl | exact .s rfl (by omega) (by assumption) | exact at_ | assumption | exact .r rfl rfl | exact .h rfl rfl rfl (by omega) | exact .l rfl rfl rfl (by omega) (by omega) | exact .g rfl rfl rfl rfl (by omega) (by omega) | exact .h rfl rfl (toN_ (by omega)) (by omega) | exact .l rfl rfl (toN_ (by omega)) (by omega) (by omega) | exact .g rfl rfl (toN_ (by omega)) (toN_ (by omega)) (by omega) (by omega) | exact .o (by decide) | exact .f (by decide) | exact .n (by omega) (by first | decide | (show _ ≤ ((64 : Nat) : Int); omega)) | (constructor; (repeat (first | exact .t (by omega) | exact .f (by omega) | exact .u | exact .i (by omega) | exact .v (by omega) | exact .b (by omega) | exact .w | rfl | omega)); first | done | fail) | omega | (show _ ≤ ((64 : Nat) : Int); omega)) : φ := h
theorem pv_Gg {φ : Prop} (h : φ := by constructor; (repeat exact cl_Gg); first | done | fail) : φ := h
theorem su_Gg {φ ψ : Prop} (k : ψ) (h : Hide ψ → φ := by (intro k; (first | refine sl_pu (PuI.sep (by exact pv_Gg)) rfl ?_ | refine sl_yes rfl rfl ?_ | refine sl_no rfl rfl rfl ?_ | refine sl_off rfl rfl rfl ?_ | (fail)); exact k.out)) : φ := h ⟨k⟩
theorem rq_Gg {φ ψ : Prop} (k : ψ) (h : Hide ψ → φ := by (intro k; (first | refine wq_pu (PuI.sep (by exact pv_Gg)) rfl ?_ | refine wq_yes rfl rfl ?_ | refine wq_no rfl rfl rfl ?_ | refine wq_off rfl rfl rfl ?_ | (fail)); exact k.out)) : φ := h ⟨k⟩
theorem sto_Gg {φ ψ : Prop} (k : ψ) (h : Hide ψ → φ := by (intro k; (first | refine sl_store rfl (by exact pick_) rfl rfl (by kernel_rfl) (by exact set_Gg) ?_ | refine sl_store_whole rfl (by exact pick_) rfl (by exact sz_Gg) (by exact sz_Gg) (by exact one_Gg) ?_); exact k.out)) : φ := h ⟨k⟩
theorem go_Gg {φ ψ : Prop} (k : ψ) (h : Hide ψ → φ := by (intro k; (repeat (first | refine su_Gg ?_ | refine so_ ?_ | refine sto_Gg ?_)); exact k.out)) : φ := h ⟨k⟩
set_option maxRecDepth 100000 in
theorem start_ok {K : List Fa} {r : Rl} {now : Int} (hw : 0 ≤ r.w) (h : 0 ≤ now ∧ now ≤ 18446744073709551615) :
    Fn Tryz.prog 83 #[.agg r.c.toArray, .int .u64 now] K (Ret (fun _ : Unit => True) (fun _ => .int .u64 (stN r.w now)) (fun _ => K)) := by
  refine fn_enter Tryz.func83 rfl _ Tryz.ntmps83 (by simp) [(0, .agg r.c.toArray), (1, .int .u64 now)] (args_of (by simp)) ?_
  have hs := stN_le hw h.1
  by_cases h0 : r.w = 0
  · rw [show stN r.w now = now by unfold stN; rw [if_pos h0]]
    refine go_Gg ?_
    refine sl_box rfl rfl rfl ?_; intro g1
    refine go_Gg ?_
    exact se_ret1 () trivial rfl rfl (by exact sub_)
  · have e : stN r.w now = now / r.w * r.w := by unfold stN; rw [if_neg h0]
    rw [e] at hs ⊢
    have hq : 0 ≤ now / r.w ∧ now / r.w ≤ now := ⟨Int.ediv_nonneg h.1 hw, Int.ediv_le_self _ h.1⟩
    refine go_Gg ?_
    refine sl_box rfl rfl rfl ?_; intro g1
    refine go_Gg ?_
    ((refine sq_region (by kernel_rfl) (by kernel_rfl) ?_; (repeat refine rq_Gg ?_); refine sq_end ?_))
    refine go_Gg ?_
    exact se_ret1 () trivial rfl rfl (by exact sub_)
set_option maxRecDepth 100000 in
set_option maxHeartbeats 2000000 in
theorem rcheck_ok {K : List Fa} {r : Rl} {t : Ta} :
    Fn Tryz.prog 7 #[.agg r.c.toArray, .agg t.c.toArray] K (Ret (fun _ : Unit => True) (fun _ => .int .i64 (rErr r t)) (fun _ => K)) := by
  refine fn_enter Tryz.func7 rfl _ Tryz.ntmps7 (by simp) [(0, .agg r.c.toArray), (1, .agg t.c.toArray)] (args_of (by simp)) ?_
  refine go_Gg ?_
  refine sl_box rfl rfl rfl ?_; intro g1
  refine go_Gg ?_
  refine sl_box rfl rfl rfl ?_; intro g2
  refine go_Gg ?_
  refine sl_call rfl rfl (by kernel_rfl) rfl (by exact sub_) (tcheck_ok t.kd t.fl t.bt t.ln t.wt t.ch t.np t.tag) ?_; rintro _ -
  by_cases ht : t.err = 0
  case neg =>
    rw [show rErr r t = t.err by unfold rErr; rw [if_pos ht], show tErr t.kd t.fl t.bt t.ln t.wt t.ch t.np t.tag = t.err from rfl]
    refine go_Gg ?_
    exact se_ret1 () trivial rfl rfl (by exact sub_)
  rw [show tErr t.kd t.fl t.bt t.ln t.wt t.ch t.np t.tag = 0 from ht]
  have he : rErr r t = if r.w < 1 ∨ 1099511627776 < r.w then 6 else if r.mn < 1 ∨ r.mx < r.mn ∨ 256 < r.mx then 6 else 0 := by unfold rErr; rw [if_neg (by simp [ht])]
  rw [he]
  obtain ⟨w, mn, mx⟩ := r
  dsimp only
  by_cases h1 : w < 1
  · rw [if_pos (.inl h1)]
    refine go_Gg ?_
    exact se_ret1 () trivial rfl rfl (by exact sub_)
  by_cases h2 : 1099511627776 < w
  · rw [if_pos (.inr h2)]
    refine go_Gg ?_
    exact se_ret1 () trivial rfl rfl (by exact sub_)
  rw [if_neg (by omega)]
  by_cases h3 : mn < 1
  · rw [if_pos (.inl h3)]
    refine go_Gg ?_
    exact se_ret1 () trivial rfl rfl (by exact sub_)
  by_cases h4 : mx < mn
  · rw [if_pos (.inr (.inl h4))]
    refine go_Gg ?_
    exact se_ret1 () trivial rfl rfl (by exact sub_)
  by_cases h5 : 256 < mx
  · rw [if_pos (.inr (.inr h5))]
    refine go_Gg ?_
    exact se_ret1 () trivial rfl rfl (by exact sub_)
  · rw [if_neg (by omega)]
    refine go_Gg ?_
    exact se_ret1 () trivial rfl rfl (by exact sub_)
set_option maxRecDepth 100000 in
set_option maxHeartbeats 2000000 in
theorem bnew_ok {K : List Fa} {r : Rl} {t : Ta} (h : rErr r t = 0) :
    Fn Tryz.prog 22 #[.agg t.c.toArray, .agg r.c.toArray] K (Ret (fun _ : Nat × Nat => True) (fun q => .tuple #[.pointer (some ⟨q.1, 0, none⟩), .int .i64 0]) (fun q => bB q.1 t r q.2 :: bM q.2 [] 0 :: bS [] :: K)) := by
  refine fn_enter Tryz.func22 rfl _ Tryz.ntmps22 (by simp) [(0, .agg t.c.toArray), (1, .agg r.c.toArray)] (args_of (by simp)) ?_
  refine go_Gg ?_
  refine sl_box rfl rfl rfl ?_; intro g1
  refine go_Gg ?_
  refine sl_box rfl rfl rfl ?_; intro g2
  refine go_Gg ?_
  refine sl_call rfl rfl (by kernel_rfl) rfl (by exact sub_) rcheck_ok ?_; rintro _ -
  rw [h]
  refine go_Gg ?_
  refine sl_makeMap (d := .int .u64) rfl ?_
  intro m
  refine sl_pu (pu_build (v := .agg (boC t r m).toArray) rfl (fun W => by kernel_rfl)) rfl ?_
  refine sl_box rfl rfl rfl ?_
  intro g
  refine go_Gg ?_
  exact se_ret2 (g, m) trivial rfl rfl rfl rfl (.cons .here (.cons .here (sub_star0 (by exact sub_))))
end Go.Proofs.YtocaabnbmcpjmaaGreatDoor
