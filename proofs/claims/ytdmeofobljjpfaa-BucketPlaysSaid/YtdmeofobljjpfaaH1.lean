/- Several texts, one behind the other (Hb, Hc, Hd, He, Hf, Hk, Hl, Hm). -/
import Derived.Test.YtdmeofobljjpfaaQ3
import Derived.Test.YtdmeofobljjpfaaGk
set_option linter.unusedVariables false
set_option linter.unusedSimpArgs false
/- BucketPlays: a call of Close. -/
namespace Go.Proofs.Ytdmeofobljjpfaa
open Go.RowKit Go.MapKept
attribute [local irreducible] Go.Calls Go.Exit.then Go.Exit.inBlock Go.bodyPost Go.Code.wp Go.wpList
attribute [local irreducible] hashL ofId
/-- A call, as it lies in memory. -/
structure Bc where
  kd : Int
  tm : Int
  id : Id
  A : Option Addr
  c : Nat
  o : List Int
  raw : Bool
  wr : Bool
def Bc.C (a : Bc) : List Value := [.int .u8 a.kd, .int .u64 a.tm] ++ (bytes a.id.l ++ [.slice a.A a.o.length a.c, .bool a.raw, .bool a.wr])
theorem Bc.len (a : Bc) : a.C.length = 21 := by simp [Bc.C, bytes, a.id.len]
theorem Bc.one (a : Bc) : ∀ v ∈ a.C, v.oneCell' = true := by
  intro v hv
  simp only [Bc.C, List.cons_append, List.nil_append, List.mem_cons, List.mem_append, List.not_mem_nil, or_false] at hv
  rcases hv with rfl | rfl | hv | rfl | rfl | rfl
  · rfl
  · rfl
  · exact one_bytes _ v hv
  · rfl
  · rfl
  · rfl
theorem Bc.n0 (a : Bc) : nth a.C 0 = some (.int .u8 a.kd) := rfl
theorem Bc.n1 (a : Bc) : nth a.C 1 = some (.int .u64 a.tm) := rfl
theorem Bc.nx (a : Bc) {i : Nat} {v : Value} (h : nth [Value.slice a.A a.o.length a.c, .bool a.raw, .bool a.wr] i = some v) : nth a.C (18 + i) = some v := by
  rw [nth_eq] at h ⊢
  unfold Bc.C
  rw [List.getElem?_append_right (by simp; omega), List.getElem?_append_right (by simp [bytes, a.id.len]; omega)]
  simp only [List.length_cons, List.length_nil, bytes_length, a.id.len]
  rw [show 18 + i - (0 + 1 + 1) - 16 = i by omega]
  exact h
theorem Bc.n18 (a : Bc) : nth a.C 18 = some (.slice a.A a.o.length a.c) := a.nx (i := 0) rfl
theorem Bc.n19 (a : Bc) : nth a.C 19 = some (.bool a.raw) := a.nx (i := 1) rfl
theorem Bc.n20 (a : Bc) : nth a.C 20 = some (.bool a.wr) := a.nx (i := 2) rfl
theorem Bc.mid (a : Bc) : Mid a.C 2 (bytes a.id.l) := by
  unfold Bc.C
  rw [← List.append_assoc]
  exact Mid.of_append (a := [Value.int .u8 a.kd, .int .u64 a.tm]) rfl
attribute [irreducible] Bc.C
theorem split_bk {fs : List BK} {j : Nat} {b : BK} (h : fs[j]? = some b) : ∃ X Y, fs = X ++ b :: Y ∧ ∀ b', fs.set j b' = X ++ b' :: Y := by
  obtain ⟨hj, rfl⟩ := List.getElem?_eq_some_iff.1 h
  refine ⟨fs.take j, fs.drop (j + 1), ?_, fun b' => ?_⟩
  · conv => lhs; rw [← List.take_append_drop j fs]
    rw [List.drop_eq_getElem_cons hj]
  · rw [List.set_eq_take_append_cons_drop, if_pos hj]
theorem MOk.set {t : Ta} {r : Rl} {ms fs : List BK} (h : MOk t r ms fs) {j : Nat} {u' b b' : BK} (hb : fs[j]? = some b) (hc : u'.core = b'.core) (hs : b'.st = b.st) (hl : b'.l.length = t.out.toNat) (he : Els b'.l) (hm : 0 ≤ b'.m ∧ b'.m ≤ r.mx) : MOk t r (ms.set j u') (fs.set j b') := by
  have hmem : ∀ x ∈ fs.set j b', x = b' ∨ x ∈ fs := fun x hx => (List.mem_or_eq_of_mem_set hx).symm
  refine ⟨?_, ?_, fun x hx => ?_, fun x hx => ?_, fun x hx => ?_, ?_⟩
  · rw [List.map_set, List.map_set, h.core, hc]
  · have h1 : (fs.set j b').map BK.st = fs.map BK.st := by
      rw [List.map_set, hs]
      apply List.ext_getElem?
      intro i
      rw [List.getElem?_set]
      split
      · rename_i e
        subst e
        rw [List.getElem?_map, hb]
        split
        · rfl
        · rename_i hlt
          rw [List.length_map] at hlt
          obtain ⟨hj, _⟩ := List.getElem?_eq_some_iff.1 hb
          omega
      · rfl
    have h2 := List.pairwise_map (f := BK.st) (R := fun a b => a ≠ b) |>.2 h.keys
    rw [← h1] at h2
    exact List.pairwise_map.1 h2
  · rcases hmem x hx with rfl | hx
    · exact hl
    · exact h.len x hx
  · rcases hmem x hx with rfl | hx
    · exact he
    · exact h.els x hx
  · rcases hmem x hx with rfl | hx
    · exact hm
    · exact h.many x hx
  · rw [List.length_set]
    exact h.most
/-- Where the window of a time stands. -/
inductive AtI (ms : List BK) (st : Int) : Int → Prop
  | no (h : ∀ u ∈ ms, u.st ≠ st) : AtI ms st (-1)
  | yes {j : Nat} {u : BK} (hj : ms[j]? = some u) (hs : u.st = st) : AtI ms st j
theorem bfind_no {t : Ta} {r : Rl} {ms fs : List BK} (hM : MOk t r ms fs) {st : Int} (h : ∀ u ∈ ms, u.st ≠ st) : bfind fs st = none := by
  cases hf : bfind fs st with
  | none => rfl
  | some b =>
    obtain ⟨h1, h2⟩ := bfind_some hf
    have h3 : b.core ∈ ms.map BK.core := by rw [hM.core]; exact List.mem_map_of_mem h1
    obtain ⟨u, hu, e⟩ := List.mem_map.1 h3
    unfold BK.core at e
    injection e with e _
    exact absurd (e.trans h2) (h u hu)
theorem bfind_yes {t : Ta} {r : Rl} {ms fs : List BK} (hM : MOk t r ms fs) {b : BK} {j : Nat} (hb : fs[j]? = some b) : bfind fs b.st = some b := bfind_eq hM.keys (List.mem_of_getElem? hb)
theorem close_at {K : List Fa} {g m ck j : Nat} {t : Ta} {r : Rl} {fs : List BK} {b : BK} {s : Int} (hw : 0 ≤ r.w) (h : 0 ≤ s) (he : closeE r fs s = 0) (hb : fs[j]? = some b) (hf : bfind fs s = some b) (hn : b.l.length ≤ 1000000) :
    Fn Try.prog 14 #[.pointer (some ⟨g, 0, none⟩), .int .u64 s] (bB g t r m :: bM m fs ck :: bS fs :: K) (Ret (fun _ : Option Addr × Nat => True) (fun q => .tuple #[.agg (tc q.1 b.l.length q.2 b.m b.k).toArray, .int .i64 0]) (fun q => eo q.1 b.l.length q.2 b.l :: bB g t r m :: bM m (fs.set j b.shut) ck :: bS (fs.set j b.shut) :: K)) := by
  obtain ⟨X, Y, rfl, hset⟩ := split_bk hb
  rw [hset]
  exact close_ok hw h he hf hn
theorem kS_set {ms : List BK} {j : Nat} {u u' : BK} (hj : ms[j]? = some u) (h : BM.fa u' = BM.fa u) : bS (ms.set j u') = bS ms := by
  obtain ⟨X, Y, rfl, hset⟩ := split_bk hj
  rw [hset]
  exact ks_same h
theorem row_shut {ms : List BK} {j : Nat} {u : BK} (hj : ms[j]? = some u) : (rows BK.cells ms).set (j * 20 + 19) (.bool true) = rows BK.cells (ms.set j u.shut) := by
  refine rows_set BK.len hj ?_ (by decide)
  have := (bkC_set19 (st := u.st) (T := u.T) (cl := u.cl) (cl' := true) tc_len).eq
  exact this.2
def xE (g13 : Nat) (now st at' : Int) (E : Env) : Env := (13, .pointer (some ⟨g13, 0, none⟩)) :: (14, .int .u64 now) :: (15, .int .u64 st) :: (16, .int .i64 at') :: E
theorem win_T {ms : List BK} {j : Nat} {u : BK} (hj : ms[j]? = some u) : Mid (rows BK.cells ms) (j * 20 + 1) u.T := by
  intro i v hi
  have h1 := bk_mid hj (i := j) (1 + i) v (u.mid i v hi)
  rwa [← Nat.add_assoc] at h1
theorem win_m {ms : List BK} {j : Nat} {u : BK} (hj : ms[j]? = some u) : nth (rows BK.cells ms) (j * 20 + 2) = some (.int .i64 u.m) := rows_nth (j := 2) BK.len hj bkC_n2
theorem win_cl {ms : List BK} {j : Nat} {u : BK} (hj : ms[j]? = some u) : nth (rows BK.cells ms) (j * 20 + 19) = some (.bool u.cl) := rows_nth (j := 19) BK.len hj bkC_n19'
end Go.Proofs.Ytdmeofobljjpfaa
/- BucketPlays: a call of Close, walked. -/
namespace Go.Proofs.Ytdmeofobljjpfaa
open Go.RowKit Go.MapKept
attribute [local irreducible] Go.Calls Go.Exit.then Go.Exit.inBlock Go.bodyPost Go.Code.wp Go.wpList
attribute [local irreducible] hashL ofId
theorem addr_add (g a b : Nat) : ((⟨g, 0, none⟩ : Addr).add a).add b = (⟨g, 0, none⟩ : Addr).add (a + b) := by rw [at2, at1]
theorem nth_Hc {φ : Prop} (h : φ := by (first | rfl | first | exact bkC_n0 | exact bkC_n1 | exact bkC_n2 | exact bkC_n19' | exact tc_n0 | exact tc_n1 | exact Bc.n0 _ | exact Bc.n1 _ | exact Bc.n18 _ | exact Bc.n19 _ | exact Bc.n20 _ | assumption)) : φ := h
theorem mid_Hc {φ : Prop} (h : φ := by (first | first | exact boC_mt | exact boC_mr | exact bkC_mid | exact Ta.mid _ | exact tc_mid | exact Bc.mid _ | exact win_T (by assumption) | exact bk_mid (by assumption) | exact Mid.all | exact Mid.all | exact Mid.head)) : φ := h
theorem sz_Hc {φ : Prop} (h : φ := by (first | rfl | ((try simp only [bkC_len tc_len, tc_len, BK.len, Bc.len, bytes_length, Id.len]); (first | done | rfl); first | done | fail))) : φ := h
theorem one_Hc {φ : Prop} (h : φ := by (first | assumption | exact first | exact BK.one _ | exact bkC_one tc_one | exact tc_one | exact Bc.one _ | exact Ta.one _ | exact Rl.one _ | exact one_bytes _ | (simp only [List.mem_cons, List.not_mem_nil, or_false, forall_eq_or_imp, forall_eq]; decide) | exact one_bytes _ | (intro v hv; (repeat (rcases List.mem_cons.1 hv with rfl | hv; rfl)); cases hv))) : φ := h
theorem set_Hc {φ : Prop} (h : φ := by (first | (first | exact tc_set0 | exact bkC_set19 tc_len) | ((repeat (first | exact SetAt.here | apply SetAt.there)); first | done | fail))) : φ := h
theorem cl_Hc {φ : Prop} (h : φ := by first | rfl | exact .t | exact .f | exact .t (by omega) | exact .f (by omega) | exact .u | exact .i (by (first | exact .t (by omega) | exact .f (by omega) | exact .u | exact .i (by omega) | exact .v (by omega) | exact .b (by omega) | exact .w | rfl | omega)) | exact .v (by omega) | exact .b (by omega) | exact .q (by omega) | exact .w | exact .b (by exact at_) rfl (by exact nth_Hc) | exact .w (by exact at_) rfl rfl (by exact sz_Hc) | exact .s (by exact at_) (by exact mid_Hc) rfl rfl (by exact sz_Hc) | exact .z rfl rfl ⟨by kernel_rfl⟩ | exact .b rfl rfl ⟨by kernel_rfl⟩ | exact .a rfl rfl ⟨by kernel_rfl⟩ | exact .o rfl | exact .s | exact .n | exact .p rfl | exact .q rfl | exact .c rfl | exact .d rfl | exact .n rfl rfl (by omega) | exact .a rfl rfl (by omega) | exact .p rfl rfl (by omega) (by omega) | exact .y rfl rfl (by omega) (by omega) | exact .o (by exact at_) (by omega) rfl (by exact nth_Hc) | exact .m (by exact at_) (by omega) (by exact mid_Hc) rfl rfl (by exact sz_Hc) | exact .mlen (by exact at_) rfl | exact .t (by exact at_) rfl rfl (by first | exact True.intro | rfl) (by assumption) | exact .f (by exact at_) rfl rfl (by first | exact True.intro | rfl) (by assumption) rfl | exact .t1 (by exact at_) rfl rfl (by first | exact True.intro | rfl) (by assumption) | exact .f1 (by exact at_) rfl rfl (by first | exact True.intro | rfl) (by assumption) rfl | exact .r rfl rfl (by omega) (by omega) (by exact nth_Hc) rfl | exact .s rfl (by omega) (by assumption) | exact at_ | assumption | exact .r rfl rfl | exact .h rfl rfl rfl (by omega) | exact .l rfl rfl rfl (by omega) (by omega) | exact .g rfl rfl rfl rfl (by omega) (by omega) | exact .h rfl rfl (toN_ (by omega)) (by omega) | exact .l rfl rfl (toN_ (by omega)) (by omega) (by omega) | exact .g rfl rfl (toN_ (by omega)) (toN_ (by omega)) (by omega) (by omega) | exact .o (by decide) | exact .f (by decide) | exact .n (by omega) (by first | decide | (show _ ≤ ((64 : Nat) : Int); omega)) | (constructor; (repeat (first | exact .t (by omega) | exact .f (by omega) | exact .u | exact .i (by omega) | exact .v (by omega) | exact .b (by omega) | exact .w | rfl | omega)); first | done | fail) | omega | (show _ ≤ ((64 : Nat) : Int); omega)) : φ := h
theorem pv_Hc {φ : Prop} (h : φ := by constructor; (repeat exact cl_Hc); first | done | fail) : φ := h
theorem su_Hc {φ ψ : Prop} (k : ψ) (h : Hide ψ → φ := by (intro k; (first | refine sl_pu (PuI.sep (by exact pv_Hc)) rfl ?_ | refine sl_yes rfl rfl ?_ | refine sl_no rfl rfl rfl ?_ | refine sl_off rfl rfl rfl ?_ | (fail)); exact k.out)) : φ := h ⟨k⟩
theorem rq_Hc {φ ψ : Prop} (k : ψ) (h : Hide ψ → φ := by (intro k; (first | refine wq_pu (PuI.sep (by exact pv_Hc)) rfl ?_ | refine wq_yes rfl rfl ?_ | refine wq_no rfl rfl rfl ?_ | refine wq_off rfl rfl rfl ?_ | (first | refine wq_pu (pu_ldo (by exact at_) (by omega) rfl (at2 _ _ _) rfl (by exact nth_Hc)) rfl ?_)); exact k.out)) : φ := h ⟨k⟩
theorem sto_Hc {φ ψ : Prop} (k : ψ) (h : Hide ψ → φ := by (intro k; (first | refine sl_store rfl (by exact pick_) rfl rfl (by kernel_rfl) (by exact set_Hc) ?_ | refine sl_store_whole rfl (by exact pick_) rfl (by exact sz_Hc) (by exact sz_Hc) (by exact one_Hc) ?_); exact k.out)) : φ := h ⟨k⟩
theorem go_Hc {φ ψ : Prop} (k : ψ) (h : Hide ψ → φ := by (intro k; (repeat (first | refine su_Hc ?_ | refine so_ ?_ | refine sto_Hc ?_)); exact k.out)) : φ := h ⟨k⟩
set_option maxRecDepth 100000 in
set_option maxHeartbeats 8000000 in
theorem pB {K : List Fa} {t : Ta} {r : Rl} {g7 g8 g m ck i na cq n cR g13 : Nat} {QA R : Option Addr} {ms fs : List BK} {a : Bc} {now at' : Int} (ht : t.err = 0) (hw : 0 < r.w) (hM : MOk t r ms fs) (hn : ms.length = n) (hnow : 0 ≤ now ∧ now ≤ 18446744073709551615) (hat : AtI ms (stN r.w now) at') {Q' : Exit → Act → World → Prop}
    (hend : ∀ {R' : Option Addr} {n' cR' ck' : Nat} {ms' fs' : List BK} {l : Env} {L : List Fa}, MOk t r ms' fs' → ms'.length = n' → Has l (yE g7 g8 g i na cq QA R' n' cR') → Sub L (yH t r g7 g8 g m ck' R' n' cR' ms' fs' K) → SE Q' .normal 342 l L) :
    SC Try.prog (cAt [false, false, false, false, false, true, false, true, true, false, false, true, true, false, false, false, false, false, false, false, true, false, true] (fb Try.f6)) Q' 342 (xE g13 now (stN r.w now) at' (yE g7 g8 g i na cq QA R n cR)) (blk g13 73 a.C :: yH t r g7 g8 g m ck R n cR ms fs K) := by
  have hll := hM.ll
  have h32 := hM.most
  have hol := t.out_le ht
  have hsn := stN_le (w := r.w) (now := now) (by omega) hnow.1
  have hss := st_st (w := r.w) (now := now) (by omega)
  obtain ⟨kd, tm, id, oA, oc, o, raw, wr⟩ := a
  unfold xE yE yH
  generalize hst : stN r.w now = st at *
  -- the time that is asked
  obtain ⟨nw, hnw, hwr⟩ : ∃ nw, (0 ≤ nw ∧ nw ≤ 18446744073709551615 ∧ (stN r.w nw = nw ↔ nw = st)) ∧ nw = (if wr = true then now else st) := by
    refine ⟨if wr = true then now else st, ?_, rfl⟩
    split
    · refine ⟨hnow.1, hnow.2, ?_⟩
      rw [hst]
      exact ⟨fun h => h.symm, fun h => h.symm⟩
    · exact ⟨hsn.1, by omega, ⟨fun _ => rfl, fun _ => hss⟩⟩
  refine sc_mid (α := Unit) (fun _ => [(14, .int .u64 nw), (15, .int .u64 st), (16, .int .i64 at'), (7, .pointer (some ⟨g7, 0, none⟩)), (8, .pointer (some ⟨g8, 0, none⟩)), (9, .pointer (some ⟨g, 0, none⟩)), (10, .int .i64 0), (11, .slice R n cR), (44, .slice QA na cq), (45, .int .i64 na), (46, .int .i64 i)]) (fun _ => bB g t r m :: bM m fs ck :: bS fs :: mR R n cR ms :: bS ms :: blk g7 37 t.c :: blk g8 24 r.c :: K) (fun _ => True) ?_ ?_
  · cases wr with
    | true =>
      rw [if_pos rfl] at hwr
      subst hwr
      refine go_Hc ?_
      exact se_mid () (by exact has_) (by exact sub_) trivial
    | false =>
      rw [if_neg (by decide)] at hwr
      subst hwr
      refine go_Hc ?_
      exact se_mid () (by exact has_) (by exact sub_) trivial
  rintro _ -
  clear hwr
  obtain ⟨hn1, hn2, hn3⟩ := hnw
  by_cases hbad : 1099511627776 < nw ∨ stN r.w nw ≠ nw
  · have hce : closeE r fs nw = 15 := by unfold closeE; rw [if_pos hbad]
    have hne : ¬ nw ≤ 1099511627776 ∨ nw ≠ st := by
      rcases hbad with h | h
      · exact .inl (by omega)
      · exact .inr (fun e => h (hn3.2 e))
    refine go_Hc ?_
    refine sl_call rfl rfl (by kernel_rfl) rfl (by exact sub_) (close_no (fs := fs) (m := m) (ck := ck) (t := t) (by exact at_) (by exact at_) (by omega) ⟨hn1, hn2⟩ (by rw [hce]; decide)) ?_; rintro _ -
    rw [hce]
    refine go_Hc ?_
    refine sl_alloc rfl rfl rfl ?_; intro g19
    by_cases hb1 : 1099511627776 < nw
    · refine go_Hc ?_
      ((refine sq_region (by kernel_rfl) (by kernel_rfl) ?_; (repeat refine rq_Hc ?_); refine sq_end ?_))
      refine go_Hc ?_
      exact hend hM hn (by unfold yE; exact has_) (by unfold yH; exact sub_)
    · have hb2 : nw ≠ st := by omega
      refine go_Hc ?_
      ((refine sq_region (by kernel_rfl) (by kernel_rfl) ?_; (repeat refine rq_Hc ?_); refine sq_end ?_))
      refine go_Hc ?_
      exact hend hM hn (by unfold yE; exact has_) (by unfold yH; exact sub_)
  have hok : nw ≤ 1099511627776 := by omega
  have hse : stN r.w nw = nw := Decidable.byContradiction fun h => hbad (.inr h)
  have hns : nw = st := hn3.1 hse
  subst hns
  clear hbad hn3
  have hce : closeE r fs nw = match bfind fs nw with
    | none => 19
    | some b => if b.m < r.mn then 17 else 0 := by
    unfold closeE
    rw [if_neg (fun h => h.elim (fun h => by omega) (fun h => h hse))]
    rfl
  cases hat with
  | no hno =>
    have hf := bfind_no hM hno
    have hce' : closeE r fs nw = 19 := by rw [hce, hf]
    refine go_Hc ?_
    refine sl_call rfl rfl (by kernel_rfl) rfl (by exact sub_) (close_no (fs := fs) (m := m) (ck := ck) (t := t) (by exact at_) (by exact at_) (by omega) ⟨hn1, hn2⟩ (by rw [hce']; decide)) ?_; rintro _ -
    rw [hce']
    refine go_Hc ?_
    refine sl_alloc rfl rfl rfl ?_; intro g19
    refine go_Hc ?_
    ((refine sq_region (by kernel_rfl) (by kernel_rfl) ?_; (repeat refine rq_Hc ?_); refine sq_end ?_))
    refine go_Hc ?_
    exact hend hM hn (by unfold yE; exact has_) (by unfold yH; exact sub_)
  | @yes j u hj hus =>
    obtain ⟨b, hb, e1, e2, e3, e4, e5⟩ := hM.at hj
    have hf := bfind_yes hM hb
    rw [e1, hus] at hf
    have hbm : b ∈ fs := List.mem_of_getElem? hb
    have hbl := hM.len b hbm
    obtain ⟨hjn, _⟩ := List.getElem?_eq_some_iff.1 hj
    have hnm := win_m hj
    have hj20 : j < n := by omega
    refine sc_form (e := 75) (size := 20) (A := R) (m := n) (c := cR) (xs := rows BK.cells ms) (by exact at_) (by omega) ?_
    rintro gR rfl
    by_cases hfew : b.m < r.mn
    · have hce' : closeE r fs nw = 17 := by rw [hce, hf]; exact if_pos hfew
      refine go_Hc ?_
      refine sl_call rfl rfl (by kernel_rfl) rfl (by exact sub_) (close_no (fs := fs) (m := m) (ck := ck) (t := t) (by exact at_) (by exact at_) (by omega) ⟨hn1, hn2⟩ (by rw [hce']; decide)) ?_; rintro _ -
      rw [hce']
      rw [e3] at hfew
      refine go_Hc ?_
      refine sl_alloc rfl rfl rfl ?_; intro g19
      refine go_Hc ?_
      refine sq_region (by kernel_rfl) (by kernel_rfl) ?_
      repeat refine rq_Hc ?_
      refine wq_pu (pu_ldo (o := j * 20 + 2) (by exact at_) (by omega) rfl (by rw [at1]) rfl hnm) rfl ?_
      repeat refine rq_Hc ?_
      refine sq_end ?_
      refine go_Hc ?_
      ((refine sq_region (by kernel_rfl) (by kernel_rfl) ?_; (repeat refine rq_Hc ?_); refine sq_end ?_))
      refine go_Hc ?_
      exact hend hM hn (by unfold yE; exact has_) (by unfold yH; exact sub_)
    · have hce' : closeE r fs nw = 0 := by rw [hce, hf]; exact if_neg hfew
      refine go_Hc ?_
      refine sl_call rfl rfl (by kernel_rfl) rfl (by exact sub_) (close_at (fs := fs) (m := m) (ck := ck) (t := t) (b := b) (j := j) (by omega) hn1 hce' hb hf (by omega)) ?_
      rintro ⟨A6, c6⟩ -
      dsimp only
      rw [e3] at hfew
      refine go_Hc ?_
      refine sl_alloc rfl rfl rfl ?_; intro g19
      refine go_Hc ?_
      refine sq_region (by kernel_rfl) (by kernel_rfl) ?_
      repeat refine rq_Hc ?_
      refine wq_pu (pu_ldo (o := j * 20 + 2) (by exact at_) (by omega) rfl (by rw [at1]) rfl hnm) rfl ?_
      repeat refine rq_Hc ?_
      refine sq_end ?_
      refine go_Hc ?_
      refine sl_sto2 (i := j * 20 + 19) rfl (at2 _ _ _) (by exact pick_) rfl rfl rfl (by show j * 20 + 19 < n * 20; omega) ?_
      rw [row_shut hj]
      have hj' : (ms.set j u.shut)[j]? = some u.shut := by rw [List.getElem?_set_self hjn]
      have hur : Vw (bS ms :: blk g7 37 t.c :: blk g8 24 r.c :: K) (fun w => Reads w 2 u.A u.l.length (rows eC u.l)) := bs_get .here (List.mem_of_getElem? hj)
      have hMs : MOk t r (ms.set j u.shut) (fs.set j b.shut) := hM.set hb (by unfold BK.core BK.shut; rw [e1, e2, e3, e4]) rfl hbl (hM.els b hbm) (hM.many b hbm)
      rw [e2, e3, e4]
      refine go_Hc ?_
      refine sq_region (by kernel_rfl) (by kernel_rfl) ?_
      repeat refine rq_Hc ?_
      refine wq_pu (pu_ldrs (i := j * 20 + 1) (Vw.of_own (e := 75) (size := 20) (A := some ⟨gR, 0, none⟩) (c := cR) (n := n) (xs := rows BK.cells (ms.set j u.shut)) (by exact at_)) (by omega) (congrArg (fun p => some (Value.pointer (some p))) (addr_add gR (j * 20) 1)) (win_T hj') rfl rfl (by show _ = some u.shut.T.length; unfold BK.T; rw [tc_len]; rfl)) rfl ?_
      refine wq_yes rfl rfl ?_
      refine WQ_call rfl rfl (by kernel_rfl) rfl (same_ok (xs := u.l) (Vw.of_own (e := 65) (A := A6) (c := c6) (by exact at_)) (hur.mono (by exact sub_)) (by rw [← e2]; omega)) ?_
      repeat refine rq_Hc ?_
      refine sq_end ?_
      refine go_Hc ?_
      refine hend (ms' := ms.set j u.shut) (fs' := fs.set j b.shut) (n' := n) (ck' := ck) hMs (by rw [List.length_set]; exact hn) (by unfold yE; exact has_) ?_
      unfold yH
      rw [show bS (ms.set j u.shut) = bS ms from kS_set hj rfl]
      exact sub_
end Go.Proofs.Ytdmeofobljjpfaa
/- BucketPlays: a report more in the law's window. -/
namespace Go.Proofs.Ytdmeofobljjpfaa
open Go.RowKit Go.MapKept
attribute [local irreducible] Go.Calls Go.Exit.then Go.Exit.inBlock Go.bodyPost Go.Code.wp Go.wpList
attribute [local irreducible] hashL ofId
theorem build_w2 (a0 a1 a2 a3 a4 a5 a6 a7 a8 a9 a10 a11 a12 a13 a14 a15 a16 a17 : Value) (s : Int) (W : World) : (Instr.build 75 #[(0, .int .u64 s), (1, .agg #[a0, a1, a2, a3, a4, a5, a6, a7, a8, a9, a10, a11, a12, a13, a14, a15, a16, a17])]).run Try.prog W = .ok (.agg #[.int .u64 s, a0, a1, a2, a3, a4, a5, a6, a7, a8, a9, a10, a11, a12, a13, a14, a15, a16, a17, .bool false]) W := by kernel_rfl
theorem build_win {s : Int} {T : List Value} (hT : T.length = 18) (W : World) : (Instr.build 75 #[(0, .int .u64 s), (1, .agg T.toArray)]).run Try.prog W = .ok (.agg (bkC s T false).toArray) W := by
  obtain ⟨a0, a1, a2, a3, a4, a5, a6, a7, a8, a9, a10, a11, a12, a13, a14, a15, a16, a17, h⟩ := list18b hT
  have h1 := build_w2 a0 a1 a2 a3 a4 a5 a6 a7 a8 a9 a10 a11 a12 a13 a14 a15 a16 a17 s W
  rw [h]
  exact h1
theorem build_w20 (a0 a1 a2 a3 a4 a5 a6 a7 a8 a9 a10 a11 a12 a13 a14 a15 a16 a17 a18 a19 : Value) (W : World) : (Instr.buildSlice 71 1 #[(0, .agg #[a0, a1, a2, a3, a4, a5, a6, a7, a8, a9, a10, a11, a12, a13, a14, a15, a16, a17, a18, a19])]).run Try.prog W = .ok (.slice (some ⟨W.heap.size, 0, none⟩) 1 1) (W.alloc (.cells #[a0, a1, a2, a3, a4, a5, a6, a7, a8, a9, a10, a11, a12, a13, a14, a15, a16, a17, a18, a19] 75)) := by kernel_rfl
theorem build_wn {cs : List Value} (h : cs.length = 20) (W : World) : (Instr.buildSlice 71 1 #[(0, .agg cs.toArray)]).run Try.prog W = .ok (.slice (some ⟨W.heap.size, 0, none⟩) 1 1) (W.alloc (.cells cs.toArray 75)) := by
  obtain ⟨a0, a1, a2, a3, a4, a5, a6, a7, a8, a9, a10, a11, a12, a13, a14, a15, a16, a17, a18, a19, h⟩ := list20 h
  rw [h]
  exact build_w20 a0 a1 a2 a3 a4 a5 a6 a7 a8 a9 a10 a11 a12 a13 a14 a15 a16 a17 a18 a19 W
theorem infoWn : (Try.prog.info? 75).map (fun i => (i.zero, i.size, i.bytes)) = some (some (.agg bzL.toArray), 20, 64) := by kernel_rfl
theorem row_add {ms : List BK} {j : Nat} {u u' : BK} (hj : ms[j]? = some u) (hs : u'.st = u.st) (hc : u'.cl = u.cl) : (rows BK.cells ms).take (j * 20 + 1) ++ u'.T ++ (rows BK.cells ms).drop (j * 20 + 1 + u'.T.length) = rows BK.cells (ms.set j u') := by
  obtain ⟨pre, post, h1, h2, h3⟩ := rows_split BK.len hj
  rw [h3 u', h1]
  have e : u.cells = [Value.int .u64 u.st] ++ u.T ++ [Value.bool u.cl] := rfl
  have e' : u'.cells = [Value.int .u64 u.st] ++ u'.T ++ [Value.bool u.cl] := by show [Value.int .u64 u'.st] ++ u'.T ++ [.bool u'.cl] = _; rw [hs, hc]
  have l1 : u.T.length = 18 := tc_len
  have l2 : u'.T.length = 18 := tc_len
  rw [e, e', l2]
  have t1 : (pre ++ ([Value.int .u64 u.st] ++ u.T ++ [Value.bool u.cl]) ++ post).take (j * 20 + 1) = pre ++ [Value.int .u64 u.st] := by
    rw [show pre ++ ([Value.int .u64 u.st] ++ u.T ++ [Value.bool u.cl]) ++ post = (pre ++ [Value.int .u64 u.st]) ++ (u.T ++ ([Value.bool u.cl] ++ post)) by simp]
    exact List.take_left' (by simp [h2])
  have t2 : (pre ++ ([Value.int .u64 u.st] ++ u.T ++ [Value.bool u.cl]) ++ post).drop (j * 20 + 1 + 18) = [Value.bool u.cl] ++ post := by
    rw [show pre ++ ([Value.int .u64 u.st] ++ u.T ++ [Value.bool u.cl]) ++ post = (pre ++ [Value.int .u64 u.st] ++ u.T) ++ ([Value.bool u.cl] ++ post) by simp]
    exact List.drop_left' (by simp [h2, l1])
  rw [t1, t2]
  simp
theorem bs_set {ms : List BK} {j : Nat} {u u' : BK} {K : List Fa} (hj : ms[j]? = some u) : Ent_ (BM.fa u' :: bS ms :: K) (bS (ms.set j u') :: K) := by
  obtain ⟨X, Y, rfl, hset⟩ := split_bk hj
  rw [hset]
  exact ks_swap (M := BM)
theorem nth_Hd {φ : Prop} (h : φ := by (first | rfl | first | exact bkC_n0 | exact bkC_n1 | exact bkC_n2 | exact bkC_n19' | exact tc_n0 | exact tc_n1 | exact Bc.n0 _ | exact Bc.n1 _ | exact Bc.n18 _ | exact Bc.n19 _ | exact Bc.n20 _ | assumption)) : φ := h
theorem mid_Hd {φ : Prop} (h : φ := by (first | first | exact boC_mt | exact boC_mr | exact bkC_mid | exact Ta.mid _ | exact tc_mid | exact Bc.mid _ | exact bk_mid (by assumption) | exact Mid.all | exact Mid.all | exact Mid.head)) : φ := h
theorem sz_Hd {φ : Prop} (h : φ := by (first | rfl | ((try simp only [bkC_len tc_len, tc_len, BK.len, Bc.len, bytes_length, Id.len]); (first | done | rfl); first | done | fail))) : φ := h
theorem one_Hd {φ : Prop} (h : φ := by (first | assumption | exact first | exact BK.one _ | exact bkC_one tc_one | exact tc_one | exact Bc.one _ | exact Ta.one _ | exact Rl.one _ | exact one_bytes _ | (simp only [List.mem_cons, List.not_mem_nil, or_false, forall_eq_or_imp, forall_eq]; decide) | exact one_bytes _ | (intro v hv; (repeat (rcases List.mem_cons.1 hv with rfl | hv; rfl)); cases hv))) : φ := h
theorem set_Hd {φ : Prop} (h : φ := by (first | (first | exact tc_set0 | exact bkC_set19 tc_len) | ((repeat (first | exact SetAt.here | apply SetAt.there)); first | done | fail))) : φ := h
theorem cl_Hd {φ : Prop} (h : φ := by first | rfl | exact .t | exact .f | exact .t (by omega) | exact .f (by omega) | exact .u | exact .i (by (first | exact .t (by omega) | exact .f (by omega) | exact .u | exact .i (by omega) | exact .v (by omega) | exact .b (by omega) | exact .w | rfl | omega)) | exact .v (by omega) | exact .b (by omega) | exact .q (by omega) | exact .w | exact .b (by exact at_) rfl (by exact nth_Hd) | exact .w (by exact at_) rfl rfl (by exact sz_Hd) | exact .s (by exact at_) (by exact mid_Hd) rfl rfl (by exact sz_Hd) | exact .z rfl rfl ⟨by kernel_rfl⟩ | exact .b rfl rfl ⟨by kernel_rfl⟩ | exact .a rfl rfl ⟨by kernel_rfl⟩ | exact .o rfl | exact .s | exact .n | exact .p rfl | exact .q rfl | exact .c rfl | exact .d rfl | exact .n rfl rfl (by omega) | exact .a rfl rfl (by omega) | exact .p rfl rfl (by omega) (by omega) | exact .y rfl rfl (by omega) (by omega) | exact .o (by exact at_) (by omega) rfl (by exact nth_Hd) | exact .m (by exact at_) (by omega) (by exact mid_Hd) rfl rfl (by exact sz_Hd) | exact .mlen (by exact at_) rfl | exact .t (by exact at_) rfl rfl (by first | exact True.intro | rfl) (by assumption) | exact .f (by exact at_) rfl rfl (by first | exact True.intro | rfl) (by assumption) rfl | exact .t1 (by exact at_) rfl rfl (by first | exact True.intro | rfl) (by assumption) | exact .f1 (by exact at_) rfl rfl (by first | exact True.intro | rfl) (by assumption) rfl | exact .r rfl rfl (by omega) (by omega) (by exact nth_Hd) rfl | exact .s rfl (by omega) (by assumption) | exact at_ | assumption | exact .r rfl rfl | exact .h rfl rfl rfl (by omega) | exact .l rfl rfl rfl (by omega) (by omega) | exact .g rfl rfl rfl rfl (by omega) (by omega) | exact .h rfl rfl (toN_ (by omega)) (by omega) | exact .l rfl rfl (toN_ (by omega)) (by omega) (by omega) | exact .g rfl rfl (toN_ (by omega)) (toN_ (by omega)) (by omega) (by omega) | exact .o (by decide) | exact .f (by decide) | exact .n (by omega) (by first | decide | (show _ ≤ ((64 : Nat) : Int); omega)) | (constructor; (repeat (first | exact .t (by omega) | exact .f (by omega) | exact .u | exact .i (by omega) | exact .v (by omega) | exact .b (by omega) | exact .w | rfl | omega)); first | done | fail) | omega | (show _ ≤ ((64 : Nat) : Int); omega)) : φ := h
theorem pv_Hd {φ : Prop} (h : φ := by constructor; (repeat exact cl_Hd); first | done | fail) : φ := h
theorem su_Hd {φ ψ : Prop} (k : ψ) (h : Hide ψ → φ := by (intro k; (first | refine sl_pu (PuI.sep (by exact pv_Hd)) rfl ?_ | refine sl_yes rfl rfl ?_ | refine sl_no rfl rfl rfl ?_ | refine sl_off rfl rfl rfl ?_ | (fail)); exact k.out)) : φ := h ⟨k⟩
theorem rq_Hd {φ ψ : Prop} (k : ψ) (h : Hide ψ → φ := by (intro k; (first | refine wq_pu (PuI.sep (by exact pv_Hd)) rfl ?_ | refine wq_yes rfl rfl ?_ | refine wq_no rfl rfl rfl ?_ | refine wq_off rfl rfl rfl ?_ | (fail)); exact k.out)) : φ := h ⟨k⟩
theorem sto_Hd {φ ψ : Prop} (k : ψ) (h : Hide ψ → φ := by (intro k; (first | refine sl_store rfl (by exact pick_) rfl rfl (by kernel_rfl) (by exact set_Hd) ?_ | refine sl_store_whole rfl (by exact pick_) rfl (by exact sz_Hd) (by exact sz_Hd) (by exact one_Hd) ?_); exact k.out)) : φ := h ⟨k⟩
theorem go_Hd {φ ψ : Prop} (k : ψ) (h : Hide ψ → φ := by (intro k; (repeat (first | refine su_Hd ?_ | refine so_ ?_ | refine sto_Hd ?_)); exact k.out)) : φ := h ⟨k⟩
set_option maxRecDepth 100000 in
set_option maxHeartbeats 8000000 in
theorem pAdd {K : List Fa} {t : Ta} {g7 n cR g13 g22 oo j : Nat} {gR : Nat} {ms : List BK} {a : Bc} {zs : List Int} {u : BK} {g8 g i na cq : Nat} {QA : Option Addr} (ht : t.err = 0) (hn : ms.length = n) (hj : ms[j]? = some u) (hul : t.out = u.l.length) (hoo : oo = u.l.length) (hum : 0 ≤ u.m ∧ u.m < 256) (hue : Els u.l) (hze : Els zs) (hzl : zs.length = oo) {Q' : Exit → Act → World → Prop} (hN : NoP Q')
    (hend : ∀ {g6 : Nat} {l : Env} {L : List Fa}, Has l (yE g7 g8 g i na cq QA (some ⟨gR, 0, none⟩) n cR) → Sub L (mR (some ⟨gR, 0, none⟩) n cR (ms.set j (u.add t.fl a.id zs g6)) :: bS (ms.set j (u.add t.fl a.id zs g6)) :: blk g7 37 t.c :: K) → SE Q' .normal 342 l L) :
    SC Try.prog (cAt [false, false, false, false, false, true, false, true, true, false, false, true, true, false, false, false, false, false, false, false, true, false, false, false, false, false, false, false, false, false, false, true, false] (fb Try.f6)) Q' 342 ((13, .pointer (some ⟨g13, 0, none⟩)) :: (16, .int .i64 (j : Nat)) :: (22, .slice (some ⟨g22, 0, none⟩) oo oo) :: yE g7 g8 g i na cq QA (some ⟨gR, 0, none⟩) n cR) (eo (some ⟨g22, 0, none⟩) oo oo zs :: blk g13 73 a.C :: mR (some ⟨gR, 0, none⟩) n cR ms :: bS ms :: blk g7 37 t.c :: K) := by
  subst hoo
  unfold yE at hend ⊢
  obtain ⟨hjn, _⟩ := List.getElem?_eq_some_iff.1 hj
  have hjn' : j < n := by omega
  have hol := t.out_le ht
  have hur : Vw (bS ms :: K) (fun w => Reads w 2 u.A u.l.length (rows eC u.l)) := bs_get .here (List.mem_of_getElem? hj)
  have hrow : ∀ {g6 : Nat}, (rows BK.cells ms).take (j * 20 + 1) ++ tc (some ⟨g6, 0, none⟩) u.l.length u.l.length (u.m + 1) (xorI u.k (ofId a.id)) ++ (rows BK.cells ms).drop (j * 20 + 1 + (tc (some ⟨g6, 0, none⟩) u.l.length u.l.length (u.m + 1) (xorI u.k (ofId a.id))).length) = rows BK.cells (ms.set j (u.add t.fl a.id zs g6)) := by
    intro g6
    have h1 := row_add (u' := u.add t.fl a.id zs g6) hj rfl rfl
    have h2 : (u.add t.fl a.id zs g6).T = tc (some ⟨g6, 0, none⟩) u.l.length u.l.length (u.m + 1) (xorI u.k (ofId a.id)) := by
      show tc (some ⟨g6, 0, none⟩) (addV t.fl u.l zs).length u.l.length (u.m + 1) (xorI u.k (ofId a.id)) = _
      rw [addV_len hzl]
    rw [h2] at h1
    exact h1
  refine sd_drawn (fun W => AllP W [blk g13 73 a.C, blk g7 37 t.c]) (fun _ => true) (by kernel_rfl) 18 rfl ?_
  refine sd_yes2 0 rfl (by exact gd_) (by kernel_rfl) (by kernel_rfl) (by (repeat (first | assumption | exact nop_body | refine nop_then ?_ | refine nop_block ?_)); first | done | fail) (PuI.all (by exact pv_Hd)) rfl (fun w hw => all_ hw) ?_
  refine sd_yes2 1 rfl (by exact gd_) (by kernel_rfl) (by kernel_rfl) (by (repeat (first | assumption | exact nop_body | refine nop_then ?_ | refine nop_block ?_)); first | done | fail) (PuI.all (by exact pv_Hd)) rfl (fun w hw => all_ hw) ?_
  refine sd_yes2 2 rfl (by exact gd_) (by kernel_rfl) (by kernel_rfl) (by (repeat (first | assumption | exact nop_body | refine nop_then ?_ | refine nop_block ?_)); first | done | fail) (PuI.all (by exact pv_Hd)) rfl (fun w hw => all_ hw) ?_
  refine sd_yes2 3 rfl (by exact gd_) (by kernel_rfl) (by kernel_rfl) (by (repeat (first | assumption | exact nop_body | refine nop_then ?_ | refine nop_block ?_)); first | done | fail) (PuI.all (by exact pv_Hd)) rfl (fun w hw => all_ hw) ?_
  refine sd_yes2 4 rfl (by exact gd_) (by kernel_rfl) (by kernel_rfl) (by (repeat (first | assumption | exact nop_body | refine nop_then ?_ | refine nop_block ?_)); first | done | fail) (PuI.all (by exact pv_Hd)) rfl (fun w hw => all_ hw) ?_
  refine sd_yes2 5 rfl (by exact gd_) (by kernel_rfl) (by kernel_rfl) (by (repeat (first | assumption | exact nop_body | refine nop_then ?_ | refine nop_block ?_)); first | done | fail) (PuI.all (by exact pv_Hd)) rfl (fun w hw => all_ hw) ?_
  refine sd_yes2 7 rfl (by exact gd_) (by kernel_rfl) (by kernel_rfl) (by (repeat (first | assumption | exact nop_body | refine nop_then ?_ | refine nop_block ?_)); first | done | fail) (PuI.all (by exact pv_Hd)) rfl (fun w hw => all_ hw) ?_
  refine sd_yes2 8 rfl (by exact gd_) (by kernel_rfl) (by kernel_rfl) (by (repeat (first | assumption | exact nop_body | refine nop_then ?_ | refine nop_block ?_)); first | done | fail) (PuI.all (by exact pv_Hd)) rfl (fun w hw => all_ hw) ?_
  refine sd_yes2 9 rfl (by exact gd_) (by kernel_rfl) (by kernel_rfl) (by (repeat (first | assumption | exact nop_body | refine nop_then ?_ | refine nop_block ?_)); first | done | fail) (PuI.all (by exact pv_Hd)) rfl (fun w hw => all_ hw) ?_
  refine sd_yes2 10 rfl (by exact gd_) (by kernel_rfl) (by kernel_rfl) (by (repeat (first | assumption | exact nop_body | refine nop_then ?_ | refine nop_block ?_)); first | done | fail) (PuI.all (by exact pv_Hd)) rfl (fun w hw => all_ hw) ?_
  refine sd_one 6 (by kernel_rfl) (sa_sl 6 rfl ?_)
  refine sl_pu (pu_ldrs (i := j * 20 + 1) (Vw.of_own (e := 75) (size := 20) (A := some ⟨gR, 0, none⟩) (c := cR) (n := n) (xs := rows BK.cells ms) (by exact at_)) (by omega) (congrArg (fun p => some (Value.pointer (some p))) (addr_add gR (j * 20) 1)) (win_T hj) rfl rfl (by show _ = some u.T.length; unfold BK.T; rw [tc_len]; rfl)) rfl ?_
  refine sl_nil ?_
  refine se_sd (fun _ w hw => all_ hw) ?_
  refine sd_one 11 (by kernel_rfl) (sa_sl 11 rfl ?_)
  refine sl_call rfl rfl (by kernel_rfl) rfl (by exact sub_) (tadd_ok (n := u.l.length) (xs := u.l) (ys := zs) ht hum hul (hur.mono (by exact sub_)) (Vw.of_own (e := 65) (A := some ⟨g22, 0, none⟩) (c := u.l.length) (by exact at_)) hue hze) ?_
  rintro g6 -
  refine sl_nil ?_
  refine se_sd (fun _ w hw => all_ hw) ?_
  refine sd_yes2 12 rfl (by exact gd_) (by kernel_rfl) (by kernel_rfl) (by (repeat (first | assumption | exact nop_body | refine nop_then ?_ | refine nop_block ?_)); first | done | fail) (PuI.all (by exact pv_Hd)) rfl (fun w hw => all_ hw) ?_
  refine sd_yes2 13 rfl (by exact gd_) (by kernel_rfl) (by kernel_rfl) (by (repeat (first | assumption | exact nop_body | refine nop_then ?_ | refine nop_block ?_)); first | done | fail) (PuI.all (by exact pv_Hd)) rfl (fun w hw => all_ hw) ?_
  refine sd_yes2 14 rfl (by exact gd_) (by kernel_rfl) (by kernel_rfl) (by (repeat (first | assumption | exact nop_body | refine nop_then ?_ | refine nop_block ?_)); first | done | fail) (PuI.all (by exact pv_Hd)) rfl (fun w hw => all_ hw) ?_
  refine sd_yes2 15 rfl (by exact gd_) (by kernel_rfl) (by kernel_rfl) (by (repeat (first | assumption | exact nop_body | refine nop_then ?_ | refine nop_block ?_)); first | done | fail) (PuI.all (by exact pv_Hd)) rfl (fun w hw => all_ hw) ?_
  refine sd_yes2 16 rfl (by exact gd_) (by kernel_rfl) (by kernel_rfl) (by (repeat (first | assumption | exact nop_body | refine nop_then ?_ | refine nop_block ?_)); first | done | fail) (PuI.all (by exact pv_Hd)) rfl (fun w hw => all_ hw) ?_
  refine sd_one 17 (by kernel_rfl) (sa_sl 17 rfl ?_)
  refine sl_sto_mid (i := j * 20 + 1) (cl := tc (some ⟨g6, 0, none⟩) u.l.length u.l.length (u.m + 1) (xorI u.k (ofId a.id))) (congrArg (fun p => some (Value.pointer (some p))) (at2 gR (j * 20) 1)) (by exact pick_) rfl (by rw [tc_len]; rfl) (by rw [tc_len]; show j * 20 + 1 + 18 ≤ n * 20; omega) tc_one ?_
  rw [hrow]
  refine sl_nil ?_
  refine se_sd (fun _ w hw => all_ hw) ?_
  refine sd_done (by kernel_rfl) ?_
  refine se_subK (L' := BM.fa (u.add t.fl a.id zs g6) :: bS ms :: mR (some ⟨gR, 0, none⟩) n cR (ms.set j (u.add t.fl a.id zs g6)) :: blk g7 37 t.c :: K) (by rw [bfa_eq hzl]; exact sub_) ?_
  refine se_ent (bs_set hj) ?_
  exact hend (g6 := g6) (by exact has_) (by exact sub_)
end Go.Proofs.Ytdmeofobljjpfaa
/- BucketPlays: a call of Add. -/
namespace Go.Proofs.Ytdmeofobljjpfaa
open Go.RowKit Go.MapKept
attribute [local irreducible] Go.Calls Go.Exit.then Go.Exit.inBlock Go.bodyPost Go.Code.wp Go.wpList
attribute [local irreducible] hashL ofId
theorem badd_at {K : List Fa} {g m ck j n : Nat} {t : Ta} {r : Rl} {fs : List BK} {b : BK} {now : Int} {id : Id} {B : Option Addr} {cb : Nat} {ys : List Int} (hb : fs[j]? = some b) (hn : n = b.l.length)
    (hw : 0 ≤ r.w) (h : 0 ≤ now) (ht : t.err = 0) (hf : fitsE r fs now = 0) (hbf : bfind fs (stN r.w now) = some b) (hm : 0 ≤ b.m) (hr : r.mx ≤ 256) (ho : t.out = b.l.length) (ex : Els b.l) (ey : Els ys) (hy : Vw K (fun w => Reads w 2 B n (rows eC ys))) :
    Fn Try.prog 16 #[.pointer (some ⟨g, 0, none⟩), .int .u64 now, id.v, .slice B n cb] (bB g t r m :: bM m fs ck :: bS fs :: K) (Ret (fun _ : Nat => True) (fun _ => .int .i64 0) (fun g5 => bB g t r m :: bM m (fs.set j (b.add t.fl id ys g5)) ck :: bS (fs.set j (b.add t.fl id ys g5)) :: K)) := by
  subst hn
  obtain ⟨X, Y, rfl, hset⟩ := split_bk hb
  have h1 := badd_old (g := g) (m := m) (ck := ck) (cb := cb) (id := id) hw h ht hf hbf hm hr ho ex ey hy
  refine h1.retain fun g5 _ => ?_
  rw [hset]
  exact Ent_.sub Sub.refl
theorem MOk.snoc {t : Ta} {r : Rl} {ms fs : List BK} (h : MOk t r ms fs) {u b : BK} (hc : u.core = b.core) (hk : ∀ x ∈ fs, x.st ≠ b.st) (hl : b.l.length = t.out.toNat) (he : Els b.l) (hm : 0 ≤ b.m ∧ b.m ≤ r.mx) (h32 : fs.length ≠ 32) : MOk t r (ms ++ [u]) (fs ++ [b]) := by
  have hmem : ∀ x ∈ fs ++ [b], x ∈ fs ∨ x = b := fun x hx => by simpa using hx
  have := h.most
  refine ⟨?_, ?_, fun x hx => ?_, fun x hx => ?_, fun x hx => ?_, ?_⟩
  · rw [List.map_append, List.map_append, h.core]
    simp [hc]
  · rw [List.pairwise_append]
    refine ⟨h.keys, List.pairwise_singleton _ _, fun x hx y hy => ?_⟩
    rw [List.mem_singleton] at hy
    subst hy
    exact hk x hx
  · rcases hmem x hx with hx | rfl
    · exact h.len x hx
    · exact hl
  · rcases hmem x hx with hx | rfl
    · exact h.els x hx
    · exact he
  · rcases hmem x hx with hx | rfl
    · exact h.many x hx
    · exact hm
  · rw [List.length_append, List.length_singleton]
    omega
theorem set_end {ms : List BK} {u v : BK} {n : Nat} (h : ms.length = n) : (ms ++ [u]).set n v = ms ++ [v] := by
  subst h
  rw [List.set_append_right _ _ (Nat.le_refl _), Nat.sub_self]
  rfl
theorem get_end {ms : List BK} {u : BK} {n : Nat} (h : ms.length = n) : (ms ++ [u])[n]? = some u := by
  subst h
  simp
theorem addV_els' {f : Int} {xs ys : List Int} : Els (addV f xs ys) := addV_els f xs ys
theorem nth_He {φ : Prop} (h : φ := by (first | rfl | first | exact bkC_n0 | exact bkC_n1 | exact bkC_n2 | exact bkC_n19' | exact tc_n0 | exact tc_n1 | exact Bc.n0 _ | exact Bc.n1 _ | exact Bc.n18 _ | exact Bc.n19 _ | exact Bc.n20 _ | assumption)) : φ := h
theorem mid_He {φ : Prop} (h : φ := by (first | first | exact boC_mt | exact boC_mr | exact bkC_mid | exact Ta.mid _ | exact tc_mid | exact Bc.mid _ | exact bk_mid (by assumption) | exact Mid.all | exact Mid.all | exact Mid.head)) : φ := h
theorem sz_He {φ : Prop} (h : φ := by (first | rfl | ((try simp only [bkC_len tc_len, tc_len, BK.len, Bc.len, bytes_length, Id.len]); (first | done | rfl); first | done | fail))) : φ := h
theorem one_He {φ : Prop} (h : φ := by (first | assumption | exact first | exact BK.one _ | exact bkC_one tc_one | exact tc_one | exact Bc.one _ | exact Ta.one _ | exact Rl.one _ | exact one_bytes _ | (simp only [List.mem_cons, List.not_mem_nil, or_false, forall_eq_or_imp, forall_eq]; decide) | exact one_bytes _ | (intro v hv; (repeat (rcases List.mem_cons.1 hv with rfl | hv; rfl)); cases hv))) : φ := h
theorem set_He {φ : Prop} (h : φ := by (first | (first | exact tc_set0 | exact bkC_set19 tc_len) | ((repeat (first | exact SetAt.here | apply SetAt.there)); first | done | fail))) : φ := h
theorem cl_He {φ : Prop} (h : φ := by first | rfl | exact .t | exact .f | exact .t (by omega) | exact .f (by omega) | exact .u | exact .i (by (first | exact .t (by omega) | exact .f (by omega) | exact .u | exact .i (by omega) | exact .v (by omega) | exact .b (by omega) | exact .w | rfl | omega)) | exact .v (by omega) | exact .b (by omega) | exact .q (by omega) | exact .w | exact .b (by exact at_) rfl (by exact nth_He) | exact .w (by exact at_) rfl rfl (by exact sz_He) | exact .s (by exact at_) (by exact mid_He) rfl rfl (by exact sz_He) | exact .z rfl rfl ⟨by kernel_rfl⟩ | exact .b rfl rfl ⟨by kernel_rfl⟩ | exact .a rfl rfl ⟨by kernel_rfl⟩ | exact .o rfl | exact .s | exact .n | exact .p rfl | exact .q rfl | exact .c rfl | exact .d rfl | exact .n rfl rfl (by omega) | exact .a rfl rfl (by omega) | exact .p rfl rfl (by omega) (by omega) | exact .y rfl rfl (by omega) (by omega) | exact .o (by exact at_) (by omega) rfl (by exact nth_He) | exact .m (by exact at_) (by omega) (by exact mid_He) rfl rfl (by exact sz_He) | exact .mlen (by exact at_) rfl | exact .t (by exact at_) rfl rfl (by first | exact True.intro | rfl) (by assumption) | exact .f (by exact at_) rfl rfl (by first | exact True.intro | rfl) (by assumption) rfl | exact .t1 (by exact at_) rfl rfl (by first | exact True.intro | rfl) (by assumption) | exact .f1 (by exact at_) rfl rfl (by first | exact True.intro | rfl) (by assumption) rfl | exact .r rfl rfl (by omega) (by omega) (by exact nth_He) rfl | exact .s rfl (by omega) (by assumption) | exact at_ | assumption | exact .r rfl rfl | exact .h rfl rfl rfl (by omega) | exact .l rfl rfl rfl (by omega) (by omega) | exact .g rfl rfl rfl rfl (by omega) (by omega) | exact .h rfl rfl (toN_ (by omega)) (by omega) | exact .l rfl rfl (toN_ (by omega)) (by omega) (by omega) | exact .g rfl rfl (toN_ (by omega)) (toN_ (by omega)) (by omega) (by omega) | exact .o (by decide) | exact .f (by decide) | exact .n (by omega) (by first | decide | (show _ ≤ ((64 : Nat) : Int); omega)) | (constructor; (repeat (first | exact .t (by omega) | exact .f (by omega) | exact .u | exact .i (by omega) | exact .v (by omega) | exact .b (by omega) | exact .w | rfl | omega)); first | done | fail) | omega | (show _ ≤ ((64 : Nat) : Int); omega)) : φ := h
theorem pv_He {φ : Prop} (h : φ := by constructor; (repeat exact cl_He); first | done | fail) : φ := h
theorem su_He {φ ψ : Prop} (k : ψ) (h : Hide ψ → φ := by (intro k; (first | refine sl_pu (PuI.sep (by exact pv_He)) rfl ?_ | refine sl_yes rfl rfl ?_ | refine sl_no rfl rfl rfl ?_ | refine sl_off rfl rfl rfl ?_ | (fail)); exact k.out)) : φ := h ⟨k⟩
theorem rq_He {φ ψ : Prop} (k : ψ) (h : Hide ψ → φ := by (intro k; (first | refine wq_pu (PuI.sep (by exact pv_He)) rfl ?_ | refine wq_yes rfl rfl ?_ | refine wq_no rfl rfl rfl ?_ | refine wq_off rfl rfl rfl ?_ | (fail)); exact k.out)) : φ := h ⟨k⟩
theorem sto_He {φ ψ : Prop} (k : ψ) (h : Hide ψ → φ := by (intro k; (first | refine sl_store rfl (by exact pick_) rfl rfl (by kernel_rfl) (by exact set_He) ?_ | refine sl_store_whole rfl (by exact pick_) rfl (by exact sz_He) (by exact sz_He) (by exact one_He) ?_); exact k.out)) : φ := h ⟨k⟩
theorem go_He {φ ψ : Prop} (k : ψ) (h : Hide ψ → φ := by (intro k; (repeat (first | refine su_He ?_ | refine so_ ?_ | refine sto_He ?_)); exact k.out)) : φ := h ⟨k⟩
set_option maxRecDepth 100000 in
set_option maxHeartbeats 8000000 in
theorem pC2 {K : List Fa} {t : Ta} {r : Rl} {g7 g8 g m ck i na cq n cR g13 g22 oo : Nat} {QA R : Option Addr} {ms fs : List BK} {a : Bc} {now at' : Int} {zs : List Int} (ht : t.err = 0) (hw : 0 < r.w) (hmx : r.mx ≤ 256) (hM : MOk t r ms fs) (hn : ms.length = n) (hnow : 0 ≤ now ∧ now ≤ 18446744073709551615) (hat : AtI ms (stN r.w now) at') (hoo : t.out = oo) (hze : Els zs) (hzl : zs.length = oo) {Q' : Exit → Act → World → Prop} (hN : NoP Q')
    (hend : ∀ {R' : Option Addr} {n' cR' ck' : Nat} {ms' fs' : List BK} {l : Env} {L : List Fa}, MOk t r ms' fs' → ms'.length = n' → Has l (yE g7 g8 g i na cq QA R' n' cR') → Sub L (yH t r g7 g8 g m ck' R' n' cR' ms' fs' K) → SE Q' .normal 342 l L)
    (hexit : ∀ {R' : Option Addr} {n' cR' ck' : Nat} {ms' fs' : List BK} {l : Env} {L : List Fa}, MOk t r ms' fs' → ms'.length = n' → Has l (yE g7 g8 g i na cq QA R' n' cR') → Sub L (yH t r g7 g8 g m ck' R' n' cR' ms' fs' K) → SE Q' (.exit 1) 342 l L) :
    SC Try.prog (cAt [false, false, false, false, false, true, false, true, true, false, false, true, true, false, false, false, false, false, false, false, true, false, false, false, false, false, false] (fb Try.f6)) Q' 342 ((22, .slice (some ⟨g22, 0, none⟩) oo oo) :: (24, .int .i64 (fitsE r fs now)) :: xE g13 now (stN r.w now) at' (yE g7 g8 g i na cq QA R n cR)) (eo (some ⟨g22, 0, none⟩) oo oo zs :: blk g13 73 a.C :: yH t r g7 g8 g m ck R n cR ms fs K) := by
  have hll := hM.ll
  have h32 := hM.most
  have hol := t.out_le ht
  obtain ⟨kd, tm, id, oA, oc, o, raw, wr⟩ := a
  unfold xE yE yH
  have hzr : Vw (eo (some ⟨g22, 0, none⟩) oo oo zs :: K) (fun w => Reads w 2 (some ⟨g22, 0, none⟩) oo (rows eC zs)) := Vw.of_own (e := 65) .here
  by_cases hf : fitsE r fs now = 0
  case neg =>
    refine go_He ?_
    refine sl_call rfl rfl (by kernel_rfl) rfl (by exact sub_) (fits_ok (g := g) (m := m) (ck := ck) (t := t) (r := r) (fs := fs) (by exact at_) (by exact at_) (by omega) hnow) ?_; rintro _ -
    refine go_He ?_
    refine sl_call rfl rfl (by kernel_rfl) rfl (by exact sub_) (badd_no (g := g) (m := m) (ck := ck) (t := t) (r := r) (fs := fs) (by exact at_) (by exact at_) (by omega) hnow hf) ?_; rintro _ -
    refine go_He ?_
    exact hend hM hn (by unfold yE; exact has_) (by unfold yH; exact sub_)
  rw [hf]
  cases wr with
  | true =>
    refine go_He ?_
    refine sl_call rfl rfl (by kernel_rfl) rfl (by exact sub_) (fits_ok (g := g) (m := m) (ck := ck) (t := t) (r := r) (fs := fs) (by exact at_) (by exact at_) (by omega) hnow) ?_; rintro _ -
    rw [hf]
    refine go_He ?_
    refine sd_drawn (fun W => AllP W [blk g13 73 (Bc.C ⟨kd, tm, id, oA, oc, o, raw, true⟩)]) (fun _ => true) (by kernel_rfl) 10 rfl ?_
    refine sd_yes2 0 rfl (by exact gd_) (by kernel_rfl) (by kernel_rfl) (by (repeat (first | assumption | exact nop_body | refine nop_then ?_ | refine nop_block ?_)); first | done | fail) (PuI.all (by exact pv_He)) rfl (fun w hw => all_ hw) ?_
    refine sd_yes2 1 rfl (by exact gd_) (by kernel_rfl) (by kernel_rfl) (by (repeat (first | assumption | exact nop_body | refine nop_then ?_ | refine nop_block ?_)); first | done | fail) (PuI.all (by exact pv_He)) rfl (fun w hw => all_ hw) ?_
    refine sd_yes2 2 rfl (by exact gd_) (by kernel_rfl) (by kernel_rfl) (by (repeat (first | assumption | exact nop_body | refine nop_then ?_ | refine nop_block ?_)); first | done | fail) (PuI.all (by exact pv_He)) rfl (fun w hw => all_ hw) ?_
    refine sd_yes2 3 rfl (by exact gd_) (by kernel_rfl) (by kernel_rfl) (by (repeat (first | assumption | exact nop_body | refine nop_then ?_ | refine nop_block ?_)); first | done | fail) (PuI.all (by exact pv_He)) rfl (fun w hw => all_ hw) ?_
    refine sd_yes2 4 rfl (by exact gd_) (by kernel_rfl) (by kernel_rfl) (by (repeat (first | assumption | exact nop_body | refine nop_then ?_ | refine nop_block ?_)); first | done | fail) (PuI.all (by exact pv_He)) rfl (fun w hw => all_ hw) ?_
    refine sd_yes2 5 rfl (by exact gd_) (by kernel_rfl) (by kernel_rfl) (by (repeat (first | assumption | exact nop_body | refine nop_then ?_ | refine nop_block ?_)); first | done | fail) (pu_build (v := .agg (eC 0).toArray) rfl (fun W => by kernel_rfl)) rfl (fun w hw => all_ hw) ?_
    refine sd_one 6 (by kernel_rfl) (sa_sl 6 rfl ?_)
    refine sl_build (size := 2) (e := 65) (cells := rows eC [0]) rfl (fun W => by kernel_rfl) rfl (by decide) rfl ?_
    intro gb
    refine sl_nil ?_
    refine se_sd (fun _ w hw => all_ hw) ?_
    refine sd_one 7 (by kernel_rfl) (sa_sl 7 rfl ?_)
    refine sl_app rfl (by exact pick_) rfl (Vw.of_own (e := 65) (A := some ⟨gb, 0, none⟩) (c := 1) (by exact at_)) (eCs_one _) rfl infoE (by decide) (by decide) rfl (by unfold maxLen; omega) (by omega) ?_
    intro A2 c2
    refine sl_nil ?_
    refine se_sd (fun _ w hw => all_ hw) ?_
    refine sd_one 8 (by kernel_rfl) (sa_sl 8 rfl ?_)
    refine sl_call rfl rfl (by kernel_rfl) rfl (by exact sub_) (badd_size (g := g) (m := m) (ck := ck) (t := t) (r := r) (fs := fs) (by exact at_) (by exact at_) (by omega) hnow.1 ht hf (fun b hb => (hM.many b hb).1) hmx (by rw [hoo]; omega)) ?_
    rintro _ -
    refine sl_nil ?_
    refine se_sd (fun _ w hw => all_ hw) ?_
    refine sd_yes2 9 rfl (by exact gd_) (by kernel_rfl) (by kernel_rfl) (by (repeat (first | assumption | exact nop_body | refine nop_then ?_ | refine nop_block ?_)); first | done | fail) (PuI.all (by exact pv_He)) rfl (fun w hw => all_ hw) ?_
    refine sd_done (by kernel_rfl) ?_
    refine go_He ?_
    exact hexit hM hn (by unfold yE; exact has_) (by unfold yH; exact sub_)
  | false =>
    cases hat with
    | no hno =>
      have hbf := bfind_no hM hno
      obtain ⟨hn1, hn2, hn3⟩ := fits_none hf hbf
      subst hzl
      refine go_He ?_
      refine sl_call rfl rfl (by kernel_rfl) rfl (by exact sub_) (fits_ok (g := g) (m := m) (ck := ck) (t := t) (r := r) (fs := fs) (by exact at_) (by exact at_) (by omega) hnow) ?_; rintro _ -
      rw [hf]
      refine go_He ?_
      refine sl_call rfl rfl (by kernel_rfl) rfl (by exact sub_) (badd_new (ck := ck) (id := id) (n := zs.length) (ys := zs) (fs := fs) (r := r) (t := t) (by omega) hnow.1 ht hf hbf hoo hze (Vw.of_own (e := 65) (A := some ⟨g22, 0, none⟩) (c := zs.length) (by exact at_))) ?_
      rintro g5 -
      refine go_He ?_
      refine sl_call rfl rfl (by kernel_rfl) rfl (by exact sub_) (tnew_ok ht) ?_; rintro g3 -
      rw [hoo, Int.toNat_natCast]
      refine sl_pu (pu_build (v := .agg (bkC (stN r.w now) (tc (some ⟨g3, 0, none⟩) zs.length zs.length 0 zId) false).toArray) rfl (build_win tc_len)) rfl ?_
      refine sl_build (size := 20) (e := 75) (cells := bkC (stN r.w now) (tc (some ⟨g3, 0, none⟩) zs.length zs.length 0 zId) false) rfl (build_wn (bkC_len tc_len)) (by rw [bkC_len tc_len]) (by decide) rfl ?_
      intro gb
      refine sl_app rfl (by exact pick_) rfl (Vw.of_own (A := some ⟨gb, 0, none⟩) (c := 1) (e := 75) (by exact at_)) (bkC_one tc_one) rfl infoWn (by decide) (by decide) rfl (by unfold maxLen; omega) (by omega) ?_
      intro A2 c2
      obtain ⟨u0, hu0⟩ : ∃ u : BK, (⟨stN r.w now, some ⟨g3, 0, none⟩, zs.length, List.replicate zs.length 0, 0, zId, false, 0⟩ : BK) = u := ⟨_, rfl⟩
      have hu0l : u0.l = List.replicate zs.length 0 := by rw [← hu0]
      have hu0c : bkC (stN r.w now) (tc (some ⟨g3, 0, none⟩) zs.length zs.length 0 zId) false = u0.cells := by
        rw [← hu0]
        show _ = bkC _ (tc _ (List.replicate zs.length (0 : Int)).length _ _ _) _
        rw [List.length_replicate]
      have hu0f : BM.fa u0 = eo (some ⟨g3, 0, none⟩) zs.length zs.length (List.replicate zs.length 0) := by
        rw [← hu0]
        show eo _ (List.replicate zs.length (0 : Int)).length _ _ = _
        rw [List.length_replicate]
      have hrow : rows BK.cells ms ++ bkC (stN r.w now) (tc (some ⟨g3, 0, none⟩) zs.length zs.length 0 zId) false = rows BK.cells (ms ++ [u0]) := by
        rw [hu0c, rows_app, rows_one]
      rw [hrow]
      refine go_He ?_
      refine sc_form (e := 75) (size := 20) (A := A2) (m := n + 1) (c := c2) (xs := rows BK.cells (ms ++ [u0])) (by exact at_) (by omega) ?_
      rintro gR rfl
      rw [show ((n + 1 : Nat) : Int) - 1 = (n : Nat) by omega]
      have hgj : (ms ++ [u0])[n]? = some u0 := get_end hn
      have hrl : (List.replicate zs.length (0 : Int)).length = zs.length := List.length_replicate
      refine sc_env ((13, .pointer (some ⟨g13, 0, none⟩)) :: (16, .int .i64 (n : Nat)) :: (22, .slice (some ⟨g22, 0, none⟩) zs.length zs.length) :: yE g7 g8 g i na cq QA (some ⟨gR, 0, none⟩) (n + 1) c2) (by unfold yE; exact has_) ?_
      refine sc_sub (L' := BM.fa u0 :: bS ms :: eo (some ⟨g22, 0, none⟩) zs.length zs.length zs :: blk g13 73 (Bc.C ⟨kd, tm, id, oA, oc, o, raw, false⟩) :: mR (some ⟨gR, 0, none⟩) (n + 1) c2 (ms ++ [u0]) :: blk g7 37 t.c :: bB g t r m :: bM m (fs ++ [bfst (stN r.w now) t id zs g5 ck]) (ck + 1) :: bS (fs ++ [bfst (stN r.w now) t id zs g5 ck]) :: blk g8 24 r.c :: K) (by rw [hu0f]; exact sub_) ?_
      refine sc_ent (ks_new (M := BM)) ?_
      refine sc_sub (L' := eo (some ⟨g22, 0, none⟩) zs.length zs.length zs :: blk g13 73 (Bc.C ⟨kd, tm, id, oA, oc, o, raw, false⟩) :: mR (some ⟨gR, 0, none⟩) (n + 1) c2 (ms ++ [u0]) :: bS (ms ++ [u0]) :: blk g7 37 t.c :: bB g t r m :: bM m (fs ++ [bfst (stN r.w now) t id zs g5 ck]) (ck + 1) :: bS (fs ++ [bfst (stN r.w now) t id zs g5 ck]) :: blk g8 24 r.c :: K) (by exact sub_) ?_
      refine pAdd (u := u0) (a := ⟨kd, tm, id, oA, oc, o, raw, false⟩) ht (by rw [List.length_append, hn]; rfl) hgj (by rw [hu0l, hrl]; exact hoo) (by rw [hu0l, hrl]) (by rw [← hu0]; exact ⟨Int.le_refl 0, by show (0 : Int) < 256; decide⟩) (by rw [hu0l]; exact els_rep _) hze rfl hN ?_
      intro g6 l L hl hL
      rw [set_end hn] at hL
      refine se_subK hL ?_
      refine hend (ck' := ck + 1) (ms' := ms ++ [u0.add t.fl id zs g6]) (fs' := fs ++ [bfst (stN r.w now) t id zs g5 ck]) (MOk.snoc hM ?_ ?_ ?_ ?_ ?_ hn2) (by rw [List.length_append, hn]; rfl) hl (by unfold yH; exact sub_)
      · rw [← hu0]; rfl
      · intro x hx
        exact fun e => bfind_none hbf x hx e
      · show (addV t.fl (List.replicate zs.length 0) zs).length = _
        rw [addV_len hrl.symm, hrl, hoo, Int.toNat_natCast]
      · exact addV_els _ _ _
      · exact ⟨by show (0 : Int) ≤ 1; decide, by show (1 : Int) ≤ r.mx; omega⟩
    | @yes j u hj hus =>
      obtain ⟨b, hb, e1, e2, e3, e4, e5⟩ := hM.at hj
      have hbs : b.st = stN r.w now := e1.trans hus
      have hbf : bfind fs (stN r.w now) = some b := by rw [← hbs]; exact bfind_yes hM hb
      obtain ⟨hn1, hn2, hn3⟩ := fits_some hf hbf
      have hbm : b ∈ fs := List.mem_of_getElem? hb
      have hbl := hM.len b hbm
      have hbM := hM.many b hbm
      have hbE := hM.els b hbm
      have hob : t.out = b.l.length := by omega
      have hlo : oo = b.l.length := by omega
      subst hlo
      obtain ⟨hjl, _⟩ := List.getElem?_eq_some_iff.1 hj
      refine sc_form (e := 75) (size := 20) (A := R) (m := n) (c := cR) (xs := rows BK.cells ms) (by exact at_) (by omega) ?_
      rintro gR rfl
      have hj0 : ¬ (j : Int) < 0 := by omega
      refine go_He ?_
      refine sl_call rfl rfl (by kernel_rfl) rfl (by exact sub_) (fits_ok (g := g) (m := m) (ck := ck) (t := t) (r := r) (fs := fs) (by exact at_) (by exact at_) (by omega) hnow) ?_; rintro _ -
      rw [hf]
      refine go_He ?_
      refine sl_call rfl rfl (by kernel_rfl) rfl (by exact sub_) (badd_at (ck := ck) (id := id) (n := b.l.length) (ys := zs) (fs := fs) (r := r) (t := t) (b := b) (j := j) hb rfl (by omega) hnow.1 ht hf hbf hbM.1 hmx hob hbE hze (Vw.of_own (e := 65) (A := some ⟨g22, 0, none⟩) (c := b.l.length) (by exact at_))) ?_
      rintro g5 -
      refine go_He ?_
      refine sc_env ((13, .pointer (some ⟨g13, 0, none⟩)) :: (16, .int .i64 (j : Nat)) :: (22, .slice (some ⟨g22, 0, none⟩) b.l.length b.l.length) :: yE g7 g8 g i na cq QA (some ⟨gR, 0, none⟩) n cR) (by unfold yE; exact has_) ?_
      refine sc_sub (L' := eo (some ⟨g22, 0, none⟩) b.l.length b.l.length zs :: blk g13 73 (Bc.C ⟨kd, tm, id, oA, oc, o, raw, false⟩) :: mR (some ⟨gR, 0, none⟩) n cR ms :: bS ms :: blk g7 37 t.c :: bB g t r m :: bM m (fs.set j (b.add t.fl id zs g5)) ck :: bS (fs.set j (b.add t.fl id zs g5)) :: blk g8 24 r.c :: K) (by exact sub_) ?_
      have hul : u.l.length = b.l.length := by rw [e2]
      refine pAdd (u := u) (a := ⟨kd, tm, id, oA, oc, o, raw, false⟩) ht hn hj (by rw [hul]; exact hob) (by rw [hul]) (by omega) (by rw [← e2]; exact hbE) hze hzl hN ?_
      intro g6 l L hl hL
      refine se_subK hL ?_
      refine hend (ck' := ck) (ms' := ms.set j (u.add t.fl id zs g6)) (fs' := fs.set j (b.add t.fl id zs g5)) (MOk.set hM hb ?_ rfl ?_ ?_ ?_) (by rw [List.length_set]; exact hn) hl (by unfold yH; exact sub_)
      · show ((u.add t.fl id zs g6).core : _) = (b.add t.fl id zs g5).core
        unfold BK.core BK.add
        simp [e1, e2, e3, e4, e5]
      · show (addV t.fl b.l zs).length = _
        rw [addV_len hzl, hbl]
      · exact addV_els _ _ _
      · exact ⟨by show (0 : Int) ≤ b.m + 1; omega, by show b.m + 1 ≤ r.mx; omega⟩
end Go.Proofs.Ytdmeofobljjpfaa
/- BucketPlays: what a call of Add is to answer. -/
namespace Go.Proofs.Ytdmeofobljjpfaa
open Go.RowKit Go.MapKept
attribute [local irreducible] Go.Calls Go.Exit.then Go.Exit.inBlock Go.bodyPost Go.Code.wp Go.wpList
attribute [local irreducible] hashL ofId
theorem nth_Hf {φ : Prop} (h : φ := by (first | rfl | first | assumption | exact bkC_n0 | exact bkC_n1 | exact bkC_n2 | exact bkC_n19' | exact tc_n0 | exact tc_n1 | exact Bc.n0 _ | exact Bc.n1 _ | exact Bc.n18 _ | exact Bc.n19 _ | exact Bc.n20 _)) : φ := h
theorem mid_Hf {φ : Prop} (h : φ := by (first | first | exact boC_mt | exact boC_mr | exact bkC_mid | exact Ta.mid _ | exact tc_mid | exact Bc.mid _ | exact bk_mid (by assumption) | exact Mid.all | exact Mid.all | exact Mid.head)) : φ := h
theorem sz_Hf {φ : Prop} (h : φ := by (first | rfl | ((try simp only [bkC_len tc_len, tc_len, BK.len, Bc.len, bytes_length, Id.len]); (first | done | rfl); first | done | fail))) : φ := h
theorem one_Hf {φ : Prop} (h : φ := by (first | assumption | exact first | exact eC_one _ | exact BK.one _ | exact bkC_one tc_one | exact tc_one | exact Bc.one _ | exact Ta.one _ | exact Rl.one _ | exact one_bytes _ | (simp only [List.mem_cons, List.not_mem_nil, or_false, forall_eq_or_imp, forall_eq]; decide) | exact one_bytes _ | (intro v hv; (repeat (rcases List.mem_cons.1 hv with rfl | hv; rfl)); cases hv))) : φ := h
theorem set_Hf {φ : Prop} (h : φ := by (first | (first | exact tc_set0 | exact bkC_set19 tc_len) | ((repeat (first | exact SetAt.here | apply SetAt.there)); first | done | fail))) : φ := h
theorem cl_Hf {φ : Prop} (h : φ := by first | rfl | exact .t | exact .f | exact .t (by omega) | exact .f (by omega) | exact .u | exact .i (by (first | exact .t (by omega) | exact .f (by omega) | exact .u | exact .i (by omega) | exact .v (by omega) | exact .b (by omega) | exact .w | rfl | omega)) | exact .v (by omega) | exact .b (by omega) | exact .q (by omega) | exact .w | exact .b (by exact at_) rfl (by exact nth_Hf) | exact .w (by exact at_) rfl rfl (by exact sz_Hf) | exact .s (by exact at_) (by exact mid_Hf) rfl rfl (by exact sz_Hf) | exact .z rfl rfl ⟨by kernel_rfl⟩ | exact .b rfl rfl ⟨by kernel_rfl⟩ | exact .a rfl rfl ⟨by kernel_rfl⟩ | exact .o rfl | exact .s | exact .n | exact .p rfl | exact .q rfl | exact .c rfl | exact .d rfl | exact .n rfl rfl (by omega) | exact .a rfl rfl (by omega) | exact .p rfl rfl (by omega) (by omega) | exact .y rfl rfl (by omega) (by omega) | exact .o (by exact at_) (by omega) rfl (by exact nth_Hf) | exact .m (by exact at_) (by omega) (by exact mid_Hf) rfl rfl (by exact sz_Hf) | exact .mlen (by exact at_) rfl | exact .t (by exact at_) rfl rfl (by first | exact True.intro | rfl) (by assumption) | exact .f (by exact at_) rfl rfl (by first | exact True.intro | rfl) (by assumption) rfl | exact .t1 (by exact at_) rfl rfl (by first | exact True.intro | rfl) (by assumption) | exact .f1 (by exact at_) rfl rfl (by first | exact True.intro | rfl) (by assumption) rfl | exact .r rfl rfl (by omega) (by omega) (by exact nth_Hf) rfl | exact .s rfl (by omega) (by assumption) | exact at_ | assumption | exact .r rfl rfl | exact .h rfl rfl rfl (by omega) | exact .l rfl rfl rfl (by omega) (by omega) | exact .g rfl rfl rfl rfl (by omega) (by omega) | exact .h rfl rfl (toN_ (by omega)) (by omega) | exact .l rfl rfl (toN_ (by omega)) (by omega) (by omega) | exact .g rfl rfl (toN_ (by omega)) (toN_ (by omega)) (by omega) (by omega) | exact .o (by decide) | exact .f (by decide) | exact .n (by omega) (by first | decide | (show _ ≤ ((64 : Nat) : Int); omega)) | (constructor; (repeat (first | exact .t (by omega) | exact .f (by omega) | exact .u | exact .i (by omega) | exact .v (by omega) | exact .b (by omega) | exact .w | rfl | omega)); first | done | fail) | omega | (show _ ≤ ((64 : Nat) : Int); omega)) : φ := h
theorem pv_Hf {φ : Prop} (h : φ := by constructor; (repeat exact cl_Hf); first | done | fail) : φ := h
theorem su_Hf {φ ψ : Prop} (k : ψ) (h : Hide ψ → φ := by (intro k; (first | refine sl_pu (PuI.sep (by exact pv_Hf)) rfl ?_ | refine sl_yes rfl rfl ?_ | refine sl_no rfl rfl rfl ?_ | refine sl_off rfl rfl rfl ?_ | (fail)); exact k.out)) : φ := h ⟨k⟩
theorem rq_Hf {φ ψ : Prop} (k : ψ) (h : Hide ψ → φ := by (intro k; (first | refine wq_pu (PuI.sep (by exact pv_Hf)) rfl ?_ | refine wq_yes rfl rfl ?_ | refine wq_no rfl rfl rfl ?_ | refine wq_off rfl rfl rfl ?_ | (fail)); exact k.out)) : φ := h ⟨k⟩
theorem sto_Hf {φ ψ : Prop} (k : ψ) (h : Hide ψ → φ := by (intro k; (first | refine sl_store rfl (by exact pick_) rfl rfl (by kernel_rfl) (by exact set_Hf) ?_ | refine sl_store_whole rfl (by exact pick_) rfl (by exact sz_Hf) (by exact sz_Hf) (by exact one_Hf) ?_); exact k.out)) : φ := h ⟨k⟩
theorem go_Hf {φ ψ : Prop} (k : ψ) (h : Hide ψ → φ := by (intro k; (repeat (first | refine su_Hf ?_ | refine so_ ?_ | refine sto_Hf ?_)); exact k.out)) : φ := h ⟨k⟩
set_option maxRecDepth 100000 in
set_option maxHeartbeats 8000000 in
theorem pC1 {K : List Fa} {t : Ta} {r : Rl} {g7 g8 g m ck i na cq n cR g13 : Nat} {QA R : Option Addr} {ms fs : List BK} {a : Bc} {now at' : Int} (ht : t.err = 0) (hw : 0 < r.w) (hmx : r.mx ≤ 256) (hmn : 0 < r.mx) (hM : MOk t r ms fs) (hn : ms.length = n) (hnow : 0 ≤ now ∧ now ≤ 18446744073709551615) (hat : AtI ms (stN r.w now) at') (hov : Vw K (fun w => Reads w 2 a.A a.o.length (rows eC a.o))) (hoe : Els a.o) (hob : a.o.length ≤ 1000000) {Q' : Exit → Act → World → Prop} (hN : NoP Q')
    (hend : ∀ {R' : Option Addr} {n' cR' ck' : Nat} {ms' fs' : List BK} {l : Env} {L : List Fa}, MOk t r ms' fs' → ms'.length = n' → Has l (yE g7 g8 g i na cq QA R' n' cR') → Sub L (yH t r g7 g8 g m ck' R' n' cR' ms' fs' K) → SE Q' .normal 342 l L)
    (hexit : ∀ {R' : Option Addr} {n' cR' ck' : Nat} {ms' fs' : List BK} {l : Env} {L : List Fa}, MOk t r ms' fs' → ms'.length = n' → Has l (yE g7 g8 g i na cq QA R' n' cR') → Sub L (yH t r g7 g8 g m ck' R' n' cR' ms' fs' K) → SE Q' (.exit 1) 342 l L) :
    SC Try.prog (cAt [false, false, false, false, false, true, false, true, true, false, false, true, true, false, false, false, false, false, false, false, true, false, false] (fb Try.f6)) Q' 342 (xE g13 now (stN r.w now) at' (yE g7 g8 g i na cq QA R n cR)) (blk g13 73 a.C :: yH t r g7 g8 g m ck R n cR ms fs K) := by
  have hll := hM.ll
  have h32 := hM.most
  have hol := t.out_le ht
  obtain ⟨oo, hoo⟩ : ∃ o : Nat, t.out = o := ⟨t.out.toNat, by omega⟩
  unfold xE yE yH
  refine go_Hf ?_
  refine sl_call rfl rfl (by kernel_rfl) rfl (by exact sub_) (out_ok t.kd t.fl t.bt t.ln t.wt t.ch) ?_; rintro _ -
  rw [show outN t.kd t.ln = (oo : Int) from hoo]
  refine sl_make (lo := .tmp 143) (i := default) (k := oo) (c := oo) (bytes := 16) (size := 2) (z := .agg #[.int .u64 0, .int .u64 0]) (e := 65) rfl rfl rfl infoE (Nat.le_refl _) (by omega) (by unfold maxLen; omega) rfl ?_
  intro g22
  rw [show ((madeCells (Value.agg #[.int .u64 0, .int .u64 0]).cells (oo * 2)).toList.take (oo * 2)) = rows eC (List.replicate oo 0) from made_rows (k := 1) rfl]
  refine go_Hf ?_
  refine sc_bjoin (α := List Int) (fun _ => (22, .slice (some ⟨g22, 0, none⟩) oo oo) :: xE g13 now (stN r.w now) at' (yE g7 g8 g i na cq QA R n cR)) (fun zs => eo (some ⟨g22, 0, none⟩) oo oo zs :: blk g13 73 a.C :: yH t r g7 g8 g m ck R n cR ms fs K) (fun zs => zs.length = oo ∧ Els zs) ?_ ?_
  · refine sc_for (α := Nat × List Int) (fun p => (146, .int .i64 (oo : Nat)) :: (147, .int .i64 (p.1 : Nat)) :: (22, .slice (some ⟨g22, 0, none⟩) oo oo) :: xE g13 now (stN r.w now) at' (yE g7 g8 g i na cq QA R n cR)) (fun p => eo (some ⟨g22, 0, none⟩) oo oo p.2 :: blk g13 73 a.C :: yH t r g7 g8 g m ck R n cR ms fs K) (fun p => p.1 ≤ oo ∧ p.2.length = oo ∧ Els p.2) (fun p => oo - p.1) (0, List.replicate oo 0) (by unfold xE yE; exact has_) (by unfold yH; exact sub_) ⟨Nat.zero_le _, List.length_replicate, els_rep _⟩ ?_
    rintro ⟨j, zs⟩ ⟨hj, hzl, hze⟩
    dsimp only at hj hzl hze ⊢
    unfold xE yE yH
    by_cases hlt : j < oo
    case neg =>
      refine go_Hf ?_
      exact se_mid zs (by exact has_) (by exact sub_) ⟨hzl, hze⟩
    by_cases h0 : 0 < a.o.length
    case neg =>
      refine go_Hf ?_
      exact se_round (j + 1, zs) (by exact has_) (by exact sub_) ⟨by show j + 1 ≤ oo; omega, hzl, hze⟩ (by show oo - (j + 1) < oo - j; omega)
    refine sc_know (vw_form (L := eo (some ⟨g22, 0, none⟩) oo oo zs :: blk g13 73 a.C :: bB g t r m :: bM m fs ck :: bS fs :: mR R n cR ms :: bS ms :: blk g7 37 t.c :: blk g8 24 r.c :: K) (hov.mono (by exact sub_)) h0) ?_
    rintro ⟨go, hgo⟩
    rw [hgo] at hov
    have h18 := a.n18
    rw [hgo] at h18
    have hm1 : 0 ≤ (j : Int) % (a.o.length : Int) := Int.emod_nonneg _ (by omega)
    have hm2 : (j : Int) % (a.o.length : Int) < (a.o.length : Int) := Int.emod_lt_of_pos _ (by omega)
    obtain ⟨x, hx⟩ : ∃ x, a.o[((j : Int) % (a.o.length : Int)).toNat]? = some x := ⟨_, List.getElem?_eq_getElem (by omega)⟩
    have hxe : El x := hoe x (List.mem_of_getElem? hx)
    have hput : ∀ v : Int, (rows eC zs).take (j * 2) ++ eC v ++ (rows eC zs).drop (j * 2 + (eC v).length) = rows eC (zs.set j v) := fun v => rows_put eC_len _ (by omega)
    refine go_Hf ?_
    refine sd_drawn (S2 (K) [blk g13 73 a.C, blk g7 37 t.c]) (fun _ => true) (by kernel_rfl) 18 rfl ?_
    refine sd_yes2 0 rfl (by exact gd_) (by kernel_rfl) (by kernel_rfl) (by (repeat (first | assumption | exact nop_body | refine nop_then ?_ | refine nop_block ?_)); first | done | fail) (PuI.all2 (by exact pv_Hf)) rfl (fun w hw => ⟨hw.sub (by exact sub_), by exact all_ hw⟩) ?_
    refine sd_yes2 1 rfl (by exact gd_) (by kernel_rfl) (by kernel_rfl) (by (repeat (first | assumption | exact nop_body | refine nop_then ?_ | refine nop_block ?_)); first | done | fail) (PuI.all2 (by exact pv_Hf)) rfl (fun w hw => ⟨hw.sub (by exact sub_), by exact all_ hw⟩) ?_
    refine sd_yes2 2 rfl (by exact gd_) (by kernel_rfl) (by kernel_rfl) (by (repeat (first | assumption | exact nop_body | refine nop_then ?_ | refine nop_block ?_)); first | done | fail) (PuI.all2 (by exact pv_Hf)) rfl (fun w hw => ⟨hw.sub (by exact sub_), by exact all_ hw⟩) ?_
    refine sd_yes2 3 rfl (by exact gd_) (by kernel_rfl) (by kernel_rfl) (by (repeat (first | assumption | exact nop_body | refine nop_then ?_ | refine nop_block ?_)); first | done | fail) (PuI.all2 (by exact pv_Hf)) rfl (fun w hw => ⟨hw.sub (by exact sub_), by exact all_ hw⟩) ?_
    refine sd_yes2 4 rfl (by exact gd_) (by kernel_rfl) (by kernel_rfl) (by (repeat (first | assumption | exact nop_body | refine nop_then ?_ | refine nop_block ?_)); first | done | fail) (PuI.all2 (by exact pv_Hf)) rfl (fun w hw => ⟨hw.sub (by exact sub_), by exact all_ hw⟩) ?_
    refine sd_yes2 5 rfl (by exact gd_) (by kernel_rfl) (by kernel_rfl) (by (repeat (first | assumption | exact nop_body | refine nop_then ?_ | refine nop_block ?_)); first | done | fail) (PuI.all2 (by exact pv_Hf)) rfl (fun w hw => ⟨hw.sub (by exact sub_), by exact all_ hw⟩) ?_
    refine sd_yes2 6 rfl (by exact gd_) (by kernel_rfl) (by kernel_rfl) (by (repeat (first | assumption | exact nop_body | refine nop_then ?_ | refine nop_block ?_)); first | done | fail) (PuI.all2 (by exact pv_Hf)) rfl (fun w hw => ⟨hw.sub (by exact sub_), by exact all_ hw⟩) ?_
    refine sd_yes2 7 rfl (by exact gd_) (by kernel_rfl) (by kernel_rfl) (by (repeat (first | assumption | exact nop_body | refine nop_then ?_ | refine nop_block ?_)); first | done | fail) (PuI.all2 (by exact pv_Hf)) rfl (fun w hw => ⟨hw.sub (by exact sub_), by exact all_ hw⟩) ?_
    refine sd_yes2 8 rfl (by exact gd_) (by kernel_rfl) (by kernel_rfl) (by (repeat (first | assumption | exact nop_body | refine nop_then ?_ | refine nop_block ?_)); first | done | fail) (PuI.all2 (by exact pv_Hf)) rfl (fun w hw => ⟨hw.sub (by exact sub_), by exact all_ hw⟩) ?_
    refine sd_yes2 9 rfl (by exact gd_) (by kernel_rfl) (by kernel_rfl) (by (repeat (first | assumption | exact nop_body | refine nop_then ?_ | refine nop_block ?_)); first | done | fail) (PuI.all2 (by exact pv_Hf)) rfl (fun w hw => ⟨hw.sub (by exact sub_), by exact all_ hw⟩) ?_
    refine sd_yes2 10 rfl (by exact gd_) (by kernel_rfl) (by kernel_rfl) (by (repeat (first | assumption | exact nop_body | refine nop_then ?_ | refine nop_block ?_)); first | done | fail) (PuI.all2 (by exact pv_Hf)) rfl (fun w hw => ⟨hw.sub (by exact sub_), by exact all_ hw⟩) ?_
    refine sd_yes2 11 rfl (by exact gd_) (by kernel_rfl) (by kernel_rfl) (by (repeat (first | assumption | exact nop_body | refine nop_then ?_ | refine nop_block ?_)); first | done | fail) (PuI.all2 (by exact pv_Hf)) rfl (fun w hw => ⟨hw.sub (by exact sub_), by exact all_ hw⟩) ?_
    refine sd_yes2 12 rfl (by exact gd_) (by kernel_rfl) (by kernel_rfl) (by (repeat (first | assumption | exact nop_body | refine nop_then ?_ | refine nop_block ?_)); first | done | fail) (PuI.all2 (by exact pv_Hf)) rfl (fun w hw => ⟨hw.sub (by exact sub_), by exact all_ hw⟩) ?_
    refine sd_yes2 13 rfl (by exact gd_) (by kernel_rfl) (by kernel_rfl) (by (repeat (first | assumption | exact nop_body | refine nop_then ?_ | refine nop_block ?_)); first | done | fail) (PuI.all2 (by exact pv_Hf)) rfl (fun w hw => ⟨hw.sub (by exact sub_), by exact all_ hw⟩) ?_
    refine sd_yes2 14 rfl (by exact gd_) (by kernel_rfl) (by kernel_rfl) (by (repeat (first | assumption | exact nop_body | refine nop_then ?_ | refine nop_block ?_)); first | done | fail) (pu_sepK (pu_ldrs hov (by omega) rfl (rows_mid eC_len hx) rfl rfl rfl)) rfl (fun w hw => ⟨hw.sub (by exact sub_), by exact all_ hw⟩) ?_
    refine sd_one 15 (by kernel_rfl) (sa_sl 15 rfl ?_)
    refine sl_call rfl rfl (by kernel_rfl) rfl (by exact sub_) (rOf_ok hxe) ?_
    rintro v hv
    refine sl_nil ?_
    refine se_sd (fun _ w hw => ⟨hw.sub (by exact sub_), by exact all_ hw⟩) ?_
    refine sd_yes2 16 rfl (by exact gd_) (by kernel_rfl) (by kernel_rfl) (by (repeat (first | assumption | exact nop_body | refine nop_then ?_ | refine nop_block ?_)); first | done | fail) (PuI.all2 (by exact pv_Hf)) rfl (fun w hw => ⟨hw.sub (by exact sub_), by exact all_ hw⟩) ?_
    refine sd_one 17 (by kernel_rfl) (sa_sl 17 rfl ?_)
    refine sl_sto_mid (i := j * 2) (cl := eC v) (by rw [show ((⟨g22, 0, none⟩ : Addr).add (j * 2)) = ⟨g22, j * 2, none⟩ from at1 g22 (j * 2)]; rfl) (by exact pick_) rfl rfl (by show j * 2 + 2 ≤ oo * 2; omega) (eC_one _) ?_
    rw [hput]
    refine sl_nil ?_
    refine se_sd (fun _ w hw => ⟨hw.sub (by exact sub_), by exact all_ hw⟩) ?_
    refine sd_done (by kernel_rfl) ?_
    refine go_Hf ?_
    exact se_round (j + 1, zs.set j v) (by exact has_) (by exact sub_) ⟨by show j + 1 ≤ oo; omega, by show (zs.set j v).length = oo; rw [List.length_set]; exact hzl, fun y hy => (List.mem_or_eq_of_mem_set hy).elim (hze y) (fun e => e ▸ hv)⟩ (by show oo - (j + 1) < oo - j; omega)
  rintro zs ⟨hzl, hze⟩
  unfold xE yE yH
  refine sc_seq ?_
  refine sc_region ?_
  refine su_Hf ?_
  refine sl_nil ?_
  refine se_seq ?_
  refine sc_mid (α := Unit) (fun _ => (22, .slice (some ⟨g22, 0, none⟩) oo oo) :: (24, .int .i64 (fitsE r fs now)) :: xE g13 now (stN r.w now) at' (yE g7 g8 g i na cq QA R n cR)) (fun _ => eo (some ⟨g22, 0, none⟩) oo oo zs :: blk g13 73 a.C :: yH t r g7 g8 g m ck R n cR ms fs K) (fun _ => True) ?_ ?_
  · unfold fitsE
    by_cases hbig : 1099511627776 < now
    · rw [if_pos hbig]
      refine go_Hf ?_
      exact se_mid () (by unfold xE yE; exact has_) (by unfold yH; exact sub_) trivial
    rw [if_neg hbig]
    cases hat with
    | no hno =>
      rw [bfind_no hM hno]
      dsimp only
      by_cases hf32 : n = 32
      · rw [if_pos (by omega)]
        refine go_Hf ?_
        exact se_mid () (by unfold xE yE; exact has_) (by unfold yH; exact sub_) trivial
      · rw [if_neg (by omega), if_neg (by omega)]
        refine go_Hf ?_
        ((refine sq_region (by kernel_rfl) (by kernel_rfl) ?_; (repeat refine rq_Hf ?_); refine sq_end ?_))
        refine go_Hf ?_
        exact se_mid () (by unfold xE yE; exact has_) (by unfold yH; exact sub_) trivial
    | @yes j u hj hus =>
      obtain ⟨b, hb, e1, e2, e3, e4, e5⟩ := hM.at hj
      have hf := bfind_yes hM hb
      rw [e1, hus] at hf
      rw [hf]
      dsimp only
      rw [e3, e5]
      obtain ⟨hjn, _⟩ := List.getElem?_eq_some_iff.1 hj
      have hj20 : j < n := by omega
      have hj0 : ¬ (j : Int) < 0 := by omega
      have hcl := win_cl hj
      have hnm := win_m hj
      refine sc_form (e := 75) (size := 20) (A := R) (m := n) (c := cR) (xs := rows BK.cells ms) (by exact at_) (by omega) ?_
      rintro gR rfl
      refine go_Hf ?_
      refine sl_pu (pu_ldo (o := j * 20 + 19) (by exact at_) (by omega) rfl (at2 _ _ _) rfl hcl) rfl ?_
      cases hc : u.cl with
      | true =>
        rw [if_pos rfl]
        refine go_Hf ?_
        exact se_mid () (by unfold xE yE; exact has_) (by unfold yH; exact sub_) trivial
      | false =>
        rw [if_neg (by decide)]
        by_cases hmm : r.mx ≤ u.m
        · rw [if_pos hmm]
          refine go_Hf ?_
          refine sq_region (by kernel_rfl) (by kernel_rfl) ?_
          repeat refine rq_Hf ?_
          refine wq_pu (pu_ldo (o := j * 20 + 2) (by exact at_) (by omega) rfl (by rw [at1]) rfl hnm) rfl ?_
          repeat refine rq_Hf ?_
          refine sq_end ?_
          refine go_Hf ?_
          exact se_mid () (by unfold xE yE; exact has_) (by unfold yH; exact sub_) trivial
        · rw [if_neg hmm]
          refine go_Hf ?_
          refine sq_region (by kernel_rfl) (by kernel_rfl) ?_
          repeat refine rq_Hf ?_
          refine wq_pu (pu_ldo (o := j * 20 + 2) (by exact at_) (by omega) rfl (by rw [at1]) rfl hnm) rfl ?_
          repeat refine rq_Hf ?_
          refine sq_end ?_
          refine go_Hf ?_
          exact se_mid () (by unfold xE yE; exact has_) (by unfold yH; exact sub_) trivial
  rintro _ -
  exact pC2 ht hw hmx hM hn hnow hat hoo hze hzl hN hend hexit
end Go.Proofs.Ytdmeofobljjpfaa
/- BucketPlays: one call. -/
namespace Go.Proofs.Ytdmeofobljjpfaa
open Go.RowKit Go.MapKept
attribute [local irreducible] Go.Calls Go.Exit.then Go.Exit.inBlock Go.bodyPost Go.Code.wp Go.wpList
attribute [local irreducible] hashL ofId
theorem AtI.snoc_ne {l : List BK} {st k : Int} {x : BK} (h : AtI l st k) (hx : x.st ≠ st) : AtI (l ++ [x]) st k := by
  cases h with
  | no h =>
    refine .no fun u hu => ?_
    rcases List.mem_append.1 hu with hu | hu
    · exact h u hu
    · rw [List.mem_singleton.1 hu]
      exact hx
  | @yes j u hj hs =>
    refine .yes (u := u) ?_ hs
    rw [List.getElem?_append_left (List.getElem?_eq_some_iff.1 hj).1]
    exact hj
theorem AtI.snoc_eq {l : List BK} {st : Int} {x : BK} {j : Nat} (hl : l.length = j) (hx : x.st = st) : AtI (l ++ [x]) st j := .yes (get_end hl) hx
theorem btake {l : List BK} {j : Nat} {x : BK} (h : l[j]? = some x) : l.take (j + 1) = l.take j ++ [x] := by
  obtain ⟨h1, rfl⟩ := List.getElem?_eq_some_iff.1 h
  exact (List.take_append_getElem h1).symm
theorem nth_Hk {φ : Prop} (h : φ := by (first | rfl | first | assumption | exact bkC_n0 | exact bkC_n1 | exact bkC_n2 | exact bkC_n19' | exact tc_n0 | exact tc_n1 | exact Bc.n0 _ | exact Bc.n1 _ | exact Bc.n18 _ | exact Bc.n19 _ | exact Bc.n20 _)) : φ := h
theorem mid_Hk {φ : Prop} (h : φ := by (first | first | exact boC_mt | exact boC_mr | exact bkC_mid | exact Ta.mid _ | exact tc_mid | exact Bc.mid _ | exact bk_mid (by assumption) | exact Mid.all | exact Mid.all | exact Mid.head)) : φ := h
theorem sz_Hk {φ : Prop} (h : φ := by (first | rfl | ((try simp only [bkC_len tc_len, tc_len, BK.len, Bc.len, bytes_length, Id.len]); (first | done | rfl); first | done | fail))) : φ := h
theorem one_Hk {φ : Prop} (h : φ := by (first | assumption | exact first | exact eC_one _ | exact BK.one _ | exact bkC_one tc_one | exact tc_one | exact Bc.one _ | exact Ta.one _ | exact Rl.one _ | exact one_bytes _ | (simp only [List.mem_cons, List.not_mem_nil, or_false, forall_eq_or_imp, forall_eq]; decide) | exact one_bytes _ | (intro v hv; (repeat (rcases List.mem_cons.1 hv with rfl | hv; rfl)); cases hv))) : φ := h
theorem set_Hk {φ : Prop} (h : φ := by (first | (first | exact tc_set0 | exact bkC_set19 tc_len) | ((repeat (first | exact SetAt.here | apply SetAt.there)); first | done | fail))) : φ := h
theorem cl_Hk {φ : Prop} (h : φ := by first | rfl | exact .t | exact .f | exact .t (by omega) | exact .f (by omega) | exact .u | exact .i (by (first | exact .t (by omega) | exact .f (by omega) | exact .u | exact .i (by omega) | exact .v (by omega) | exact .b (by omega) | exact .w | rfl | omega)) | exact .v (by omega) | exact .b (by omega) | exact .q (by omega) | exact .w | exact .b (by exact at_) rfl (by exact nth_Hk) | exact .w (by exact at_) rfl rfl (by exact sz_Hk) | exact .s (by exact at_) (by exact mid_Hk) rfl rfl (by exact sz_Hk) | exact .z rfl rfl ⟨by kernel_rfl⟩ | exact .b rfl rfl ⟨by kernel_rfl⟩ | exact .a rfl rfl ⟨by kernel_rfl⟩ | exact .o rfl | exact .s | exact .n | exact .p rfl | exact .q rfl | exact .c rfl | exact .d rfl | exact .n rfl rfl (by omega) | exact .a rfl rfl (by omega) | exact .p rfl rfl (by omega) (by omega) | exact .y rfl rfl (by omega) (by omega) | exact .o (by exact at_) (by omega) rfl (by exact nth_Hk) | exact .m (by exact at_) (by omega) (by exact mid_Hk) rfl rfl (by exact sz_Hk) | exact .mlen (by exact at_) rfl | exact .t (by exact at_) rfl rfl (by first | exact True.intro | rfl) (by assumption) | exact .f (by exact at_) rfl rfl (by first | exact True.intro | rfl) (by assumption) rfl | exact .t1 (by exact at_) rfl rfl (by first | exact True.intro | rfl) (by assumption) | exact .f1 (by exact at_) rfl rfl (by first | exact True.intro | rfl) (by assumption) rfl | exact .r rfl rfl (by omega) (by omega) (by exact nth_Hk) rfl | exact .s rfl (by omega) (by assumption) | exact at_ | assumption | exact .r rfl rfl | exact .h rfl rfl rfl (by omega) | exact .l rfl rfl rfl (by omega) (by omega) | exact .g rfl rfl rfl rfl (by omega) (by omega) | exact .h rfl rfl (toN_ (by omega)) (by omega) | exact .l rfl rfl (toN_ (by omega)) (by omega) (by omega) | exact .g rfl rfl (toN_ (by omega)) (toN_ (by omega)) (by omega) (by omega) | exact .o (by decide) | exact .f (by decide) | exact .n (by omega) (by first | decide | (show _ ≤ ((64 : Nat) : Int); omega)) | (constructor; (repeat (first | exact .t (by omega) | exact .f (by omega) | exact .u | exact .i (by omega) | exact .v (by omega) | exact .b (by omega) | exact .w | rfl | omega)); first | done | fail) | omega | (show _ ≤ ((64 : Nat) : Int); omega)) : φ := h
theorem pv_Hk {φ : Prop} (h : φ := by constructor; (repeat exact cl_Hk); first | done | fail) : φ := h
theorem su_Hk {φ ψ : Prop} (k : ψ) (h : Hide ψ → φ := by (intro k; (first | refine sl_pu (PuI.sep (by exact pv_Hk)) rfl ?_ | refine sl_yes rfl rfl ?_ | refine sl_no rfl rfl rfl ?_ | refine sl_off rfl rfl rfl ?_ | (fail)); exact k.out)) : φ := h ⟨k⟩
theorem rq_Hk {φ ψ : Prop} (k : ψ) (h : Hide ψ → φ := by (intro k; (first | refine wq_pu (PuI.sep (by exact pv_Hk)) rfl ?_ | refine wq_yes rfl rfl ?_ | refine wq_no rfl rfl rfl ?_ | refine wq_off rfl rfl rfl ?_ | (fail)); exact k.out)) : φ := h ⟨k⟩
theorem sto_Hk {φ ψ : Prop} (k : ψ) (h : Hide ψ → φ := by (intro k; (first | refine sl_store rfl (by exact pick_) rfl rfl (by kernel_rfl) (by exact set_Hk) ?_ | refine sl_store_whole rfl (by exact pick_) rfl (by exact sz_Hk) (by exact sz_Hk) (by exact one_Hk) ?_); exact k.out)) : φ := h ⟨k⟩
theorem go_Hk {φ ψ : Prop} (k : ψ) (h : Hide ψ → φ := by (intro k; (repeat (first | refine su_Hk ?_ | refine so_ ?_ | refine sto_Hk ?_)); exact k.out)) : φ := h ⟨k⟩
set_option maxRecDepth 100000 in
set_option maxHeartbeats 8000000 in
theorem pE {K : List Fa} {t : Ta} {r : Rl} {g7 g8 g m ck i na cq n cR g13 : Nat} {QA R : Option Addr} {ms fs : List BK} {a : Bc} {now at' : Int} (ht : t.err = 0) (hw : 0 < r.w) (hmx : r.mx ≤ 256) (hmn : 0 < r.mx) (hM : MOk t r ms fs) (hn : ms.length = n) (hnow : 0 ≤ now ∧ now ≤ 18446744073709551615) (hat : AtI ms (stN r.w now) at') (hov : Vw K (fun w => Reads w 2 a.A a.o.length (rows eC a.o))) (hoe : Els a.o) (hob : a.o.length ≤ 1000000) (hkd : 0 ≤ a.kd ∧ a.kd ≤ 255) {Q' : Exit → Act → World → Prop} (hN : NoP Q')
    (hend : ∀ {R' : Option Addr} {n' cR' ck' : Nat} {ms' fs' : List BK} {l : Env} {L : List Fa}, MOk t r ms' fs' → ms'.length = n' → Has l (yE g7 g8 g i na cq QA R' n' cR') → Sub L (yH t r g7 g8 g m ck' R' n' cR' ms' fs' K) → SE Q' .normal 342 l L)
    (hexit : ∀ {R' : Option Addr} {n' cR' ck' : Nat} {ms' fs' : List BK} {l : Env} {L : List Fa}, MOk t r ms' fs' → ms'.length = n' → Has l (yE g7 g8 g i na cq QA R' n' cR') → Sub L (yH t r g7 g8 g m ck' R' n' cR' ms' fs' K) → SE Q' (.exit 1) 342 l L) :
    SC Try.prog (cAt [false, false, false, false, false, true, false, true, true, false, false, true, true, false, false, false, false, false, false, false] (fb Try.f6)) Q' 342 (xE g13 now (stN r.w now) at' (yE g7 g8 g i na cq QA R n cR)) (blk g13 73 a.C :: yH t r g7 g8 g m ck R n cR ms fs K) := by
  refine sc_mid (α := (Option Addr × Nat × Nat) × Nat × List BK × List BK) (fun p => yE g7 g8 g i na cq QA p.1.1 p.1.2.1 p.1.2.2) (fun p => yH t r g7 g8 g m p.2.1 p.1.1 p.1.2.1 p.1.2.2 p.2.2.1 p.2.2.2 K) (fun p => MOk t r p.2.2.1 p.2.2.2 ∧ p.2.2.1.length = p.1.2.1) ?_ ?_
  · unfold xE yE yH
    refine sc_seq ?_
    refine sc_region ?_
    repeat refine su_Hk ?_
    refine sl_nil ?_
    refine se_seq ?_
    refine sc_env (xE g13 now (stN r.w now) at' (yE g7 g8 g i na cq QA R n cR) ++ [(88, .bool (decide (a.kd % 7 = 6)))]) (by unfold xE yE; exact has_) ?_
    refine sc_if (b := decide (a.kd % 7 = 6)) rfl (fun h => ?_) (fun h => ?_)
    · refine sc_env (xE g13 now (stN r.w now) at' (yE g7 g8 g i na cq QA R n cR)) (by unfold xE yE; exact has_) ?_
      refine pB (a := a) ht hw hM hn hnow hat ?_
      intro R' n' cR' ck' ms' fs' l L h1 h2 hl hL
      exact se_mid ((R', n', cR'), ck', ms', fs') hl hL ⟨h1, h2⟩
    · refine sc_env (xE g13 now (stN r.w now) at' (yE g7 g8 g i na cq QA R n cR)) (by unfold xE yE; exact has_) ?_
      refine pC1 (a := a) ht hw hmx hmn hM hn hnow hat hov hoe hob ?_ ?_ ?_
      · exact nop_then hN
      · intro R' n' cR' ck' ms' fs' l L h1 h2 hl hL
        exact se_mid ((R', n', cR'), ck', ms', fs') hl hL ⟨h1, h2⟩
      · intro R' n' cR' ck' ms' fs' l L h1 h2 hl hL
        refine go_Hk ?_
        exact hexit h1 h2 hl hL
  rintro ⟨⟨R', n', cR'⟩, ck', ms', fs'⟩ ⟨hM', hn'⟩
  exact pD ht hM' hn' (hend hM' hn')
set_option maxRecDepth 100000 in
set_option maxHeartbeats 8000000 in
theorem pG {K : List Fa} {t : Ta} {r : Rl} {g7 g8 g m ck i na cq n cR g13 : Nat} {QA R : Option Addr} {ms fs : List BK} {a : Bc} (ht : t.err = 0) (hw : 0 < r.w) (hmx : r.mx ≤ 256) (hmn : 0 < r.mx) (hM : MOk t r ms fs) (hn : ms.length = n) (htm : 0 ≤ a.tm ∧ a.tm ≤ 18446744073709551615) (hov : Vw K (fun w => Reads w 2 a.A a.o.length (rows eC a.o))) (hoe : Els a.o) (hkd : 0 ≤ a.kd ∧ a.kd ≤ 255) {Q' : Exit → Act → World → Prop} (hN : NoP Q')
    (hend : ∀ {R' : Option Addr} {n' cR' ck' : Nat} {ms' fs' : List BK} {l : Env} {L : List Fa}, MOk t r ms' fs' → ms'.length = n' → Has l (yE g7 g8 g i na cq QA R' n' cR') → Sub L (yH t r g7 g8 g m ck' R' n' cR' ms' fs' K) → SE Q' .normal 342 l L)
    (hexit : ∀ {R' : Option Addr} {n' cR' ck' : Nat} {ms' fs' : List BK} {l : Env} {L : List Fa}, MOk t r ms' fs' → ms'.length = n' → Has l (yE g7 g8 g i na cq QA R' n' cR') → Sub L (yH t r g7 g8 g m ck' R' n' cR' ms' fs' K) → SE Q' (.exit 1) 342 l L)
    (hbrk : ∀ {l : Env} {L : List Fa}, Has l (yE g7 g8 g i na cq QA R n cR) → Sub L (yH t r g7 g8 g m ck R n cR ms fs K) → SE Q' (.exit 0) 342 l L) :
    SC Try.prog (cAt [false, false, false, false, false, true, false, true, true, false, false, true, true, false] (fb Try.f6)) Q' 342 ((12, .int .i64 (i : Nat)) :: (13, .pointer (some ⟨g13, 0, none⟩)) :: yE g7 g8 g i na cq QA R n cR) (blk g13 73 a.C :: yH t r g7 g8 g m ck R n cR ms fs K) := by
  have hll := hM.ll
  have h32 := hM.most
  unfold yE yH
  by_cases h60 : 60 < i
  · refine go_Hk ?_
    exact hbrk (by unfold yE; exact has_) (by unfold yH; exact sub_)
  by_cases h40 : 40 < a.o.length
  · refine go_Hk ?_
    exact hbrk (by unfold yE; exact has_) (by unfold yH; exact sub_)
  have h19 := a.n19
  have hx1 : 0 ≤ a.tm % r.w ∧ a.tm % r.w ≤ a.tm := ⟨Int.emod_nonneg _ (by omega), by have := st_want (w := r.w) (by omega) (now := a.tm); have := stN_le (w := r.w) (now := a.tm) (by omega) htm.1; omega⟩
  have h6 : 0 ≤ a.tm % 60 ∧ a.tm % 60 ≤ 59 := by omega
  have hx2 : 0 ≤ a.tm % 60 % r.w ∧ a.tm % 60 % r.w ≤ a.tm % 60 := ⟨Int.emod_nonneg _ (by omega), by have := st_want (w := r.w) (by omega) (now := a.tm % 60); have := stN_le (w := r.w) (now := a.tm % 60) (by omega) h6.1; omega⟩
  cases hraw : a.raw
  case' true =>
    rw [hraw] at h19
    refine go_Hk ?_
    rw [← st_want (w := r.w) (by omega) (now := a.tm)]
    obtain ⟨now, hnw⟩ : ∃ x, a.tm = x := ⟨_, rfl⟩
    have hnow : 0 ≤ now ∧ now ≤ 18446744073709551615 := by omega
    rw [hnw]
  case' false =>
    rw [hraw] at h19
    refine go_Hk ?_
    rw [← st_want (w := r.w) (by omega) (now := a.tm % 60)]
    obtain ⟨now, hnw⟩ : ∃ x, a.tm % 60 = x := ⟨_, rfl⟩
    have hnow : 0 ≤ now ∧ now ≤ 18446744073709551615 := by omega
    rw [hnw]
  all_goals
    clear hx1 hx2 h6 hnw h19
    refine sc_bjoin (α := Int) (fun at' => xE g13 now (stN r.w now) at' (yE g7 g8 g i na cq QA R n cR)) (fun _ => blk g13 73 a.C :: yH t r g7 g8 g m ck R n cR ms fs K) (fun at' => AtI ms (stN r.w now) at') ?_ ?_
    · refine sc_for (α := Nat × Int) (fun p => (72, .slice R n cR) :: (73, .int .i64 (n : Nat)) :: (74, .int .i64 (p.1 : Nat)) :: xE g13 now (stN r.w now) p.2 (yE g7 g8 g i na cq QA R n cR)) (fun _ => blk g13 73 a.C :: yH t r g7 g8 g m ck R n cR ms fs K) (fun p => p.1 ≤ n ∧ AtI (ms.take p.1) (stN r.w now) p.2) (fun p => n - p.1) (0, -1) (by unfold xE yE; exact has_) (by unfold yH; exact sub_) ⟨Nat.zero_le _, .no fun u hu => by cases hu⟩ ?_
      rintro ⟨j, at'⟩ ⟨hj, hat⟩
      dsimp only at hj hat ⊢
      unfold xE yE yH
      by_cases hlt : j < n
      case neg =>
        obtain rfl : j = n := by omega
        rw [List.take_of_length_le (by omega)] at hat
        refine go_Hk ?_
        exact se_mid at' (by exact has_) (by exact sub_) hat
      refine sc_form (e := 75) (size := 20) (A := R) (m := n) (c := cR) (xs := rows BK.cells ms) (by exact at_) (by omega) ?_
      rintro gR rfl
      obtain ⟨u, hu⟩ : ∃ u, ms[j]? = some u := ⟨_, List.getElem?_eq_getElem (by omega)⟩
      have hus : u.cells = bkC u.st (tc u.A u.l.length u.c u.m u.k) u.cl := rfl
      have htl : (ms.take j).length = j := by rw [List.length_take]; omega
      by_cases heq : u.st = stN r.w now
      · refine go_Hk ?_
        rw [hus]
        refine sl_alloc rfl rfl rfl ?_; intro g18
        refine go_Hk ?_
        exact se_round (j + 1, (j : Int)) (by exact has_) (by exact sub_) ⟨by show j + 1 ≤ n; omega, by show AtI (ms.take (j + 1)) _ _; rw [btake hu]; exact .snoc_eq htl heq⟩ (by show n - (j + 1) < n - j; omega)
      · refine go_Hk ?_
        rw [hus]
        refine sl_alloc rfl rfl rfl ?_; intro g18
        refine go_Hk ?_
        exact se_round (j + 1, at') (by exact has_) (by exact sub_) ⟨by show j + 1 ≤ n; omega, by show AtI (ms.take (j + 1)) _ _; rw [btake hu]; exact hat.snoc_ne heq⟩ (by show n - (j + 1) < n - j; omega)
    · rintro at' hat
      exact pE (a := a) ht hw hmx hmn hM hn hnow hat hov hoe (by omega) hkd hN hend hexit
end Go.Proofs.Ytdmeofobljjpfaa
/- BucketPlays: the law's walk. -/
namespace Go.Proofs.Ytdmeofobljjpfaa
open Go.RowKit Go.MapKept
attribute [local irreducible] Go.Calls Go.Exit.then Go.Exit.inBlock Go.bodyPost Go.Code.wp Go.wpList
attribute [local irreducible] hashL ofId
theorem se_envK {Q : Exit → Act → World → Prop} {e : Exit} {n : Nat} {l l' : Env} {L : List Fa} (hl : Has l l') (h : SE Q e n l' L) : SE Q e n l L := by
  unfold SE at h ⊢
  exact fun w hw => WE.mk fun a hs => WE.get (h w hw) (hs.sub hl.sub)
theorem smR_ok {a b c : Int} {s : Sk} (ha : 0 ≤ a ∧ a ≤ 255) (hb : 0 ≤ b ∧ b ≤ 255) (hc : 0 ≤ c ∧ c ≤ 255) : rErr (smR a b c) s.ta = 0 ∧ 0 < (smR a b c).w ∧ 0 < (smR a b c).mx ∧ (smR a b c).mx ≤ 256 := by
  have hw : (smR a b c).w = 1 + a % 12 := rfl
  have hn : (smR a b c).mn = 1 + b % 4 := rfl
  have hx : (smR a b c).mx = 1 + b % 4 + c % 6 := rfl
  refine ⟨?_, by omega, by omega, by omega⟩
  unfold rErr
  rw [if_neg (by simp [s.ta_ok]), if_neg (by omega), if_neg (by omega)]
theorem nth_Hl {φ : Prop} (h : φ := by (first | rfl | first | assumption | exact bkC_n0 | exact bkC_n1 | exact bkC_n2 | exact bkC_n19' | exact tc_n0 | exact tc_n1 | exact Bc.n0 _ | exact Bc.n1 _ | exact Bc.n18 _ | exact Bc.n19 _ | exact Bc.n20 _)) : φ := h
theorem mid_Hl {φ : Prop} (h : φ := by (first | first | exact boC_mt | exact boC_mr | exact bkC_mid | exact Ta.mid _ | exact tc_mid | exact Bc.mid _ | exact bk_mid (by assumption) | exact Mid.all | exact Mid.all | exact Mid.head)) : φ := h
theorem sz_Hl {φ : Prop} (h : φ := by (first | rfl | ((try simp only [bkC_len tc_len, tc_len, BK.len, Bc.len, bytes_length, Id.len]); (first | done | rfl); first | done | fail))) : φ := h
theorem one_Hl {φ : Prop} (h : φ := by (first | assumption | exact first | exact Sk.one _ | exact eC_one _ | exact BK.one _ | exact bkC_one tc_one | exact tc_one | exact Bc.one _ | exact Ta.one _ | exact Rl.one _ | exact one_bytes _ | (simp only [List.mem_cons, List.not_mem_nil, or_false, forall_eq_or_imp, forall_eq]; decide) | exact one_bytes _ | (intro v hv; (repeat (rcases List.mem_cons.1 hv with rfl | hv; rfl)); cases hv))) : φ := h
theorem set_Hl {φ : Prop} (h : φ := by (first | (first | exact tc_set0 | exact bkC_set19 tc_len) | ((repeat (first | exact SetAt.here | apply SetAt.there)); first | done | fail))) : φ := h
theorem cl_Hl {φ : Prop} (h : φ := by first | rfl | exact .t | exact .f | exact .t (by omega) | exact .f (by omega) | exact .u | exact .i (by (first | exact .t (by omega) | exact .f (by omega) | exact .u | exact .i (by omega) | exact .v (by omega) | exact .b (by omega) | exact .w | rfl | omega)) | exact .v (by omega) | exact .b (by omega) | exact .q (by omega) | exact .w | exact .b (by exact at_) rfl (by exact nth_Hl) | exact .w (by exact at_) rfl rfl (by exact sz_Hl) | exact .s (by exact at_) (by exact mid_Hl) rfl rfl (by exact sz_Hl) | exact .z rfl rfl ⟨by kernel_rfl⟩ | exact .b rfl rfl ⟨by kernel_rfl⟩ | exact .a rfl rfl ⟨by kernel_rfl⟩ | exact .o rfl | exact .s | exact .n | exact .p rfl | exact .q rfl | exact .c rfl | exact .d rfl | exact .n rfl rfl (by omega) | exact .a rfl rfl (by omega) | exact .p rfl rfl (by omega) (by omega) | exact .y rfl rfl (by omega) (by omega) | exact .o (by exact at_) (by omega) rfl (by exact nth_Hl) | exact .m (by exact at_) (by omega) (by exact mid_Hl) rfl rfl (by exact sz_Hl) | exact .mlen (by exact at_) rfl | exact .t (by exact at_) rfl rfl (by first | exact True.intro | rfl) (by assumption) | exact .f (by exact at_) rfl rfl (by first | exact True.intro | rfl) (by assumption) rfl | exact .t1 (by exact at_) rfl rfl (by first | exact True.intro | rfl) (by assumption) | exact .f1 (by exact at_) rfl rfl (by first | exact True.intro | rfl) (by assumption) rfl | exact .r rfl rfl (by omega) (by omega) (by exact nth_Hl) rfl | exact .s rfl (by omega) (by assumption) | exact at_ | assumption | exact .r rfl rfl | exact .h rfl rfl rfl (by omega) | exact .l rfl rfl rfl (by omega) (by omega) | exact .g rfl rfl rfl rfl (by omega) (by omega) | exact .h rfl rfl (toN_ (by omega)) (by omega) | exact .l rfl rfl (toN_ (by omega)) (by omega) (by omega) | exact .g rfl rfl (toN_ (by omega)) (toN_ (by omega)) (by omega) (by omega) | exact .o (by decide) | exact .f (by decide) | exact .n (by omega) (by first | decide | (show _ ≤ ((64 : Nat) : Int); omega)) | (constructor; (repeat (first | exact .t (by omega) | exact .f (by omega) | exact .u | exact .i (by omega) | exact .v (by omega) | exact .b (by omega) | exact .w | rfl | omega)); first | done | fail) | omega | (show _ ≤ ((64 : Nat) : Int); omega)) : φ := h
theorem pv_Hl {φ : Prop} (h : φ := by constructor; (repeat exact cl_Hl); first | done | fail) : φ := h
theorem su_Hl {φ ψ : Prop} (k : ψ) (h : Hide ψ → φ := by (intro k; (first | refine sl_pu (PuI.sep (by exact pv_Hl)) rfl ?_ | refine sl_yes rfl rfl ?_ | refine sl_no rfl rfl rfl ?_ | refine sl_off rfl rfl rfl ?_ | (fail)); exact k.out)) : φ := h ⟨k⟩
theorem rq_Hl {φ ψ : Prop} (k : ψ) (h : Hide ψ → φ := by (intro k; (first | refine wq_pu (PuI.sep (by exact pv_Hl)) rfl ?_ | refine wq_yes rfl rfl ?_ | refine wq_no rfl rfl rfl ?_ | refine wq_off rfl rfl rfl ?_ | (fail)); exact k.out)) : φ := h ⟨k⟩
theorem sto_Hl {φ ψ : Prop} (k : ψ) (h : Hide ψ → φ := by (intro k; (first | refine sl_store rfl (by exact pick_) rfl rfl (by kernel_rfl) (by exact set_Hl) ?_ | refine sl_store_whole rfl (by exact pick_) rfl (by exact sz_Hl) (by exact sz_Hl) (by exact one_Hl) ?_); exact k.out)) : φ := h ⟨k⟩
theorem go_Hl {φ ψ : Prop} (k : ψ) (h : Hide ψ → φ := by (intro k; (repeat (first | refine su_Hl ?_ | refine so_ ?_ | refine sto_Hl ?_)); exact k.out)) : φ := h ⟨k⟩
set_option maxRecDepth 100000 in
set_option maxHeartbeats 8000000 in
theorem plays_walk {K : List Fa} {s : Sk} {a b c : Int} {QA : Option Addr} {cq : Nat} {xs : List Bc} (ha : 0 ≤ a ∧ a ≤ 255) (hb : 0 ≤ b ∧ b ≤ 255) (hc : 0 ≤ c ∧ c ≤ 255) (hq : Vw K (fun w => Reads w 21 QA xs.length (rows Bc.C xs))) (hl : xs.length ≤ maxLen) (hx : ∀ x ∈ xs, Vw K (fun w => Reads w 2 x.A x.o.length (rows eC x.o)) ∧ Els x.o ∧ (0 ≤ x.kd ∧ x.kd ≤ 255) ∧ (0 ≤ x.tm ∧ x.tm ≤ 18446744073709551615)) :
    Fn Try.prog 6 #[.agg s.cells.toArray, .agg (sm19C a b c).toArray, .slice QA xs.length cq] K (Ret (fun _ : Unit => True) (fun _ => .bool true) (fun _ => K)) := by
  refine fn_enter Try.func6 rfl _ Try.ntmps6 (by simp) [(0, .agg s.cells.toArray), (1, .agg (sm19C a b c).toArray), (2, .slice QA xs.length cq)] (args_of (by simp)) ?_
  unfold maxLen at hl
  refine go_Hl ?_
  refine sl_box rfl rfl rfl ?_; intro g1
  refine go_Hl ?_
  refine sl_box rfl rfl rfl ?_; intro g2
  refine go_Hl ?_
  refine sl_call rfl rfl (by kernel_rfl) rfl (by exact sub_) awake19 ?_; rintro _ -
  refine go_Hl ?_
  obtain ⟨hr0, hrw, hmn, hmx⟩ := smR_ok (s := s) ha hb hc
  obtain ⟨r, hr⟩ : ∃ q, smR a b c = q := ⟨_, rfl⟩
  rw [hr] at hr0 hrw hmn hmx
  obtain ⟨t, hts⟩ : ∃ q, s.ta = q := ⟨_, rfl⟩
  have ht : t.err = 0 := by rw [← hts]; exact s.ta_ok
  rw [hts] at hr0
  refine sc_join (α := Nat × Nat) (fun q => [(2, .slice QA xs.length cq), (7, .pointer (some ⟨q.1, 0, none⟩)), (8, .pointer (some ⟨q.2, 0, none⟩))]) (fun q => blk q.1 37 t.c :: blk q.2 24 r.c :: K) (fun _ => True) ?_ ?_
  · refine sd_drawn (fun W => AllP W [blk g1 41 s.cells, blk g2 26 (sm19C a b c)]) (fun _ => true) (by kernel_rfl) 8 rfl ?_
    refine sd_yes2 0 rfl (by exact gd_) (by kernel_rfl) (by kernel_rfl) (by exact nop_) (PuI.all (by exact pv_Hl)) rfl (fun w hw => all_ hw) ?_
    refine sd_yes2 2 rfl (by exact gd_) (by kernel_rfl) (by kernel_rfl) (by exact nop_) (PuI.all (by exact pv_Hl)) rfl (fun w hw => all_ hw) ?_
    refine sd_three 1 4 5 (by kernel_rfl) (sa_sl 1 rfl ?_) (sa_sl 4 rfl ?_) (sa_sl 5 rfl ?_)
    · refine sl_call rfl rfl (by kernel_rfl) rfl (by exact sub_) (stask_ok s) ?_
      rintro _ -
      rw [← Sk.ta_c, hts]
      refine sl_nil ?_
      refine se_sd (fun _ w hw => all_ hw) ?_
      refine sd_three 3 4 5 (by kernel_rfl) (sa_sl 3 rfl ?_) (sa_sl 4 rfl ?_) (sa_sl 5 rfl ?_)
      · refine sl_call rfl rfl (by kernel_rfl) rfl (by exact sub_) (smrules_ok ha hb hc) ?_
        rintro _ -
        rw [hr]
        refine sl_nil ?_
        refine se_sd (fun _ w hw => all_ hw) ?_
        refine sd_two 4 5 (by kernel_rfl) (sa_sl 4 rfl ?_) (sa_sl 5 rfl ?_)
        · refine sl_alloc rfl rfl rfl ?_; intro g7
          refine sl_nil ?_
          refine se_sd (fun _ w hw => all_ hw) ?_
          refine sd_one 5 (by kernel_rfl) (sa_sl 5 rfl ?_)
          refine sl_alloc rfl rfl rfl ?_; intro g8
          refine sl_nil ?_
          refine se_sd (fun _ w hw => all_ hw) ?_
          refine sd_one 6 (by kernel_rfl) (sa_sl 6 rfl ?_)
          refine sl_store_whole rfl (by exact pick_) rfl (by rfl) (by rfl) (Ta.one _) ?_
          refine sl_nil ?_
          refine se_sd (fun _ w hw => all_ hw) ?_
          refine sd_one 7 (by kernel_rfl) (sa_sl 7 rfl ?_)
          refine sl_store_whole rfl (by exact pick_) rfl (by rfl) (by rfl) (Rl.one _) ?_
          refine sl_nil ?_
          refine se_sd (fun _ w hw => all_ hw) ?_
          refine sd_done (by kernel_rfl) ?_
          exact se_mid (g7, g8) (by exact has_) (by exact sub_) trivial
        · refine sl_alloc rfl rfl rfl ?_; intro g8
          refine sl_nil ?_
          refine se_sd (fun _ w hw => all_ hw) ?_
          refine sd_one 4 (by kernel_rfl) (sa_sl 4 rfl ?_)
          refine sl_alloc rfl rfl rfl ?_; intro g7
          refine sl_nil ?_
          refine se_sd (fun _ w hw => all_ hw) ?_
          refine sd_one 6 (by kernel_rfl) (sa_sl 6 rfl ?_)
          refine sl_store_whole rfl (by exact pick_) rfl (by rfl) (by rfl) (Ta.one _) ?_
          refine sl_nil ?_
          refine se_sd (fun _ w hw => all_ hw) ?_
          refine sd_one 7 (by kernel_rfl) (sa_sl 7 rfl ?_)
          refine sl_store_whole rfl (by exact pick_) rfl (by rfl) (by rfl) (Rl.one _) ?_
          refine sl_nil ?_
          refine se_sd (fun _ w hw => all_ hw) ?_
          refine sd_done (by kernel_rfl) ?_
          exact se_mid (g7, g8) (by exact has_) (by exact sub_) trivial
      · refine sl_alloc rfl rfl rfl ?_; intro g7
        refine sl_nil ?_
        refine se_sd (fun _ w hw => all_ hw) ?_
        refine sd_two 3 5 (by kernel_rfl) (sa_sl 3 rfl ?_) (sa_sl 5 rfl ?_)
        · refine sl_call rfl rfl (by kernel_rfl) rfl (by exact sub_) (smrules_ok ha hb hc) ?_
          rintro _ -
          rw [hr]
          refine sl_nil ?_
          refine se_sd (fun _ w hw => all_ hw) ?_
          refine sd_one 5 (by kernel_rfl) (sa_sl 5 rfl ?_)
          refine sl_alloc rfl rfl rfl ?_; intro g8
          refine sl_nil ?_
          refine se_sd (fun _ w hw => all_ hw) ?_
          refine sd_one 6 (by kernel_rfl) (sa_sl 6 rfl ?_)
          refine sl_store_whole rfl (by exact pick_) rfl (by rfl) (by rfl) (Ta.one _) ?_
          refine sl_nil ?_
          refine se_sd (fun _ w hw => all_ hw) ?_
          refine sd_one 7 (by kernel_rfl) (sa_sl 7 rfl ?_)
          refine sl_store_whole rfl (by exact pick_) rfl (by rfl) (by rfl) (Rl.one _) ?_
          refine sl_nil ?_
          refine se_sd (fun _ w hw => all_ hw) ?_
          refine sd_done (by kernel_rfl) ?_
          exact se_mid (g7, g8) (by exact has_) (by exact sub_) trivial
        · refine sl_alloc rfl rfl rfl ?_; intro g8
          refine sl_nil ?_
          refine se_sd (fun _ w hw => all_ hw) ?_
          refine sd_one 3 (by kernel_rfl) (sa_sl 3 rfl ?_)
          refine sl_call rfl rfl (by kernel_rfl) rfl (by exact sub_) (smrules_ok ha hb hc) ?_
          rintro _ -
          rw [hr]
          refine sl_nil ?_
          refine se_sd (fun _ w hw => all_ hw) ?_
          refine sd_one 6 (by kernel_rfl) (sa_sl 6 rfl ?_)
          refine sl_store_whole rfl (by exact pick_) rfl (by rfl) (by rfl) (Ta.one _) ?_
          refine sl_nil ?_
          refine se_sd (fun _ w hw => all_ hw) ?_
          refine sd_one 7 (by kernel_rfl) (sa_sl 7 rfl ?_)
          refine sl_store_whole rfl (by exact pick_) rfl (by rfl) (by rfl) (Rl.one _) ?_
          refine sl_nil ?_
          refine se_sd (fun _ w hw => all_ hw) ?_
          refine sd_done (by kernel_rfl) ?_
          exact se_mid (g7, g8) (by exact has_) (by exact sub_) trivial
      · refine sl_alloc rfl rfl rfl ?_; intro g8
        refine sl_nil ?_
        refine se_sd (fun _ w hw => all_ hw) ?_
        refine sd_two 3 4 (by kernel_rfl) (sa_sl 3 rfl ?_) (sa_sl 4 rfl ?_)
        · refine sl_call rfl rfl (by kernel_rfl) rfl (by exact sub_) (smrules_ok ha hb hc) ?_
          rintro _ -
          rw [hr]
          refine sl_nil ?_
          refine se_sd (fun _ w hw => all_ hw) ?_
          refine sd_one 4 (by kernel_rfl) (sa_sl 4 rfl ?_)
          refine sl_alloc rfl rfl rfl ?_; intro g7
          refine sl_nil ?_
          refine se_sd (fun _ w hw => all_ hw) ?_
          refine sd_one 6 (by kernel_rfl) (sa_sl 6 rfl ?_)
          refine sl_store_whole rfl (by exact pick_) rfl (by rfl) (by rfl) (Ta.one _) ?_
          refine sl_nil ?_
          refine se_sd (fun _ w hw => all_ hw) ?_
          refine sd_one 7 (by kernel_rfl) (sa_sl 7 rfl ?_)
          refine sl_store_whole rfl (by exact pick_) rfl (by rfl) (by rfl) (Rl.one _) ?_
          refine sl_nil ?_
          refine se_sd (fun _ w hw => all_ hw) ?_
          refine sd_done (by kernel_rfl) ?_
          exact se_mid (g7, g8) (by exact has_) (by exact sub_) trivial
        · refine sl_alloc rfl rfl rfl ?_; intro g7
          refine sl_nil ?_
          refine se_sd (fun _ w hw => all_ hw) ?_
          refine sd_one 3 (by kernel_rfl) (sa_sl 3 rfl ?_)
          refine sl_call rfl rfl (by kernel_rfl) rfl (by exact sub_) (smrules_ok ha hb hc) ?_
          rintro _ -
          rw [hr]
          refine sl_nil ?_
          refine se_sd (fun _ w hw => all_ hw) ?_
          refine sd_one 6 (by kernel_rfl) (sa_sl 6 rfl ?_)
          refine sl_store_whole rfl (by exact pick_) rfl (by rfl) (by rfl) (Ta.one _) ?_
          refine sl_nil ?_
          refine se_sd (fun _ w hw => all_ hw) ?_
          refine sd_one 7 (by kernel_rfl) (sa_sl 7 rfl ?_)
          refine sl_store_whole rfl (by exact pick_) rfl (by rfl) (by rfl) (Rl.one _) ?_
          refine sl_nil ?_
          refine se_sd (fun _ w hw => all_ hw) ?_
          refine sd_done (by kernel_rfl) ?_
          exact se_mid (g7, g8) (by exact has_) (by exact sub_) trivial
    · refine sl_alloc rfl rfl rfl ?_; intro g7
      refine sl_nil ?_
      refine se_sd (fun _ w hw => all_ hw) ?_
      refine sd_two 1 5 (by kernel_rfl) (sa_sl 1 rfl ?_) (sa_sl 5 rfl ?_)
      · refine sl_call rfl rfl (by kernel_rfl) rfl (by exact sub_) (stask_ok s) ?_
        rintro _ -
        rw [← Sk.ta_c, hts]
        refine sl_nil ?_
        refine se_sd (fun _ w hw => all_ hw) ?_
        refine sd_two 3 5 (by kernel_rfl) (sa_sl 3 rfl ?_) (sa_sl 5 rfl ?_)
        · refine sl_call rfl rfl (by kernel_rfl) rfl (by exact sub_) (smrules_ok ha hb hc) ?_
          rintro _ -
          rw [hr]
          refine sl_nil ?_
          refine se_sd (fun _ w hw => all_ hw) ?_
          refine sd_one 5 (by kernel_rfl) (sa_sl 5 rfl ?_)
          refine sl_alloc rfl rfl rfl ?_; intro g8
          refine sl_nil ?_
          refine se_sd (fun _ w hw => all_ hw) ?_
          refine sd_one 6 (by kernel_rfl) (sa_sl 6 rfl ?_)
          refine sl_store_whole rfl (by exact pick_) rfl (by rfl) (by rfl) (Ta.one _) ?_
          refine sl_nil ?_
          refine se_sd (fun _ w hw => all_ hw) ?_
          refine sd_one 7 (by kernel_rfl) (sa_sl 7 rfl ?_)
          refine sl_store_whole rfl (by exact pick_) rfl (by rfl) (by rfl) (Rl.one _) ?_
          refine sl_nil ?_
          refine se_sd (fun _ w hw => all_ hw) ?_
          refine sd_done (by kernel_rfl) ?_
          exact se_mid (g7, g8) (by exact has_) (by exact sub_) trivial
        · refine sl_alloc rfl rfl rfl ?_; intro g8
          refine sl_nil ?_
          refine se_sd (fun _ w hw => all_ hw) ?_
          refine sd_one 3 (by kernel_rfl) (sa_sl 3 rfl ?_)
          refine sl_call rfl rfl (by kernel_rfl) rfl (by exact sub_) (smrules_ok ha hb hc) ?_
          rintro _ -
          rw [hr]
          refine sl_nil ?_
          refine se_sd (fun _ w hw => all_ hw) ?_
          refine sd_one 6 (by kernel_rfl) (sa_sl 6 rfl ?_)
          refine sl_store_whole rfl (by exact pick_) rfl (by rfl) (by rfl) (Ta.one _) ?_
          refine sl_nil ?_
          refine se_sd (fun _ w hw => all_ hw) ?_
          refine sd_one 7 (by kernel_rfl) (sa_sl 7 rfl ?_)
          refine sl_store_whole rfl (by exact pick_) rfl (by rfl) (by rfl) (Rl.one _) ?_
          refine sl_nil ?_
          refine se_sd (fun _ w hw => all_ hw) ?_
          refine sd_done (by kernel_rfl) ?_
          exact se_mid (g7, g8) (by exact has_) (by exact sub_) trivial
      · refine sl_alloc rfl rfl rfl ?_; intro g8
        refine sl_nil ?_
        refine se_sd (fun _ w hw => all_ hw) ?_
        refine sd_one 1 (by kernel_rfl) (sa_sl 1 rfl ?_)
        refine sl_call rfl rfl (by kernel_rfl) rfl (by exact sub_) (stask_ok s) ?_
        rintro _ -
        rw [← Sk.ta_c, hts]
        refine sl_nil ?_
        refine se_sd (fun _ w hw => all_ hw) ?_
        refine sd_one 3 (by kernel_rfl) (sa_sl 3 rfl ?_)
        refine sl_call rfl rfl (by kernel_rfl) rfl (by exact sub_) (smrules_ok ha hb hc) ?_
        rintro _ -
        rw [hr]
        refine sl_nil ?_
        refine se_sd (fun _ w hw => all_ hw) ?_
        refine sd_one 6 (by kernel_rfl) (sa_sl 6 rfl ?_)
        refine sl_store_whole rfl (by exact pick_) rfl (by rfl) (by rfl) (Ta.one _) ?_
        refine sl_nil ?_
        refine se_sd (fun _ w hw => all_ hw) ?_
        refine sd_one 7 (by kernel_rfl) (sa_sl 7 rfl ?_)
        refine sl_store_whole rfl (by exact pick_) rfl (by rfl) (by rfl) (Rl.one _) ?_
        refine sl_nil ?_
        refine se_sd (fun _ w hw => all_ hw) ?_
        refine sd_done (by kernel_rfl) ?_
        exact se_mid (g7, g8) (by exact has_) (by exact sub_) trivial
    · refine sl_alloc rfl rfl rfl ?_; intro g8
      refine sl_nil ?_
      refine se_sd (fun _ w hw => all_ hw) ?_
      refine sd_two 1 4 (by kernel_rfl) (sa_sl 1 rfl ?_) (sa_sl 4 rfl ?_)
      · refine sl_call rfl rfl (by kernel_rfl) rfl (by exact sub_) (stask_ok s) ?_
        rintro _ -
        rw [← Sk.ta_c, hts]
        refine sl_nil ?_
        refine se_sd (fun _ w hw => all_ hw) ?_
        refine sd_two 3 4 (by kernel_rfl) (sa_sl 3 rfl ?_) (sa_sl 4 rfl ?_)
        · refine sl_call rfl rfl (by kernel_rfl) rfl (by exact sub_) (smrules_ok ha hb hc) ?_
          rintro _ -
          rw [hr]
          refine sl_nil ?_
          refine se_sd (fun _ w hw => all_ hw) ?_
          refine sd_one 4 (by kernel_rfl) (sa_sl 4 rfl ?_)
          refine sl_alloc rfl rfl rfl ?_; intro g7
          refine sl_nil ?_
          refine se_sd (fun _ w hw => all_ hw) ?_
          refine sd_one 6 (by kernel_rfl) (sa_sl 6 rfl ?_)
          refine sl_store_whole rfl (by exact pick_) rfl (by rfl) (by rfl) (Ta.one _) ?_
          refine sl_nil ?_
          refine se_sd (fun _ w hw => all_ hw) ?_
          refine sd_one 7 (by kernel_rfl) (sa_sl 7 rfl ?_)
          refine sl_store_whole rfl (by exact pick_) rfl (by rfl) (by rfl) (Rl.one _) ?_
          refine sl_nil ?_
          refine se_sd (fun _ w hw => all_ hw) ?_
          refine sd_done (by kernel_rfl) ?_
          exact se_mid (g7, g8) (by exact has_) (by exact sub_) trivial
        · refine sl_alloc rfl rfl rfl ?_; intro g7
          refine sl_nil ?_
          refine se_sd (fun _ w hw => all_ hw) ?_
          refine sd_one 3 (by kernel_rfl) (sa_sl 3 rfl ?_)
          refine sl_call rfl rfl (by kernel_rfl) rfl (by exact sub_) (smrules_ok ha hb hc) ?_
          rintro _ -
          rw [hr]
          refine sl_nil ?_
          refine se_sd (fun _ w hw => all_ hw) ?_
          refine sd_one 6 (by kernel_rfl) (sa_sl 6 rfl ?_)
          refine sl_store_whole rfl (by exact pick_) rfl (by rfl) (by rfl) (Ta.one _) ?_
          refine sl_nil ?_
          refine se_sd (fun _ w hw => all_ hw) ?_
          refine sd_one 7 (by kernel_rfl) (sa_sl 7 rfl ?_)
          refine sl_store_whole rfl (by exact pick_) rfl (by rfl) (by rfl) (Rl.one _) ?_
          refine sl_nil ?_
          refine se_sd (fun _ w hw => all_ hw) ?_
          refine sd_done (by kernel_rfl) ?_
          exact se_mid (g7, g8) (by exact has_) (by exact sub_) trivial
      · refine sl_alloc rfl rfl rfl ?_; intro g7
        refine sl_nil ?_
        refine se_sd (fun _ w hw => all_ hw) ?_
        refine sd_one 1 (by kernel_rfl) (sa_sl 1 rfl ?_)
        refine sl_call rfl rfl (by kernel_rfl) rfl (by exact sub_) (stask_ok s) ?_
        rintro _ -
        rw [← Sk.ta_c, hts]
        refine sl_nil ?_
        refine se_sd (fun _ w hw => all_ hw) ?_
        refine sd_one 3 (by kernel_rfl) (sa_sl 3 rfl ?_)
        refine sl_call rfl rfl (by kernel_rfl) rfl (by exact sub_) (smrules_ok ha hb hc) ?_
        rintro _ -
        rw [hr]
        refine sl_nil ?_
        refine se_sd (fun _ w hw => all_ hw) ?_
        refine sd_one 6 (by kernel_rfl) (sa_sl 6 rfl ?_)
        refine sl_store_whole rfl (by exact pick_) rfl (by rfl) (by rfl) (Ta.one _) ?_
        refine sl_nil ?_
        refine se_sd (fun _ w hw => all_ hw) ?_
        refine sd_one 7 (by kernel_rfl) (sa_sl 7 rfl ?_)
        refine sl_store_whole rfl (by exact pick_) rfl (by rfl) (by rfl) (Rl.one _) ?_
        refine sl_nil ?_
        refine se_sd (fun _ w hw => all_ hw) ?_
        refine sd_done (by kernel_rfl) ?_
        exact se_mid (g7, g8) (by exact has_) (by exact sub_) trivial
  rintro ⟨g7, g8⟩ -
  refine go_Hl ?_
  refine sl_call rfl rfl (by kernel_rfl) rfl (by exact sub_) (bnew_ok hr0) ?_; rintro ⟨g, m⟩ -
  dsimp only
  refine go_Hl ?_
  refine sc_sub (L' := mR none 0 0 [] :: bS [] :: bB g t r m :: bM m [] 0 :: bS [] :: blk g7 37 t.c :: blk g8 24 r.c :: K) (Sub.own_nil (sub_star0 (by exact sub_))) ?_
  refine sc_bjoin (α := Unit) (fun _ => [(8, .pointer (some ⟨g8, 0, none⟩)), (9, .pointer (some ⟨g, 0, none⟩)), (10, .int .i64 0)]) (fun _ => bB g t r m :: blk g8 24 r.c :: K) (fun _ => True) ?_ ?_
  · refine sc_for (α := Nat × (Option Addr × Nat × Nat) × List BK × List BK) (fun p => yE g7 g8 g p.1 xs.length cq QA p.2.1.1 p.2.2.1.length p.2.1.2.1) (fun p => yH t r g7 g8 g m p.2.1.2.2 p.2.1.1 p.2.2.1.length p.2.1.2.1 p.2.2.1 p.2.2.2 K) (fun p => p.1 ≤ xs.length ∧ MOk t r p.2.2.1 p.2.2.2) (fun p => xs.length - p.1) (0, (none, 0, 0), [], []) (by unfold yE; exact has_) (by unfold yH; exact sub_) ⟨Nat.zero_le _, ⟨rfl, .nil, fun b hb => (by cases hb), fun b hb => (by cases hb), fun b hb => (by cases hb), Nat.zero_le _⟩⟩ ?_
    rintro ⟨i, ⟨R, cR, ck⟩, ms, fs⟩ ⟨hi, hM⟩
    dsimp only at hi hM ⊢
    by_cases hlt : i < xs.length
    case neg =>
      unfold yE yH
      refine go_Hl ?_
      exact se_mid () (by exact has_) (by exact sub_) trivial
    refine sc_know (vw_form (L := yH t r g7 g8 g m ck R ms.length cR ms fs K) (hq.mono (by unfold yH; exact sub_)) (by omega)) ?_
    rintro ⟨gq, rfl⟩
    obtain ⟨x, hxi⟩ : ∃ x, xs[i]? = some x := ⟨_, List.getElem?_eq_getElem hlt⟩
    obtain ⟨hov, hoe, hkd, htm⟩ := hx x (List.mem_of_getElem? hxi)
    unfold yE yH
    refine go_Hl ?_
    refine sl_pu (pu_ldrs (hq.mono (by exact sub_)) (by omega) rfl (rows_mid Bc.len hxi) rfl rfl (by rw [Bc.len]; rfl)) rfl ?_
    refine sl_alloc rfl rfl rfl ?_; intro g13
    repeat refine su_Hl ?_
    refine sl_store_whole rfl (by exact pick_) rfl (by rw [Bc.len]; rfl) (by rw [Bc.len]; rfl) (Bc.one _) ?_
    refine sl_nil ?_
    refine se_seq ?_
    refine sc_env ((12, .int .i64 (i : Nat)) :: (13, .pointer (some ⟨g13, 0, none⟩)) :: yE g7 g8 g i xs.length cq (some gq) R ms.length cR) (by unfold yE; exact has_) ?_
    refine sc_sub (L' := blk g13 73 x.C :: yH t r g7 g8 g m ck R ms.length cR ms fs K) (by unfold yH; exact sub_) ?_
    refine pG (a := x) ht hrw hmx hmn hM rfl htm hov hoe hkd ?_ ?_ ?_ ?_
    · exact nop_
    · intro R' n' cR' ck' ms' fs' l L hM' hn' hl' hL'
      subst hn'
      refine se_envK hl' ?_
      refine se_subK hL' ?_
      unfold yE yH
      refine go_Hl ?_
      exact se_round (i + 1, (R', cR', ck'), ms', fs') (by exact has_) (by exact sub_) ⟨by show i + 1 ≤ xs.length; omega, hM'⟩ (by show xs.length - (i + 1) < xs.length - i; omega)
    · intro R' n' cR' ck' ms' fs' l L hM' hn' hl' hL'
      subst hn'
      refine se_envK hl' ?_
      refine se_subK hL' ?_
      unfold yE yH
      refine go_Hl ?_
      exact se_round (i + 1, (R', cR', ck'), ms', fs') (by exact has_) (by exact sub_) ⟨by show i + 1 ≤ xs.length; omega, hM'⟩ (by show xs.length - (i + 1) < xs.length - i; omega)
    · intro l L hl' hL'
      refine se_envK hl' ?_
      refine se_subK hL' ?_
      unfold yE yH
      refine go_Hl ?_
      exact se_mid () (by exact has_) (by exact sub_) trivial
  rintro _ -
  refine sc_seq ?_
  refine sq_region (by kernel_rfl) (by kernel_rfl) ?_
  repeat refine rq_Hl ?_
  refine WQ_call rfl rfl (by kernel_rfl) rfl (rules_ok (t := t) (r := r) (g := g) (m := m) (by exact at_)) ?_
  repeat refine rq_Hl ?_
  refine wq_pu (pu_eqr rfl rfl) rfl ?_
  repeat refine rq_Hl ?_
  refine sq_end ?_
  refine go_Hl ?_
  exact se_ret1 () trivial rfl rfl (by exact sub_)
end Go.Proofs.Ytdmeofobljjpfaa
/- BucketPlays' calls as they come in. (The openers of structs are printed by wip/tools/gen_open.py.) -/
namespace Go.Proofs.Ytdmeofobljjpfaa
open Go.RowKit Go.ChangeShapes Go.WideShapes Go.Deep
section
variable {H : Type} {enc : TypeId × Value → H} {w : World} {base : Nat} {spare : Nat → Bool} {held : Bool} {fuel : Nat} {cs : List Value} {x : DataW H × List MemPlace}
theorem list2v {cs : List Value} (h : cs.length = 2) : ∃ a b, cs = [a, b] := match cs, h with
  | [a, b], _ => ⟨a, b, rfl⟩
theorem open_el (h : DataW.trod enc Try.prog w base spare held fuel 65 cs = some x) : ∃ v : Int, cs = eC v ∧ El v := by
  obtain ⟨xs, m, _, _, hl, hx, hi⟩ := DataW.trod_array Try.underlying65 h
  have hl' : cs.length = 2 := hl.trans (by kernel_rfl)
  have hc : Try.prog.cellsOf 22 = 1 := by kernel_rfl
  have hone : ∀ i, i < 2 → ∃ z : Int, cs[i]? = some (.int .u64 z) ∧ 0 ≤ z ∧ z ≤ 18446744073709551615 := by
    intro i hin
    have h1 := hi i hin
    rw [hc, Nat.mul_one, List.getElem?_eq_getElem (by omega)] at h1
    obtain ⟨z, h2, _, h3⟩ := DataW.trod_int Try.underlying22 h1
    have h4 : 0 ≤ z ∧ z ≤ 18446744073709551615 := by simpa [Lit.wf, IntKind.min, IntKind.max, IntKind.signed, IntKind.bits] using h3
    refine ⟨z, ?_, h4⟩
    have h5 : ((cs.drop i).take 1)[0]? = some (.int .u64 z) := by rw [h2]; rfl
    simpa using h5
  obtain ⟨a, ha, ha2⟩ := hone 0 (by decide)
  obtain ⟨b, hb, hb2⟩ := hone 1 (by decide)
  obtain ⟨u1, u2, hcs⟩ : ∃ u1 u2, cs = [u1, u2] := by
    exact list2v hl'
  rw [hcs] at ha hb
  have e1 : u1 = .int .u64 a := by simpa using ha
  have e2 : u2 = .int .u64 b := by simpa using hb
  obtain ⟨v, hv, he⟩ := el_of (a := a) (b := b) (by unfold In64; omega) (by unfold In64; omega)
  exact ⟨v, by rw [hcs, e1, e2, ← he], hv⟩
def ElsV (w : World) (v : Value) : Prop := ∃ (A : Option Addr) (c : Nat) (l : List Int), v = .slice A l.length c ∧ Reads w 2 A l.length (rows eC l) ∧ Els l
theorem open_els1 (h : DataW.trod enc Try.prog w base spare held fuel 53 cs = some x) : ∃ v, cs = [v] ∧ ElsV w v := by
  obtain ⟨A, n, c, l, hcs, hl, hr, hk, hc, hm⟩ := open_rows (X := Int) 2 eC El Try.underlying53 (by kernel_rfl) (fun _ _ _ h => open_el h) h
  subst hl
  exact ⟨_, hcs, A, c, l, rfl, hr, fun v hv => (hk v hv).1⟩
theorem open_actc (h : DataW.trod enc Try.prog w base spare held fuel 73 cs = some x) : ∃ (z0 : Int) (z1 : Int) (z2 : Id) (z3 : Value) (z4 : Bool) (z5 : Bool), cs = [Value.int .u8 z0] ++ ([Value.int .u64 z1] ++ (bytes z2.l ++ ([z3] ++ ([Value.bool z4] ++ ([Value.bool z5] ++ []))))) ∧ (0 ≤ z0 ∧ z0 ≤ 255) ∧ (0 ≤ z1 ∧ z1 ≤ 18446744073709551615) ∧ (ElsV w z3) := by
  obtain ⟨hl, m, hf⟩ := open_struct Try.underlying73 h
  have hl' : cs.length = 21 := hl.trans (by kernel_rfl)
  have n0 : Try.prog.cellsOf 5 = 1 := by kernel_rfl
  have n1 : Try.prog.cellsOf 22 = 1 := by kernel_rfl
  have n2 : Try.prog.cellsOf 52 = 16 := by kernel_rfl
  have n3 : Try.prog.cellsOf 53 = 1 := by kernel_rfl
  have n4 : Try.prog.cellsOf 4 = 1 := by kernel_rfl
  have n5 : Try.prog.cellsOf 4 = 1 := by kernel_rfl
  obtain ⟨y0, e0⟩ := hf 0 _ rfl
  have f0 : DataW.trod enc Try.prog w base spare held m 5 ((cs.drop 0).take (Try.prog.cellsOf 5)) = some y0 := e0
  rw [n0] at f0
  obtain ⟨y1, e1⟩ := hf 1 _ rfl
  have f1 : DataW.trod enc Try.prog w base spare held m 22 ((cs.drop 1).take (Try.prog.cellsOf 22)) = some y1 := e1
  rw [n1] at f1
  obtain ⟨y2, e2⟩ := hf 2 _ rfl
  have f2 : DataW.trod enc Try.prog w base spare held m 52 ((cs.drop 2).take (Try.prog.cellsOf 52)) = some y2 := e2
  rw [n2] at f2
  obtain ⟨y3, e3⟩ := hf 3 _ rfl
  have f3 : DataW.trod enc Try.prog w base spare held m 53 ((cs.drop 18).take (Try.prog.cellsOf 53)) = some y3 := e3
  rw [n3] at f3
  obtain ⟨y4, e4⟩ := hf 4 _ rfl
  have f4 : DataW.trod enc Try.prog w base spare held m 4 ((cs.drop 19).take (Try.prog.cellsOf 4)) = some y4 := e4
  rw [n4] at f4
  obtain ⟨y5, e5⟩ := hf 5 _ rfl
  have f5 : DataW.trod enc Try.prog w base spare held m 4 ((cs.drop 20).take (Try.prog.cellsOf 4)) = some y5 := e5
  rw [n5] at f5
  obtain ⟨z0, g0, _, u0⟩ := DataW.trod_int Try.underlying5 f0
  have b0 : 0 ≤ z0 ∧ z0 ≤ 255 := by simpa [Lit.wf, IntKind.min, IntKind.max, IntKind.signed, IntKind.bits] using u0
  obtain ⟨z1, g1, _, u1⟩ := DataW.trod_int Try.underlying22 f1
  have b1 : 0 ≤ z1 ∧ z1 ≤ 18446744073709551615 := by simpa [Lit.wf, IntKind.min, IntKind.max, IntKind.signed, IntKind.bits] using u1
  obtain ⟨z2, g2⟩ := open_id f2
  obtain ⟨z3, g3, b3⟩ := open_els1 f3
  obtain ⟨z4, g4, _⟩ := DataW.trod_bool Try.underlying4 f4
  obtain ⟨z5, g5, _⟩ := DataW.trod_bool Try.underlying4 f5
  have hp : cs = (cs.drop 0).take 1 ++ ((cs.drop 1).take 1 ++ ((cs.drop 2).take 16 ++ ((cs.drop 18).take 1 ++ ((cs.drop 19).take 1 ++ ((cs.drop 20).take 1 ++ []))))) := by
    rw [← piece_end hl', ← piece 20 1 21 rfl, ← piece 19 1 20 rfl, ← piece 18 1 19 rfl, ← piece 2 16 18 rfl, ← piece 1 1 2 rfl, ← piece 0 1 1 rfl, List.drop_zero]
  rw [g0, g1, g2, g3, g4, g5] at hp
  exact ⟨z0, z1, z2, z3, z4, z5, hp, b0, b1, b3⟩
def Bc.ok (w : World) (a : Bc) : Prop := Reads w 2 a.A a.o.length (rows eC a.o) ∧ Els a.o ∧ (0 ≤ a.kd ∧ a.kd ≤ 255) ∧ (0 ≤ a.tm ∧ a.tm ≤ 18446744073709551615)
theorem Bc.C_eq (a : Bc) : a.C = [Value.int .u8 a.kd, .int .u64 a.tm] ++ (bytes a.id.l ++ [.slice a.A a.o.length a.c, .bool a.raw, .bool a.wr]) := by
  unfold Bc.C
  rfl
instance : Inhabited Bc := ⟨⟨0, 0, zId, none, 0, [], false, false⟩⟩
theorem open_bc (h : DataW.trod enc Try.prog w base spare held fuel 73 cs = some x) : ∃ a : Bc, cs = a.C ∧ a.ok w := by
  obtain ⟨z0, z1, z2, z3, z4, z5, hcs, b0, b1, A, c, l, rfl, r1, r2⟩ := open_actc h
  refine ⟨⟨z0, z1, z2, A, c, l, z4, z5⟩, ?_, r1, r2, b0, b1⟩
  rw [Bc.C_eq, hcs]
  simp
def BcsV (w : World) (v : Value) : Prop := ∃ (R : Option Addr) (c : Nat) (xs : List Bc), v = .slice R xs.length c ∧ Reads w 21 R xs.length (rows Bc.C xs) ∧ (∀ a ∈ xs, a.ok w) ∧ xs.length ≤ maxLen
theorem open_bcs {v : Value} (h : DataW.trod enc Try.prog w base spare held fuel 70 v.cells.toList = some x) (hv : ∃ A n c, v = .slice A n c) : BcsV w v := by
  obtain ⟨A0, n0, c0, rfl⟩ := hv
  obtain ⟨A, n, c, xs, hcs, hl, hr, hk, hc, hm⟩ := open_rows (X := Bc) 21 Bc.C (fun b => b.ok w) Try.underlying70 (by kernel_rfl) (fun _ _ _ h => open_bc h) h
  subst hl
  have hcs' : Value.slice A0 n0 c0 = .slice A xs.length c := by simpa [Value.cells] using hcs
  exact ⟨A, c, xs, hcs', hr, fun x hx => (hk x hx).1, by omega⟩
end
theorem Plays_v (v0 v1 v2 : Value) (W : World) (o0 : SkV W v0) (o1 : Sm19V W v1) (o2 : BcsV W v2) : Calls Try.prog 6 #[v0, v1, v2] W fun e w' => e = .returned (.bool true) ∧ Fr Nil W w' := by
  obtain ⟨s, rfl⟩ := o0
  obtain ⟨a, b, c, rfl, ha, hb, hc⟩ := o1
  obtain ⟨R, cq, xs, rfl, h1, h2, h3⟩ := o2
  exact Fn.top (plays_walk ha hb hc (Vw.of_old .here h1) h3 (fun x hx => ⟨Vw.of_old .here (h2 x hx).1, (h2 x hx).2⟩))
end Go.Proofs.Ytdmeofobljjpfaa
