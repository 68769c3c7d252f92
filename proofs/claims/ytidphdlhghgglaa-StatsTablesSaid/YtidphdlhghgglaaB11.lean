/- Several texts of one claim, one behind the other (Tb3, Tb4, Tb5). -/
import Derived.Test.YtidphdlhghgglaaB10
/- A table over facts: Rows, Column, Mean. -/
namespace Go.Proofs.Ytidphdlhghgglaa
open Go.RowKit
attribute [local irreducible] Go.Calls Go.Exit.then Go.Exit.inBlock Go.bodyPost Go.Code.wp Go.wpList
/-- The same row, wherever its numbers lie. -/
def TR.ab (r : TR) : Int × Int × List Nat := (r.s, r.m, r.l)
structure Rg where
  k : Nat
  A : Option Addr
  c : Nat
  us : List TR
  G : Fa
theorem rd_star {r : TR} {G w0 : Fa} (h : r.rd [G, w0]) (F : Fa) : r.rd [star [F, G], w0] := fun w hw => h w ((star_out (G := [F, G]) (K := [w0]) w hw).sub (.skip .refl))
theorem rd_new {r : TR} {G w0 : Fa} {d : Nat} : TR.rd r [star [own 24 1 r.A r.l.length d (r.l.map fl), G], w0] := fun w hw => Reads.of_own (by
  have h1 := (star_out (G := [own 24 1 r.A r.l.length d (r.l.map fl), G]) (K := [w0]) w hw).hd
  unfold own at h1
  exact h1)
theorem nth_Tb3 {φ : Prop} (h : φ := by (first | rfl | first | assumption | exact rows_nth TR.len (by assumption) rfl)) : φ := h
theorem mid_Tb3 {φ : Prop} (h : φ := by (first | first | exact rows_mid TR.len (by assumption) | exact Mid.all | exact Mid.head)) : φ := h
theorem sz_Tb3 {φ : Prop} (h : φ := by (first | rfl | (rfl; first | done | fail))) : φ := h
theorem one_Tb3 {φ : Prop} (h : φ := by (first | assumption | exact first | exact one_bytes _ | exact TR.one _ | exact row_one | (simp only [List.mem_cons, List.not_mem_nil, or_false, forall_eq_or_imp, forall_eq]; decide) | exact one_bytes _)) : φ := h
theorem set_Tb3 {φ : Prop} (h : φ := by (first | (fail) | ((repeat (first | exact SetAt.here | apply SetAt.there)); first | done | fail))) : φ := h
theorem cl_Tb3 {φ : Prop} (h : φ := by first | rfl | exact .t | exact .f | exact .t (by omega) | exact .f (by omega) | exact .u | exact .i (by (first | exact .t (by omega) | exact .f (by omega) | exact .u | exact .i (by omega) | exact .v (by omega) | exact .b (by omega) | exact .w | rfl | omega)) | exact .v (by omega) | exact .b (by omega) | exact .q (by omega) | exact .w | exact .b (by exact at_) rfl (by exact nth_Tb3) | exact .w (by exact at_) rfl rfl (by exact sz_Tb3) | exact .s (by exact at_) (by exact mid_Tb3) rfl rfl (by exact sz_Tb3) | exact .z rfl rfl ⟨by kernel_rfl⟩ | exact .b rfl rfl ⟨by kernel_rfl⟩ | exact .a rfl rfl ⟨by kernel_rfl⟩ | exact .o rfl | exact .s | exact .n | exact .p rfl | exact .q rfl | exact .c rfl | exact .d rfl | exact .n rfl rfl (by omega) | exact .a rfl rfl (by omega) | exact .p rfl rfl (by omega) (by omega) | exact .y rfl rfl (by omega) (by omega) | exact .o (by exact at_) (by omega) rfl (by exact nth_Tb3) | exact .m (by exact at_) (by omega) (by exact mid_Tb3) rfl rfl (by exact sz_Tb3) | exact .mlen (by exact at_) rfl | exact .t (by exact at_) rfl rfl (by first | exact True.intro | rfl) (by assumption) | exact .f (by exact at_) rfl rfl (by first | exact True.intro | rfl) (by assumption) rfl | exact .t1 (by exact at_) rfl rfl (by first | exact True.intro | rfl) (by assumption) | exact .f1 (by exact at_) rfl rfl (by first | exact True.intro | rfl) (by assumption) rfl | exact .r rfl rfl (by omega) (by omega) (by exact nth_Tb3) rfl | exact .s rfl (by omega) (by assumption) | exact at_ | assumption | exact .r rfl rfl | exact .h rfl rfl rfl (by omega) | exact .l rfl rfl rfl (by omega) (by omega) | exact .g rfl rfl rfl rfl (by omega) (by omega) | exact .h rfl rfl (toN_ (by omega)) (by omega) | exact .l rfl rfl (toN_ (by omega)) (by omega) (by omega) | exact .g rfl rfl (toN_ (by omega)) (toN_ (by omega)) (by omega) (by omega) | exact .o (by decide) | exact .f (by decide) | exact .n (by omega) (by first | decide | (show _ ≤ ((64 : Nat) : Int); omega)) | (constructor; (repeat (first | exact .t (by omega) | exact .f (by omega) | exact .u | exact .i (by omega) | exact .v (by omega) | exact .b (by omega) | exact .w | rfl | omega)); first | done | fail) | omega | (show _ ≤ ((64 : Nat) : Int); omega)) : φ := h
theorem pv_Tb3 {φ : Prop} (h : φ := by constructor; (repeat exact cl_Tb3); first | done | fail) : φ := h
theorem su_Tb3 {φ ψ : Prop} (k : ψ) (h : Hide ψ → φ := by (intro k; (first | refine sl_pu (PuI.sep (by exact pv_Tb3)) rfl ?_ | refine sl_yes rfl rfl ?_ | refine sl_no rfl rfl rfl ?_ | refine sl_off rfl rfl rfl ?_ | (first | refine sl_pu (pu_ldo (by exact at_) (by omega) rfl (at2 _ _ _) rfl (by exact nth_Tb3)) rfl ?_ | refine sl_pu (pu_ldo (by exact at_) (by omega) rfl (at1 _ _) rfl (by exact nth_Tb3)) rfl ?_ | refine sl_pu (pu_ldo (by exact at_) (by omega) rfl rfl rfl (by exact nth_Tb3)) rfl ?_)); exact k.out)) : φ := h ⟨k⟩
theorem rq_Tb3 {φ ψ : Prop} (k : ψ) (h : Hide ψ → φ := by (intro k; (first | refine wq_pu (PuI.sep (by exact pv_Tb3)) rfl ?_ | refine wq_yes rfl rfl ?_ | refine wq_no rfl rfl rfl ?_ | refine wq_off rfl rfl rfl ?_ | (first | refine wq_pu (pu_ldo (by exact at_) (by omega) rfl (at2 _ _ _) rfl (by exact nth_Tb3)) rfl ?_ | refine wq_pu (pu_ldo (by exact at_) (by omega) rfl (at1 _ _) rfl (by exact nth_Tb3)) rfl ?_ | refine wq_pu (pu_ldo (by exact at_) (by omega) rfl rfl rfl (by exact nth_Tb3)) rfl ?_)); exact k.out)) : φ := h ⟨k⟩
theorem sto_Tb3 {φ ψ : Prop} (k : ψ) (h : Hide ψ → φ := by (intro k; (first | refine sl_store rfl (by exact pick_) rfl rfl (by kernel_rfl) (by exact set_Tb3) ?_ | refine sl_store_whole rfl (by exact pick_) rfl (by exact sz_Tb3) (by exact sz_Tb3) (by exact one_Tb3) ?_); exact k.out)) : φ := h ⟨k⟩
theorem go_Tb3 {φ ψ : Prop} (k : ψ) (h : Hide ψ → φ := by (intro k; (repeat (first | refine su_Tb3 ?_ | refine so_ ?_ | refine sto_Tb3 ?_)); exact k.out)) : φ := h ⟨k⟩
set_option maxRecDepth 100000 in
set_option maxHeartbeats 4000000 in
theorem rowsT_ok {K : List Fa} {g n c : Nat} {R : Option Addr} {ts : List TR} {w0 : World} (hT : At (tB g R n c) K) (hO : At (tO R n c ts) K) (hn : n = ts.length) (hle : ts.length ≤ 32) (hl : ∀ r ∈ ts, r.l.length ≤ 64) (hrd : ∀ r ∈ ts, r.rd K) (hold : At (old w0) K) :
    Fn Try.prog 20 #[.pointer (some ⟨g, 0, none⟩)] K (Ret (fun q : Rg => q.us.map TR.ab = ts.map TR.ab ∧ ∀ r ∈ q.us, r.rd [q.G, old w0]) (fun q => .slice q.A n q.c) (fun q => own 52 3 q.A n q.c (rows TR.C q.us) :: q.G :: K)) := by
  subst hn
  refine fn_enter Try.func20 rfl _ Try.ntmps20 (by simp) [(0, .pointer (some ⟨g, 0, none⟩))] (args_of (by simp)) ?_
  refine go_Tb3 ?_
  refine sc_for (fun q : Rg => [(3, .slice q.A q.k q.c), (11, .slice R ts.length c), (12, .int .i64 ts.length), (13, .int .i64 q.k)]) (fun q => own 52 3 q.A q.k q.c (rows TR.C q.us) :: q.G :: K) (fun q => q.k ≤ ts.length ∧ q.us.map TR.ab = (ts.take q.k).map TR.ab ∧ ∀ r ∈ q.us, r.rd [q.G, old w0]) (fun q => ts.length - q.k) ⟨0, none, 0, [], star []⟩ (by exact has_) (Sub.own_nil (.free (fun w => by unfold star; exact (Sep.start w).sub Sub.nil) (fun j hj => by unfold star at hj; exact foot_nil hj) .refl)) ⟨Nat.zero_le _, rfl, fun _ h => by cases h⟩ ?_
  rintro ⟨k, A, d, us, G⟩ ⟨hk, hab, hus⟩
  dsimp only at hk hab hus ⊢
  by_cases hlt : k < ts.length
  · obtain ⟨r, hr⟩ : ∃ r, ts[k]? = some r := ⟨_, List.getElem?_eq_getElem hlt⟩
    have hrm := List.mem_of_getElem? hr
    have hrl := hl r hrm
    refine sc_form (e := 52) (size := 3) (A := R) (m := ts.length) (by exact at_) (by omega) ?_
    rintro gR rfl
    refine go_Tb3 ?_
    refine sl_alloc rfl rfl rfl ?_; intro g5
    refine go_Tb3 ?_
    refine sl_call rfl rfl (by kernel_rfl) rfl Sub.refl (clonef_ok ((hrd r hrm).mono (by exact sub_)) (fls_one _) (by omega)) ?_
    rintro ⟨B, e⟩ -
    dsimp only
    refine go_Tb3 ?_
    refine sl_build (size := 3) (e := 52) (cells := TR.C ⟨r.s, r.m, B, e, r.l⟩) rfl (fun W => by kernel_rfl) rfl (by decide) rfl ?_
    intro gb
    refine sl_app (A := A) (k := k) (c := d) (xs := rows TR.C us) rfl (by exact pick_) rfl (Vw.of_own (e := 52) (A := some ⟨gb, 0, none⟩) (c := 1) (by exact at_)) (TR.one _) rfl infoTR (by decide) (by decide) rfl (by unfold maxLen; omega) (by omega) ?_
    intro A2 d2
    rw [← rows_one (C := TR.C) (⟨r.s, r.m, B, e, r.l⟩ : TR), ← rows_app]
    refine go_Tb3 ?_
    refine se_ent (L' := star [own 24 1 B r.l.length e (r.l.map fl), G] :: own 52 3 A2 (k + 1) d2 (rows TR.C (us ++ [⟨r.s, r.m, B, e, r.l⟩])) :: K) (fun w hw => star2 w (hw.sub (by exact sub_))) ?_
    refine se_round ⟨k + 1, A2, d2, us ++ [⟨r.s, r.m, B, e, r.l⟩], star [own 24 1 B r.l.length e (r.l.map fl), G]⟩ (by exact has_) (by exact sub_) ⟨hlt, ?_, fun q hq => ?_⟩ (by show ts.length - (k + 1) < ts.length - k; omega)
    · show (us ++ [_]).map TR.ab = (ts.take (k + 1)).map TR.ab
      obtain ⟨h1, rfl⟩ := List.getElem?_eq_some_iff.1 hr
      rw [List.map_append, hab, List.take_succ_eq_append_getElem h1, List.map_append]
      rfl
    · rcases List.mem_append.1 hq with h | h
      · exact rd_star (hus q h) _
      · rw [List.mem_singleton] at h
        subst h
        exact rd_new
  · obtain rfl : k = ts.length := by omega
    rw [List.take_length] at hab
    refine go_Tb3 ?_
    exact se_ret1 (⟨ts.length, A, d, us, G⟩ : Rg) ⟨hab, hus⟩ rfl rfl (by exact sub_)
set_option maxRecDepth 100000 in
set_option maxHeartbeats 4000000 in
theorem colT_no {K : List Fa} {g n c : Nat} {R : Option Addr} {ts : List TR} {i : Int} (hT : At (tB g R n c) K) (hO : At (tO R n c ts) K) (hn : n = ts.length) (hi : i < 0 ∨ ts = [] ∨ ∃ q, ts[0]? = some q ∧ (q.l.length : Int) ≤ i) (hle : ts.length ≤ 32) :
    Fn Try.prog 21 #[.pointer (some ⟨g, 0, none⟩), .int .i64 i] K (Ret (fun _ : Unit => True) (fun _ => .tuple #[.slice none 0 0, .bool false]) (fun _ => K)) := by
  subst hn
  refine fn_enter Try.func21 rfl _ Try.ntmps21 (by simp) [(0, .pointer (some ⟨g, 0, none⟩)), (1, .int .i64 i)] (args_of (by simp)) ?_
  by_cases h0 : i < 0
  · refine go_Tb3 ?_
    exact se_ret2 () trivial rfl rfl rfl rfl (by exact sub_)
  by_cases hz : ts.length = 0
  · rw [hz] at hT hO
    refine go_Tb3 ?_
    exact se_ret2 () trivial rfl rfl rfl rfl (by exact sub_)
  obtain ⟨q, hq, hqi⟩ : ∃ q, ts[0]? = some q ∧ (q.l.length : Int) ≤ i := by
    rcases hi with h | h | h
    · exact absurd h h0
    · rw [h] at hz
      exact absurd rfl hz
    · exact h
  have hnx : nth (rows TR.C ts) 2 = some (.slice q.A q.l.length q.c) := rows_nth (i := 0) (j := 2) TR.len hq rfl
  refine sc_form (e := 52) (size := 3) (A := R) (m := ts.length) (by exact at_) (by omega) ?_
  rintro gR rfl
  refine go_Tb3 ?_
  exact se_ret2 () trivial rfl rfl rfl rfl (by exact sub_)
/-- A column. -/
def colV (ts : List TR) (i : Nat) : List Nat := ts.map (fun r => r.l.getD i 0)
set_option maxRecDepth 100000 in
set_option maxHeartbeats 4000000 in
theorem colT_ok {K : List Fa} {g n c i : Nat} {R : Option Addr} {ts : List TR} (hT : At (tB g R n c) K) (hO : At (tO R n c ts) K) (hn : n = ts.length) (hi : ∀ r ∈ ts, i < r.l.length) (hl : ∀ r ∈ ts, r.l.length ≤ 64) (hne : 0 < ts.length) (hle : ts.length ≤ 32) (hrd : ∀ r ∈ ts, r.rd K) :
    Fn Try.prog 21 #[.pointer (some ⟨g, 0, none⟩), .int .i64 i] K (Ret (fun _ : Option Addr × Nat => True) (fun q => .tuple #[.slice q.1 n q.2, .bool true]) (fun q => own 24 1 q.1 n q.2 ((colV ts i).map fl) :: K)) := by
  subst hn
  refine fn_enter Try.func21 rfl _ Try.ntmps21 (by simp) [(0, .pointer (some ⟨g, 0, none⟩)), (1, .int .i64 i)] (args_of (by simp)) ?_
  obtain ⟨q, hq⟩ : ∃ q, ts[0]? = some q := ⟨_, List.getElem?_eq_getElem hne⟩
  have hqi := hi q (List.mem_of_getElem? hq)
  have hql := hl q (List.mem_of_getElem? hq)
  have hnx : nth (rows TR.C ts) 2 = some (.slice q.A q.l.length q.c) := rows_nth (i := 0) (j := 2) TR.len hq rfl
  refine sc_form (e := 52) (size := 3) (A := R) (m := ts.length) (by exact at_) (by omega) ?_
  rintro gR rfl
  refine go_Tb3 ?_
  clear hnx hqi hql hq
  refine sc_for (fun p : Sg => [(1, .int .i64 i), (6, .slice p.A p.j p.c), (38, .slice (some ⟨gR, 0, none⟩) ts.length c), (39, .int .i64 ts.length), (40, .int .i64 p.j)]) (fun p => own 24 1 p.A p.j p.c ((colV (ts.take p.j) i).map fl) :: K) (fun p => p.j ≤ ts.length) (fun p => ts.length - p.j) ⟨0, none, 0⟩ (by exact has_) (Sub.own_nil Sub.refl) (Nat.zero_le _) ?_
  rintro ⟨k, A, d⟩ hk
  dsimp only at hk ⊢
  by_cases hlt : k < ts.length
  · obtain ⟨r, hr⟩ : ∃ r, ts[k]? = some r := ⟨_, List.getElem?_eq_getElem hlt⟩
    have hrm := List.mem_of_getElem? hr
    have hri := hi r hrm
    have hrl := hl r hrm
    have hnv : nth (r.l.map fl) (i * 1) = some (.float .f64 (r.l.getD i 0)) := by
      rw [nth_eq, Nat.mul_one]
      simp [fl, List.getD, hri]
    have hrv : ∀ L : List Fa, Sub L K → Vw L (fun w => Reads w 1 r.A r.l.length (r.l.map fl)) := fun L hL => (hrd r hrm).mono hL
    refine sc_know (vw_form (L := own 24 1 A k d ((colV (ts.take k) i).map fl) :: K) (hrv _ (by exact sub_)) (by omega)) ?_
    rintro ⟨ad, had⟩
    rw [had] at hrv
    refine go_Tb3 ?_
    refine sl_alloc rfl rfl rfl ?_; intro g8
    refine go_Tb3 ?_
    rw [had]
    refine go_Tb3 ?_
    refine sl_pu (pu_ldr (hrv _ (by exact sub_)) (by omega) rfl rfl hnv) rfl ?_
    refine sl_build (size := 1) (e := 24) (cells := [Value.float .f64 (r.l.getD i 0)]) rfl (fun W => by kernel_rfl) rfl (by decide) rfl ?_
    intro gb
    refine sl_app (A := A) (k := k) (c := d) rfl (by exact pick_) rfl (Vw.of_own (e := 24) (A := some ⟨gb, 0, none⟩) (c := 1) (by exact at_)) fl_one rfl infoF64 (by decide) (by decide) rfl (by unfold maxLen; omega) (by omega) ?_
    intro A2 d2
    rw [show (colV (ts.take k) i).map fl ++ [Value.float .f64 (r.l.getD i 0)] = (colV (ts.take (k + 1)) i).map fl by
      obtain ⟨h1, rfl⟩ := List.getElem?_eq_some_iff.1 hr
      rw [List.take_succ_eq_append_getElem h1, colV, colV, List.map_append, List.map_append]
      rfl]
    refine go_Tb3 ?_
    exact se_round ⟨k + 1, A2, d2⟩ (by exact has_) (by exact sub_) hlt (by show ts.length - (k + 1) < ts.length - k; omega)
  · obtain rfl : k = ts.length := by omega
    rw [List.take_length]
    refine go_Tb3 ?_
    exact se_ret2 (A, d) trivial rfl rfl rfl rfl (by exact sub_)
/-- What a sum of parts may be. -/
inductive SumR : List (Nat × Int) → Nat → Prop
  | nil : SumR [] 0
  | snoc {l : List (Nat × Int)} {v r p r' : Nat} {m : Int} (h : SumR l r) (h1 : FOp .mul v (floatOfInt .f64 m) p) (h2 : FOp .add r p r') : SumR (l ++ [(v, m)]) r'
theorem SumR.lt {l : List (Nat × Int)} {r : Nat} (h : SumR l r) : r < 18446744073709551616 := by
  cases h with
  | nil => decide
  | snoc _ _ h2 => exact h2.1
theorem SumR.jst {l : List (Nat × Int)} {r : Nat} (h : SumR l r) : ∀ {r' : Nat}, SumR l r' → Jst r r' := by
  induction h with
  | nil =>
    intro r' h'
    generalize hl : ([] : List (Nat × Int)) = l at h'
    cases h' with
    | nil => exact Jst.refl _
    | snoc => simp at hl
  | snoc h h1 h2 ih =>
    intro r' h'
    rename_i l v r p r1 m
    generalize hl : l ++ [(v, m)] = l' at h'
    cases h' with
    | nil => simp at hl
    | snoc g g1 g2 =>
      obtain ⟨e1, e2⟩ := List.append_inj' hl rfl
      subst e1
      injection e2 with e2
      injection e2 with e3 e4
      subst e3 e4
      exact FOp.jst (.inl rfl) (ih g) (FOp.jst (.inr (.inl rfl)) (Jst.refl _) (Jst.refl _) h1 g1) h2 g2
def sumL (ts : List TR) (i : Nat) : List (Nat × Int) := ts.map (fun r => (r.l.getD i 0, r.m))
def manyL (ts : List TR) : Int := (ts.map (·.m)).sum
theorem many_take {ts : List TR} {k : Nat} {r : TR} (h : ts[k]? = some r) : manyL (ts.take (k + 1)) = manyL (ts.take k) + r.m := by
  obtain ⟨h1, rfl⟩ := List.getElem?_eq_some_iff.1 h
  rw [List.take_succ_eq_append_getElem h1, manyL, manyL, List.map_append, List.sum_append]
  simp
theorem sum_take {ts : List TR} {k i : Nat} {r : TR} (h : ts[k]? = some r) : sumL (ts.take (k + 1)) i = sumL (ts.take k) i ++ [(r.l.getD i 0, r.m)] := by
  obtain ⟨h1, rfl⟩ := List.getElem?_eq_some_iff.1 h
  rw [List.take_succ_eq_append_getElem h1, sumL, sumL, List.map_append]
  rfl
theorem many_bound {ts : List TR} (hm : ∀ r ∈ ts, 1 ≤ r.m ∧ r.m ≤ 256) : ∀ k, 0 ≤ manyL (ts.take k) ∧ manyL (ts.take k) ≤ 256 * k
  | 0 => by simp [manyL]
  | k + 1 => by
    have ih := many_bound hm k
    by_cases h : k < ts.length
    · have hr : ts[k]? = some ts[k] := List.getElem?_eq_getElem h
      have := many_take hr
      have := hm _ (List.getElem_mem h)
      omega
    · rw [List.take_of_length_le (by omega)] at ih ⊢
      omega
structure Mg where
  k : Nat
  x : Nat
set_option maxRecDepth 100000 in
set_option maxHeartbeats 4000000 in
theorem meanT_no {K : List Fa} {g n c : Nat} {R : Option Addr} {ts : List TR} {i : Int} (hT : At (tB g R n c) K) (hO : At (tO R n c ts) K) (hn : n = ts.length) (hi : i < 0 ∨ ts = [] ∨ ∃ q, ts[0]? = some q ∧ (q.l.length : Int) ≤ i) (hle : ts.length ≤ 32) :
    Fn Try.prog 22 #[.pointer (some ⟨g, 0, none⟩), .int .i64 i] K (Ret (fun _ : Unit => True) (fun _ => .tuple #[.float .f64 0, .int .i64 6]) (fun _ => K)) := by
  refine fn_enter Try.func22 rfl _ Try.ntmps22 (by simp) [(0, .pointer (some ⟨g, 0, none⟩)), (1, .int .i64 i)] (args_of (by simp)) ?_
  refine go_Tb3 ?_
  refine sl_call rfl rfl (by kernel_rfl) rfl Sub.refl (colT_no hT hO hn hi hle) ?_
  rintro _ -
  refine go_Tb3 ?_
  exact se_ret2 () trivial rfl rfl rfl rfl (by exact sub_)
set_option maxRecDepth 100000 in
set_option maxHeartbeats 4000000 in
theorem meanT_ok {K : List Fa} {g n c i : Nat} {R : Option Addr} {ts : List TR} (hT : At (tB g R n c) K) (hO : At (tO R n c ts) K) (hn : n = ts.length) (hi : ∀ r ∈ ts, i < r.l.length) (hl : ∀ r ∈ ts, r.l.length ≤ 64) (hm : ∀ r ∈ ts, 1 ≤ r.m ∧ r.m ≤ 256) (hne : 0 < ts.length) (hle : ts.length ≤ 32) (hrd : ∀ r ∈ ts, r.rd K) :
    Fn Try.prog 22 #[.pointer (some ⟨g, 0, none⟩), .int .i64 i] K (Ret (fun x : Nat => ∃ s, SumR (sumL ts i) s ∧ FOp .quo s (floatOfInt .f64 (manyL ts)) x) (fun x => .tuple #[.float .f64 x, .int .i64 0]) (fun _ => K)) := by
  refine fn_enter Try.func22 rfl _ Try.ntmps22 (by simp) [(0, .pointer (some ⟨g, 0, none⟩)), (1, .int .i64 i)] (args_of (by simp)) ?_
  refine go_Tb3 ?_
  refine sl_call rfl rfl (by kernel_rfl) rfl Sub.refl (colT_ok hT hO hn hi hl hne hle hrd) ?_
  rintro ⟨A, d⟩ -
  dsimp only
  subst hn
  refine go_Tb3 ?_
  refine sc_for (fun p : Mg => [(0, .pointer (some ⟨g, 0, none⟩)), (8, .float .f64 p.x), (9, .int .i64 (manyL (ts.take p.k))), (22, .slice A ts.length d), (23, .int .i64 ts.length), (24, .int .i64 p.k)]) (fun _ => own 24 1 A ts.length d ((colV ts i).map fl) :: K) (fun p => p.k ≤ ts.length ∧ SumR (sumL (ts.take p.k) i) p.x) (fun p => ts.length - p.k) ⟨0, 0⟩ (by exact has_) (by exact sub_) ⟨Nat.zero_le _, .nil⟩ ?_
  rintro ⟨k, x⟩ ⟨hk, hs⟩
  dsimp only at hk hs ⊢
  by_cases hlt : k < ts.length
  · obtain ⟨r, hr⟩ : ∃ r, ts[k]? = some r := ⟨_, List.getElem?_eq_getElem hlt⟩
    have hrm := hm r (List.mem_of_getElem? hr)
    have hb := many_bound hm k
    have hnv : nth ((colV ts i).map fl) (k * 1) = some (.float .f64 (r.l.getD i 0)) := by
      rw [nth_eq, Nat.mul_one]
      simp [colV, fl, hr]
    refine sc_form (e := 52) (size := 3) (A := R) (m := ts.length) (by exact at_) (by omega) ?_
    rintro gR rfl
    refine sc_form (e := 24) (size := 1) (A := A) (m := ts.length) (by exact at_) (by omega) ?_
    rintro gA rfl
    refine go_Tb3 ?_
    refine sl_pu (pu_i2f rfl rfl rfl) rfl ?_
    refine sl_fop (.inr (.inl rfl)) rfl rfl rfl (fun p hp => ?_)
    refine go_Tb3 ?_
    refine sl_fop (.inl rfl) rfl rfl rfl (fun y hy => ?_)
    refine go_Tb3 ?_
    rw [← many_take hr]
    refine go_Tb3 ?_
    exact se_round ⟨k + 1, y⟩ (by exact has_) (by exact sub_) ⟨hlt, by show SumR (sumL (ts.take (k + 1)) i) y; rw [sum_take hr]; exact .snoc hs hp hy⟩ (by show ts.length - (k + 1) < ts.length - k; omega)
  · obtain rfl : k = ts.length := by omega
    rw [List.take_length] at hs ⊢
    refine go_Tb3 ?_
    refine sl_pu (pu_i2f rfl rfl rfl) rfl ?_
    refine sl_fop (.inr (.inr rfl)) rfl rfl rfl (fun y hy => ?_)
    refine go_Tb3 ?_
    exact se_ret2 y ⟨x, hs, hy⟩ rfl rfl rfl rfl (by exact sub_)
end Go.Proofs.Ytidphdlhghgglaa
/- A table, and rows as the law keeps them. Plain. -/
namespace Go.Proofs.Ytidphdlhghgglaa
open Go.RowKit
structure TOk (w : World) (G : Fa) (ts ms : List TR) : Prop where
  ab : ts.map TR.ab = ms.map TR.ab
  tv : ∀ r ∈ ts, r.rd [G, old w]
  mv : ∀ r ∈ ms, r.rd [G, old w]
  m : ∀ r ∈ ms, 1 ≤ r.m ∧ r.m ≤ 256
  l : ∀ r ∈ ms, r.l.length ≤ 64
  b : ∀ r ∈ ms, ∀ x ∈ r.l, x < 18446744073709551616
  q : ∀ r ∈ ms, ∀ s ∈ ms, r.l.length = s.l.length
  s : ms.Pairwise (fun a b => a.s < b.s)
  n : ms.length ≤ 32
section
variable {w : World} {G : Fa} {ts ms : List TR}
theorem TOk.nil : TOk w G [] [] := ⟨rfl, (fun _ h => by cases h), (fun _ h => by cases h), (fun _ h => by cases h), (fun _ h => by cases h), (fun _ h => by cases h), (fun _ h => by cases h), List.Pairwise.nil, by decide⟩
theorem TOk.len (h : TOk w G ts ms) : ts.length = ms.length := by simpa using congrArg List.length h.ab
theorem ab_get {ts ms : List TR} (h : ts.map TR.ab = ms.map TR.ab) {k : Nat} {q : TR} (hk : ts[k]? = some q) : ∃ r, ms[k]? = some r ∧ r.s = q.s ∧ r.m = q.m ∧ r.l = q.l := by
  have h1 := congrArg (fun l => l[k]?) h
  simp only [List.getElem?_map, hk, Option.map_some] at h1
  obtain ⟨r, hr, he⟩ := Option.map_eq_some_iff.1 h1.symm
  unfold TR.ab at he
  injection he with e1 e2
  injection e2 with e2 e3
  exact ⟨r, hr, e1, e2, e3⟩
theorem TOk.tl (h : TOk w G ts ms) : ∀ r ∈ ts, r.l.length ≤ 64 := fun r hr => by
  obtain ⟨k, hk⟩ := List.getElem?_of_mem hr
  obtain ⟨q, hq, -, -, e⟩ := ab_get h.ab hk
  rw [← e]
  exact h.l q (List.mem_of_getElem? hq)
theorem TOk.tm (h : TOk w G ts ms) : ∀ r ∈ ts, 1 ≤ r.m ∧ r.m ≤ 256 := fun r hr => by
  obtain ⟨k, hk⟩ := List.getElem?_of_mem hr
  obtain ⟨q, hq, -, e, -⟩ := ab_get h.ab hk
  rw [← e]
  exact h.m q (List.mem_of_getElem? hq)
theorem neq0_ab {ts ms : List TR} (h : ts.map TR.ab = ms.map TR.ab) (k : Nat) : neq0 ts k = neq0 ms k := by
  cases hq : ts[0]? with
  | none =>
    have h1 := congrArg (fun l => l[0]?) h
    simp only [List.getElem?_map, hq, Option.map_none] at h1
    have h2 : ms[0]? = none := Option.map_eq_none_iff.1 h1.symm
    unfold neq0
    rw [hq, h2]
  | some q =>
    obtain ⟨r, hr, -, -, e⟩ := ab_get h hq
    rw [neq0_eq hq, neq0_eq hr, e]
theorem TOk.addW (h : TOk w G ts ms) (m : Int) (k : Nat) : addW ts m k = Go.Proofs.Ytidphdlhghgglaa.addW ms m k := by
  unfold Go.Proofs.Ytidphdlhghgglaa.addW
  rw [h.len, neq0_ab h.ab]
/-- Where a row would stand. -/
theorem pos_ex : ∀ {ms : List TR} {s : Int}, ms.Pairwise (fun a b => a.s < b.s) → ∃ p, p ≤ ms.length ∧ (∀ k q, k < p → ms[k]? = some q → q.s < s) ∧ (∀ k q, p ≤ k → ms[k]? = some q → s ≤ q.s)
  | [], s, _ => ⟨0, Nat.le_refl _, fun k q h => absurd h (Nat.not_lt_zero _), fun k q _ h => by simp at h⟩
  | a :: r, s, h => by
    rw [List.pairwise_cons] at h
    by_cases ha : a.s < s
    · obtain ⟨p, h1, h2, h3⟩ := pos_ex (s := s) h.2
      refine ⟨p + 1, by simpa using h1, fun k q hk hq => ?_, fun k q hk hq => ?_⟩
      · cases k with
        | zero =>
          obtain rfl : a = q := by simpa using hq
          exact ha
        | succ k => exact h2 k q (by omega) (by simpa using hq)
      · cases k with
        | zero => omega
        | succ k => exact h3 k q (by omega) (by simpa using hq)
    · refine ⟨0, Nat.zero_le _, fun k q hk => absurd hk (Nat.not_lt_zero _), fun k q _ hq => ?_⟩
      cases k with
      | zero =>
        obtain rfl : a = q := by simpa using hq
        omega
      | succ k =>
        have := h.1 q (List.mem_of_getElem? (by simpa using hq))
        omega
/-- Is there a row of that beginning? -/
def hasR (ms : List TR) (s : Int) : Bool := ms.any (fun q => q.s == s)
theorem has_take {ms : List TR} {k : Nat} {q : TR} {s : Int} (h : ms[k]? = some q) : hasR (ms.take (k + 1)) s = (hasR (ms.take k) s || (q.s == s)) := by
  obtain ⟨h1, rfl⟩ := List.getElem?_eq_some_iff.1 h
  rw [List.take_succ_eq_append_getElem h1, hasR, hasR, List.any_append]
  simp
theorem has_no {ms : List TR} {s : Int} (h : hasR ms s = false) : ∀ q ∈ ms, q.s ≠ s := fun q hq e => by
  unfold hasR at h
  rw [List.any_eq_false] at h
  exact h q hq (by simpa using e)
theorem has_yes {ms : List TR} {s : Int} (h : hasR ms s = true) : ∃ q ∈ ms, q.s = s := by
  unfold hasR at h
  rw [List.any_eq_true] at h
  obtain ⟨q, hq, e⟩ := h
  exact ⟨q, hq, by simpa using e⟩
theorem TOk.ins (h : TOk w G ts ms) {G' : Fa} {r : TR} {B : Option Addr} {d p : Nat} (hG : Ent_ [G', old w] [G, old w]) (hrd : r.rd [G', old w]) (hB : (TR.mk r.s r.m B d r.l).rd [G', old w]) (hb : ∀ x ∈ r.l, x < 18446744073709551616) (hw : Go.Proofs.Ytidphdlhghgglaa.addW ms r.m r.l.length = 0) (hp : p ≤ ms.length) (h1 : ∀ k q, k < p → ms[k]? = some q → q.s < r.s) (h2 : ∀ k q, p ≤ k → ms[k]? = some q → r.s < q.s) :
    TOk w G' (ts.take p ++ ⟨r.s, r.m, B, d, r.l⟩ :: ts.drop p) (ms.take p ++ r :: ms.drop p) := by
  obtain ⟨z1, z2, z3⟩ := addW_zero hw
  have hmem : ∀ {l : List TR} {x q : TR}, q ∈ l.take p ++ x :: l.drop p → q ∈ l ∨ q = x := fun {l x q} hq => by
    rcases List.mem_append.1 hq with e | e
    · exact .inl (List.mem_of_mem_take e)
    · rcases List.mem_cons.1 e with e | e
      · exact .inr e
      · exact .inl (List.mem_of_mem_drop e)
  have heq : ∀ q ∈ ms, q.l.length = r.l.length := fun q hq => by
    cases hz : ms[0]? with
    | none =>
      have : ms.length = 0 := by
        have := List.getElem?_eq_none_iff.1 hz
        omega
      obtain rfl := List.eq_nil_of_length_eq_zero this
      cases hq
    | some q0 =>
      rw [neq0_eq hz] at z3
      have e1 := of_decide_eq_false z3
      have e2 := h.q q hq q0 (List.mem_of_getElem? hz)
      omega
  refine ⟨?_, fun q hq => ?_, fun q hq => ?_, fun q hq => ?_, fun q hq => ?_, fun q hq => ?_, fun q hq u hu => ?_, ?_, ?_⟩
  · rw [List.map_append, List.map_append, List.map_cons, List.map_cons, List.map_take, List.map_drop, List.map_take, List.map_drop, h.ab]
    rfl
  · rcases hmem hq with e | rfl
    · exact fun w' hw' => h.tv q e w' (hG w' hw')
    · exact hB
  · rcases hmem hq with e | rfl
    · exact fun w' hw' => h.mv q e w' (hG w' hw')
    · exact hrd
  · rcases hmem hq with e | rfl
    · exact h.m q e
    · exact z1
  · rcases hmem hq with e | rfl
    · exact h.l q e
    · exact z2.1
  · rcases hmem hq with e | rfl
    · exact h.b q e
    · exact hb
  · rcases hmem hq with e | rfl <;> rcases hmem hu with e' | rfl
    · exact h.q q e u e'
    · exact heq q e
    · exact (heq u e').symm
    · rfl
  · rw [List.pairwise_append, List.pairwise_cons]
    refine ⟨h.s.sublist (List.take_sublist _ _), ⟨fun q hq => ?_, h.s.sublist (List.drop_sublist _ _)⟩, fun a ha b hb' => ?_⟩
    · obtain ⟨k, hk⟩ := List.getElem?_of_mem hq
      rw [List.getElem?_drop] at hk
      exact h2 _ q (Nat.le_add_right _ _) hk
    · obtain ⟨k, hk⟩ := List.getElem?_of_mem ha
      have hkp : k < p := by
        have := (List.getElem?_eq_some_iff.1 hk).1
        rw [List.length_take] at this
        omega
      rw [List.getElem?_take, if_pos hkp] at hk
      have e1 := h1 k a hkp hk
      rcases List.mem_cons.1 hb' with rfl | e
      · exact e1
      · obtain ⟨j, hj⟩ := List.getElem?_of_mem e
        rw [List.getElem?_drop] at hj
        have := h2 _ b (Nat.le_add_right _ _) hj
        omega
  · have := h.n
    rw [List.length_append, List.length_cons, List.length_take, List.length_drop]
    omega
end
end Go.Proofs.Ytidphdlhghgglaa
/- StatsTables: a row as the law turns it. -/
namespace Go.Proofs.Ytidphdlhghgglaa
open Go.RowKit
attribute [local irreducible] Go.Calls Go.Exit.then Go.Exit.inBlock Go.bodyPost Go.Code.wp Go.wpList
/-- A row as it comes in. -/
structure TR.inW (w : World) (r : TR) : Prop where
  rd : Reads w 1 r.A r.l.length (r.l.map fl)
  b : ∀ x ∈ r.l, x < 18446744073709551616
  s : 0 ≤ r.s ∧ r.s ≤ 18446744073709551615
  m : -9223372036854775808 ≤ r.m ∧ r.m ≤ 9223372036854775807
  l : r.l.length ≤ 9223372036854775807
structure Tst where
  i : Nat
  R : Option Addr
  c : Nat
  R2 : Option Addr
  c2 : Nat
  n : Nat
  ts : List TR
  ms : List TR
  G : Fa
abbrev tE (wd : Nat) (at' : Int) (g : Nat) (Q : Option Addr) (L cq : Nat) : Tst → Env := fun p => [(1, .int .u8 wd), (2, .int .i64 at'), (7, .pointer (some ⟨g, 0, none⟩)), (8, .slice p.R2 p.n p.c2), (37, .slice Q L cq), (38, .int .i64 L), (39, .int .i64 p.i)]
abbrev tH (w : World) (g : Nat) : Tst → List Fa := fun p => [tB g p.R p.n p.c, tO p.R p.n p.c p.ts, tO p.R2 p.n p.c2 p.ms, p.G, old w]
def zF : Value := .float .f64 0
theorem infoFz : (Try.prog.info? 24).map (fun i => (i.zero, i.size, i.bytes)) = some (some zF, 1, 8) := by kernel_rfl
theorem zeros_fl (k : Nat) : zeros zF k = (List.replicate k 0).map fl := by
  apply List.ext_getElem?
  intro j
  unfold zeros Builtin.zeroCells
  by_cases h : j < k
  · simp [zF, Value.cells, fl, h, Nat.mod_one]
  · rw [List.getElem?_eq_none (by simp [zF, Value.cells]; omega), List.getElem?_eq_none (by simp; omega)]
/-- What is known of a row in hand. -/
structure TR.ok (w : World) (G : Fa) (r : TR) : Prop where
  rd : r.rd [G, old w]
  b : ∀ x ∈ r.l, x < 18446744073709551616
  s : 0 ≤ r.s ∧ r.s ≤ 18446744073709551615
  m : -9223372036854775808 ≤ r.m ∧ r.m ≤ 9223372036854775807
  l : r.l.length ≤ 70
theorem nth_Tb5 {φ : Prop} (h : φ := by (first | rfl | first | assumption | exact rows_nth TR.len (by assumption) rfl)) : φ := h
theorem mid_Tb5 {φ : Prop} (h : φ := by (first | first | exact rows_mid TR.len (by assumption) | exact Mid.all | exact Mid.head)) : φ := h
theorem sz_Tb5 {φ : Prop} (h : φ := by (first | rfl | (rfl; first | done | fail))) : φ := h
theorem one_Tb5 {φ : Prop} (h : φ := by (first | assumption | exact first | exact one_bytes _ | exact TR.one _ | exact row_one | (simp only [List.mem_cons, List.not_mem_nil, or_false, forall_eq_or_imp, forall_eq]; decide) | exact one_bytes _)) : φ := h
theorem set_Tb5 {φ : Prop} (h : φ := by (first | (fail) | ((repeat (first | exact SetAt.here | apply SetAt.there)); first | done | fail))) : φ := h
theorem cl_Tb5 {φ : Prop} (h : φ := by first | rfl | exact .t | exact .f | exact .t (by omega) | exact .f (by omega) | exact .u | exact .i (by (first | exact .t (by omega) | exact .f (by omega) | exact .u | exact .i (by omega) | exact .v (by omega) | exact .b (by omega) | exact .w | rfl | omega)) | exact .v (by omega) | exact .b (by omega) | exact .q (by omega) | exact .w | exact .b (by exact at_) rfl (by exact nth_Tb5) | exact .w (by exact at_) rfl rfl (by exact sz_Tb5) | exact .s (by exact at_) (by exact mid_Tb5) rfl rfl (by exact sz_Tb5) | exact .z rfl rfl ⟨by kernel_rfl⟩ | exact .b rfl rfl ⟨by kernel_rfl⟩ | exact .a rfl rfl ⟨by kernel_rfl⟩ | exact .o rfl | exact .s | exact .n | exact .p rfl | exact .q rfl | exact .c rfl | exact .d rfl | exact .n rfl rfl (by omega) | exact .a rfl rfl (by omega) | exact .p rfl rfl (by omega) (by omega) | exact .y rfl rfl (by omega) (by omega) | exact .o (by exact at_) (by omega) rfl (by exact nth_Tb5) | exact .m (by exact at_) (by omega) (by exact mid_Tb5) rfl rfl (by exact sz_Tb5) | exact .mlen (by exact at_) rfl | exact .t (by exact at_) rfl rfl (by first | exact True.intro | rfl) (by assumption) | exact .f (by exact at_) rfl rfl (by first | exact True.intro | rfl) (by assumption) rfl | exact .t1 (by exact at_) rfl rfl (by first | exact True.intro | rfl) (by assumption) | exact .f1 (by exact at_) rfl rfl (by first | exact True.intro | rfl) (by assumption) rfl | exact .r rfl rfl (by omega) (by omega) (by exact nth_Tb5) rfl | exact .s rfl (by omega) (by assumption) | exact at_ | assumption | exact .r rfl rfl | exact .h rfl rfl rfl (by omega) | exact .l rfl rfl rfl (by omega) (by omega) | exact .g rfl rfl rfl rfl (by omega) (by omega) | exact .h rfl rfl (toN_ (by omega)) (by omega) | exact .l rfl rfl (toN_ (by omega)) (by omega) (by omega) | exact .g rfl rfl (toN_ (by omega)) (toN_ (by omega)) (by omega) (by omega) | exact .o (by decide) | exact .f (by decide) | exact .n (by omega) (by first | decide | (show _ ≤ ((64 : Nat) : Int); omega)) | (constructor; (repeat (first | exact .t (by omega) | exact .f (by omega) | exact .u | exact .i (by omega) | exact .v (by omega) | exact .b (by omega) | exact .w | rfl | omega)); first | done | fail) | omega | (show _ ≤ ((64 : Nat) : Int); omega)) : φ := h
theorem pv_Tb5 {φ : Prop} (h : φ := by constructor; (repeat exact cl_Tb5); first | done | fail) : φ := h
theorem su_Tb5 {φ ψ : Prop} (k : ψ) (h : Hide ψ → φ := by (intro k; (first | refine sl_pu (PuI.sep (by exact pv_Tb5)) rfl ?_ | refine sl_yes rfl rfl ?_ | refine sl_no rfl rfl rfl ?_ | refine sl_off rfl rfl rfl ?_ | (first | refine sl_pu (pu_ldo (by exact at_) (by omega) rfl (at2 _ _ _) rfl (by exact nth_Tb5)) rfl ?_ | refine sl_pu (pu_ldo (by exact at_) (by omega) rfl (at1 _ _) rfl (by exact nth_Tb5)) rfl ?_ | refine sl_pu (pu_ldo (by exact at_) (by omega) rfl rfl rfl (by exact nth_Tb5)) rfl ?_)); exact k.out)) : φ := h ⟨k⟩
theorem rq_Tb5 {φ ψ : Prop} (k : ψ) (h : Hide ψ → φ := by (intro k; (first | refine wq_pu (PuI.sep (by exact pv_Tb5)) rfl ?_ | refine wq_yes rfl rfl ?_ | refine wq_no rfl rfl rfl ?_ | refine wq_off rfl rfl rfl ?_ | (first | refine wq_pu (pu_ldo (by exact at_) (by omega) rfl (at2 _ _ _) rfl (by exact nth_Tb5)) rfl ?_ | refine wq_pu (pu_ldo (by exact at_) (by omega) rfl (at1 _ _) rfl (by exact nth_Tb5)) rfl ?_ | refine wq_pu (pu_ldo (by exact at_) (by omega) rfl rfl rfl (by exact nth_Tb5)) rfl ?_)); exact k.out)) : φ := h ⟨k⟩
theorem sto_Tb5 {φ ψ : Prop} (k : ψ) (h : Hide ψ → φ := by (intro k; (first | refine sl_store rfl (by exact pick_) rfl rfl (by kernel_rfl) (by exact set_Tb5) ?_ | refine sl_store_whole rfl (by exact pick_) rfl (by exact sz_Tb5) (by exact sz_Tb5) (by exact one_Tb5) ?_); exact k.out)) : φ := h ⟨k⟩
theorem go_Tb5 {φ ψ : Prop} (k : ψ) (h : Hide ψ → φ := by (intro k; (repeat (first | refine su_Tb5 ?_ | refine so_ ?_ | refine sto_Tb5 ?_)); exact k.out)) : φ := h ⟨k⟩
set_option maxRecDepth 100000 in
set_option maxHeartbeats 8000000 in
theorem pTurnR {w : World} {at' : Int} {g g10 wd L cq i c c2 n : Nat} {Q R R2 : Option Addr} {ts ms : List TR} {G : Fa} {r0 : TR} (hr : r0.ok w G) (hwd : wd ≤ 255) {Q' : Exit → Act → World → Prop} (hN : NoP Q')
    (hend : Ends 332 Q' .normal (fun p : TR × Fa => [(1, .int .u8 wd), (2, .int .i64 at'), (7, .pointer (some ⟨g, 0, none⟩)), (8, .slice R2 n c2), (10, .pointer (some ⟨g10, 0, none⟩)), (37, .slice Q L cq), (38, .int .i64 L), (39, .int .i64 i)]) (fun p => [tB g R n c, tO R n c ts, tO R2 n c2 ms, p.2, blk g10 52 p.1.C, old w]) (fun p => p.1.ok w p.2 ∧ Ent_ [p.2, old w] [G, old w])) :
    SC Try.prog (cAt [false, false, false, false, false, true, false, true, true, false, false, true, true, false, false, true, false] (fb Try.f7)) Q' 332 [(1, .int .u8 wd), (2, .int .i64 at'), (7, .pointer (some ⟨g, 0, none⟩)), (8, .slice R2 n c2), (10, .pointer (some ⟨g10, 0, none⟩)), (37, .slice Q L cq), (38, .int .i64 L), (39, .int .i64 i), (48, .bool (decide ((wd : Int) < 200)))] [tB g R n c, tO R n c ts, tO R2 n c2 ms, G, blk g10 52 r0.C, old w] := by
  refine sc_if rfl (fun h => ?_) (fun h => ?_)
  · obtain ⟨hrd, hb, hs, hm, hl⟩ := hr
    clear h
    obtain ⟨k4, hk4⟩ : ∃ k4 : Nat, (wd : Int) % 4 = k4 := ⟨wd % 4, by omega⟩
    have hk43 : k4 ≤ 3 := by omega
    have hwr : 0 ≤ IntKind.u64.wrap r0.m := by rw [IntKind.wrap_u64]; omega
    have hs5 : 0 ≤ r0.s % 50 ∧ r0.s % 50 < 50 := by omega
    have hm9 : 0 ≤ IntKind.u64.wrap r0.m % 9 ∧ IntKind.u64.wrap r0.m % 9 < 9 := by omega
    refine go_Tb5 ?_
    refine sl_build0 (e := 24) (size := 1) rfl (fun W => by kernel_rfl) rfl ?_
    intro g0
    refine go_Tb5 ?_
    refine sl_app (A := some ⟨g0, 0, none⟩) (xs := []) rfl (by exact pick_) rfl (hrd.mono (by exact sub_)) (fls_one _) rfl infoFz (by decide) (by decide) rfl (by unfold maxLen; omega) (by omega) ?_
    intro A2 d2
    rw [Nat.zero_add, List.nil_append]
    refine sl_app_zeros_own (m := 70) rfl (by exact pick_) rfl rfl rfl infoFz (by decide) (by decide) (by decide) (by decide) rfl (by unfold maxLen; omega) (by omega) ?_
    intro A3 d3
    rw [zeros_fl, ← List.map_append]
    refine sl_know (fun w hw => (own_len (e := 24) (size := 1) (A := A3) hw .here).2) ?_
    rintro ⟨l1, -⟩
    refine go_Tb5 ?_
    rw [hk4]
    refine go_Tb5 ?_
    have hlen : ((r0.l ++ List.replicate 70 0).take k4).length = k4 := by
      rw [List.length_take, List.length_append, List.length_replicate]
      omega
    have hC : ([.int .u64 (r0.s % 50), .int .i64 (1 + IntKind.u64.wrap r0.m % 9), .slice A3 k4 d3] : List Value) = (TR.mk (r0.s % 50) (1 + IntKind.u64.wrap r0.m % 9) A3 d3 ((r0.l ++ List.replicate 70 0).take k4)).C := by
      unfold TR.C
      rw [hlen]
    rw [Int.toNat_natCast, hC]
    generalize hcs : r0.l ++ List.replicate 70 0 = cs at hlen ⊢
    refine se_ent (L' := star [own 24 1 A3 (r0.l.length + 70) d3 (cs.map fl), G] :: [tB g R n c, tO R n c ts, tO R2 n c2 ms, blk g10 52 (TR.C ⟨r0.s % 50, 1 + IntKind.u64.wrap r0.m % 9, A3, d3, cs.take k4⟩), old w]) (fun w hw => star2 w (hw.sub (by exact sub_))) ?_
    refine hend (⟨r0.s % 50, 1 + IntKind.u64.wrap r0.m % 9, A3, d3, cs.take k4⟩, star [own 24 1 A3 (r0.l.length + 70) d3 (cs.map fl), G]) ⟨⟨fun w' hw' => ?_, fun x hx => ?_, by dsimp only; omega, by dsimp only; omega, by dsimp only; omega⟩, star2_out⟩ (by exact has_) (by exact sub_)
    · have h1 := (star_out (G := [own 24 1 A3 (r0.l.length + 70) d3 (cs.map fl), G]) (K := [old w]) w' hw').hd
      unfold own at h1
      have h2 := (Reads.of_own h1).take (k := k4) (by omega)
      rw [Nat.mul_one, ← List.map_take] at h2
      show Reads w' 1 A3 (cs.take k4).length ((cs.take k4).map fl)
      rw [hlen]
      exact h2
    · have h1 : x ∈ r0.l ++ List.replicate 70 0 := by rw [hcs]; exact List.mem_of_mem_take hx
      rcases List.mem_append.1 h1 with h | h
      · exact hb x h
      · rw [List.eq_of_mem_replicate h]
        decide
  · refine go_Tb5 ?_
    exact hend (r0, G) ⟨hr, fun _ h => h⟩ (by exact has_) (by exact sub_)
end Go.Proofs.Ytidphdlhghgglaa
