/- Several texts of one claim, one behind the other (Rz5, Os, Rz6, Rz7). -/
import Derived.Test.YtlfmpjojdhfflaaB23
import Derived.Test.YtlfmpjojdhfflaaB05
import Derived.Test.YtlfmpjojdhfflaaB01
set_option linter.unusedVariables false
/- ReplayPlays: what is within two times. -/
namespace Go.Proofs.Ytlfmpjojdhfflaa
open Go.RowKit
attribute [local irreducible] Go.Calls Go.Exit.then Go.Exit.inBlock Go.bodyPost Go.Code.wp Go.wpList
structure Pq where
  f : Int
  t : Int
def Pq.cells (p : Pq) : List Value := [.int .u64 p.f, .int .u64 p.t]
theorem Pq.len (p : Pq) : p.cells.length = 2 := rfl
theorem u2_one {a b : Int} : ∀ u ∈ [Value.int .u64 a, .int .u64 b], u.oneCell' = true := by
  intro u hu
  simp only [List.mem_cons, List.not_mem_nil, or_false] at hu
  rcases hu with rfl | rfl <;> rfl
/-- Those of the first j. -/
def wiL (ss : List Seen) (f t : Int) (j : Nat) : List Seen := sortT ((ss.take j).filter fun s => !outside f t s)
theorem wiL_out {ss : List Seen} {f t : Int} {j : Nat} {s : Seen} (h : ss.take (j + 1) = ss.take j ++ [s]) (ho : outside f t s = true) : wiL ss f t (j + 1) = wiL ss f t j := by
  unfold wiL
  rw [h, List.filter_append]
  simp only [List.filter_cons, ho, Bool.not_true, Bool.false_eq_true, if_false, List.filter_nil, List.append_nil]
theorem wiL_in {ss : List Seen} {f t : Int} {j : Nat} {s : Seen} (h : ss.take (j + 1) = ss.take j ++ [s]) (ho : outside f t s = false) : wiL ss f t (j + 1) = insB byT (wiL ss f t j) s := by
  unfold wiL
  rw [h, List.filter_append]
  simp only [List.filter_cons, ho, Bool.not_false, if_true, List.filter_nil]
  exact sortT_snoc _ _
theorem wiL_le (ss : List Seen) (f t : Int) (j : Nat) : (wiL ss f t j).length ≤ ss.length := by
  unfold wiL
  rw [(sortT_inv _ _ rfl).1.length_eq]
  refine Nat.le_trans (List.length_filter_le _ _) ?_
  rw [List.length_take]
  exact Nat.min_le_right _ _
theorem nth_Rz5 {φ : Prop} (h : φ := by (first | rfl | first | with_reducible assumption | exact Seen.nt _ | exact Seen.nc _)) : φ := h
theorem mid_Rz5 {φ : Prop} (h : φ := by (first | first | with_reducible assumption | exact Seen.mid _ | exact Mid.all | exact Mid.head)) : φ := h
theorem sz_Rz5 {φ : Prop} (h : φ := by (first | rfl | (first | (simp only [Seen.len, bytes_length, Id.len]; rfl) | simp only [Seen.len, bytes_length, Id.len]; first | done | fail))) : φ := h
theorem one_Rz5 {φ : Prop} (h : φ := by (first | assumption | exact first | exact u2_one | exact Seen.one _ | exact one_bytes _ | (simp only [List.mem_cons, List.not_mem_nil, or_false, forall_eq_or_imp, forall_eq]; decide) | exact one_bytes _)) : φ := h
theorem set_Rz5 {φ : Prop} (h : φ := by (first | (fail) | ((repeat (first | exact SetAt.here | apply SetAt.there)); first | done | fail))) : φ := h
theorem cl_Rz5 {φ : Prop} (h : φ := by first | rfl | exact .t | exact .f | exact .t (by omega) | exact .f (by omega) | exact .u | exact .i (by (first | exact .t (by omega) | exact .f (by omega) | exact .u | exact .i (by omega) | exact .v (by omega) | exact .b (by omega) | exact .w | rfl | omega)) | exact .v (by omega) | exact .b (by omega) | exact .q (by omega) | exact .w | exact .b (by exact at_) rfl (by exact nth_Rz5) | exact .w (by exact at_) rfl rfl (by exact sz_Rz5) | exact .s (by exact at_) (by exact mid_Rz5) rfl rfl (by exact sz_Rz5) | exact .z rfl rfl ⟨by kernel_rfl⟩ | exact .b rfl rfl ⟨by kernel_rfl⟩ | exact .a rfl rfl ⟨by kernel_rfl⟩ | exact .o rfl | exact .s | exact .n | exact .p rfl | exact .q rfl | exact .c rfl | exact .d rfl | exact .n rfl rfl (by omega) | exact .a rfl rfl (by omega) | exact .p rfl rfl (by omega) (by omega) | exact .y rfl rfl (by omega) (by omega) | exact .o (by exact at_) (by omega) rfl (by exact nth_Rz5) | exact .m (by exact at_) (by omega) (by exact mid_Rz5) rfl rfl (by exact sz_Rz5) | exact .mlen (by exact at_) rfl | exact .t (by exact at_) rfl rfl (by first | exact True.intro | rfl) (by assumption) | exact .f (by exact at_) rfl rfl (by first | exact True.intro | rfl) (by assumption) rfl | exact .t1 (by exact at_) rfl rfl (by first | exact True.intro | rfl) (by assumption) | exact .f1 (by exact at_) rfl rfl (by first | exact True.intro | rfl) (by assumption) rfl | exact .r rfl rfl (by omega) (by omega) (by exact nth_Rz5) rfl | exact .s rfl (by omega) (by assumption) | exact at_ | assumption | exact .r rfl rfl | exact .h rfl rfl rfl (by omega) | exact .l rfl rfl rfl (by omega) (by omega) | exact .g rfl rfl rfl rfl (by omega) (by omega) | exact .h rfl rfl (toN_ (by omega)) (by omega) | exact .l rfl rfl (toN_ (by omega)) (by omega) (by omega) | exact .g rfl rfl (toN_ (by omega)) (toN_ (by omega)) (by omega) (by omega) | exact .o (by decide) | exact .f (by decide) | exact .n (by omega) (by first | decide | (show _ ≤ ((64 : Nat) : Int); omega)) | (constructor; (repeat (first | exact .t (by omega) | exact .f (by omega) | exact .u | exact .i (by omega) | exact .v (by omega) | exact .b (by omega) | exact .w | rfl | omega)); first | done | fail) | omega | (show _ ≤ ((64 : Nat) : Int); omega)) : φ := h
theorem pv_Rz5 {φ : Prop} (h : φ := by constructor; (repeat exact cl_Rz5); first | done | fail) : φ := h
theorem su_Rz5 {φ ψ : Prop} (k : ψ) (h : Hide ψ → φ := by (intro k; (first | refine sl_pu (PuI.sep (by exact pv_Rz5)) rfl ?_ | refine sl_yes rfl rfl ?_ | refine sl_no rfl rfl rfl ?_ | refine sl_off rfl rfl rfl ?_ | (fail)); exact k.out)) : φ := h ⟨k⟩
theorem rq_Rz5 {φ ψ : Prop} (k : ψ) (h : Hide ψ → φ := by (intro k; (first | refine wq_pu (PuI.sep (by exact pv_Rz5)) rfl ?_ | refine wq_yes rfl rfl ?_ | refine wq_no rfl rfl rfl ?_ | refine wq_off rfl rfl rfl ?_ | (fail)); exact k.out)) : φ := h ⟨k⟩
theorem sto_Rz5 {φ ψ : Prop} (k : ψ) (h : Hide ψ → φ := by (intro k; (first | refine sl_store rfl (by exact pick_) rfl rfl (by kernel_rfl) (by exact set_Rz5) ?_ | refine sl_store_whole rfl (by exact pick_) rfl (by exact sz_Rz5) (by exact sz_Rz5) (by exact one_Rz5) ?_); exact k.out)) : φ := h ⟨k⟩
theorem go_Rz5 {φ ψ : Prop} (k : ψ) (h : Hide ψ → φ := by (intro k; (repeat (first | refine su_Rz5 ?_ | refine so_ ?_ | refine sto_Rz5 ?_)); exact k.out)) : φ := h ⟨k⟩
section
variable {K : List Fa} {x c n d gT j : Nat} {most f t : Int} {A B : Option Addr} {ss : List Seen} {T : List Pq} {Q' : Exit → Act → World → Prop}
set_option maxRecDepth 100000 in
set_option maxHeartbeats 16000000 in
theorem pWith (hn : n = ss.length) (hs : Srt ss) (hl : ss.length ≤ 256) (hj : j < 2) (hp : T[j]? = some ⟨f, t⟩) (hft : (0 ≤ f ∧ f ≤ 18446744073709551615) ∧ (0 ≤ t ∧ t ≤ 18446744073709551615))
    (hend : Ends 249 Q' .normal (fun q : Option Addr × Nat => [(9, .pointer (some ⟨x, 0, none⟩)), (11, .slice q.1 n q.2), (211, .slice (some ⟨gT, 0, none⟩) 2 2), (212, .int .i64 2), (213, .int .i64 j)]) (fun q => ixb x A n c most :: oS A n c ss :: oS q.1 n q.2 ss :: own 54 2 (some ⟨gT, 0, none⟩) 2 2 (rows Pq.cells T) :: K) (fun _ => True)) :
    SC Try.prog (cAt [false, false, false, false, false, false, false, false, true, false, true, true, false, false, true, true] (fb Try.f6)) Q' 249 [(9, .pointer (some ⟨x, 0, none⟩)), (11, .slice B n d), (211, .slice (some ⟨gT, 0, none⟩) 2 2), (212, .int .i64 2), (213, .int .i64 j)] (ixb x A n c most :: oS A n c ss :: oS B n d ss :: own 54 2 (some ⟨gT, 0, none⟩) 2 2 (rows Pq.cells T) :: K) := by
  subst hn
  have hmid : Mid (rows Pq.cells T) (j * 2) [.int .u64 f, .int .u64 t] := rows_mid Pq.len hp
  refine go_Rz5 ?_
  refine sl_alloc rfl rfl rfl ?_; intro g29
  refine sl_store_whole (cl := [.int .u64 f, .int .u64 t]) rfl (by exact pick_) rfl rfl (by rfl) u2_one ?_
  refine go_Rz5 ?_
  refine sc_bjoin (fun p : Lg × (Option Addr × Nat) => [(9, .pointer (some ⟨x, 0, none⟩)), (11, .slice p.2.1 ss.length p.2.2), (29, .pointer (some ⟨g29, 0, none⟩)), (30, .slice p.1.C (withL ss f t).length p.1.e), (211, .slice (some ⟨gT, 0, none⟩) 2 2), (212, .int .i64 2), (213, .int .i64 j)]) (fun p => oS p.1.C (withL ss f t).length p.1.e (withL ss f t) :: blk g29 54 [.int .u64 f, .int .u64 t] :: ixb x A ss.length c most :: oS A ss.length c ss :: oS p.2.1 ss.length p.2.2 ss :: own 54 2 (some ⟨gT, 0, none⟩) 2 2 (rows Pq.cells T) :: K) (fun _ => True) ?_ ?_
  · refine sc_for (fun p : Lg => [(9, .pointer (some ⟨x, 0, none⟩)), (11, .slice B ss.length d), (29, .pointer (some ⟨g29, 0, none⟩)), (30, .slice p.C (wiL ss f t p.j).length p.e), (211, .slice (some ⟨gT, 0, none⟩) 2 2), (212, .int .i64 2), (213, .int .i64 j), (217, .slice B ss.length d), (218, .int .i64 ss.length), (219, .int .i64 p.j)]) (fun p => oS p.C (wiL ss f t p.j).length p.e (wiL ss f t p.j) :: blk g29 54 [.int .u64 f, .int .u64 t] :: ixb x A ss.length c most :: oS A ss.length c ss :: oS B ss.length d ss :: own 54 2 (some ⟨gT, 0, none⟩) 2 2 (rows Pq.cells T) :: K) (fun p => p.j ≤ ss.length) (fun p => ss.length - p.j) ⟨0, none, 0⟩ (by exact has_) (Sub.own_nil (by exact sub_)) (Nat.zero_le _) ?_
    rintro ⟨k, C, e⟩ hk
    dsimp only at hk ⊢
    by_cases hlt : k < ss.length
    case neg =>
      obtain rfl : k = ss.length := by omega
      rw [show wiL ss f t ss.length = withL ss f t by unfold wiL withL; rw [List.take_length]]
      refine go_Rz5 ?_
      exact se_mid (⟨ss.length, C, e⟩, (B, d)) (by exact has_) (by exact sub_) trivial
    have hs1 : ss[k]? = some ss[k] := List.getElem?_eq_getElem hlt
    have htk : ss.take (k + 1) = ss.take k ++ [ss[k]] := List.take_succ_eq_append_getElem hlt
    have hmid2 := rows_mid Seen.len hs1
    have hwl := wiL_le ss f t k
    generalize ss[k] = s at hs1 htk hmid2
    refine sc_form (e := 33) (size := 18) (A := B) (m := ss.length) (c := d) (xs := rows Seen.cells ss) (by exact at_) (by omega) ?_
    rintro g0 rfl
    by_cases h1 : s.t < f
    · have hnew := wiL_out htk (show outside f t s = true by simp [outside, h1])
      refine go_Rz5 ?_
      refine sl_alloc rfl rfl rfl ?_; intro g32
      refine go_Rz5 ?_
      exact se_round ⟨k + 1, C, e⟩ (by dsimp only; rw [hnew]; exact has_) (by dsimp only; rw [hnew]; exact sub_) hlt (by dsimp only; omega)
    by_cases h2 : t ≤ s.t
    · have hnew := wiL_out htk (show outside f t s = true by simp [outside, h2])
      refine go_Rz5 ?_
      refine sl_alloc rfl rfl rfl ?_; intro g32
      refine go_Rz5 ?_
      exact se_round ⟨k + 1, C, e⟩ (by dsimp only; rw [hnew]; exact has_) (by dsimp only; rw [hnew]; exact sub_) hlt (by dsimp only; omega)
    have hnew := wiL_in htk (show outside f t s = false by simp [outside, h1, h2])
    refine go_Rz5 ?_
    refine sl_alloc rfl rfl rfl ?_; intro g32
    refine go_Rz5 ?_
    refine sl_call rfl rfl (by kernel_rfl) rfl Sub.refl (lawInsert_ok (A := C) (c := e) (ss := wiL ss f t k) s 26 byT (by kernel_rfl) byT2_ok (Vw.of_own (c := e) (e := 33) (by exact at_)) (fun w hw => oS_len (A := C) (ss := wiL ss f t k) hw (by exact at_)) (by omega)) ?_
    rintro ⟨C2, e2⟩ -
    dsimp only
    have hl2 := insB_len byT (wiL ss f t k) s
    rw [← hnew] at hl2 ⊢
    rw [← hl2]
    refine go_Rz5 ?_
    exact se_round ⟨k + 1, C2, e2⟩ (by exact has_) (by exact sub_) hlt (by dsimp only; omega)
  rintro ⟨⟨k, C, e⟩, ⟨B1, d1⟩⟩ -
  dsimp only
  have hwl : (withL ss f t).length ≤ ss.length := by
    have := wiL_le ss f t ss.length
    rwa [show wiL ss f t ss.length = withL ss f t by unfold wiL withL; rw [List.take_length]] at this
  refine go_Rz5 ?_
  refine sl_call rfl rfl (by kernel_rfl) rfl (by exact sub_) (within_ok (K := oS C (withL ss f t).length e (withL ss f t) :: oS B1 ss.length d1 ss :: own 54 2 (some ⟨gT, 0, none⟩) 2 2 (rows Pq.cells T) :: K) (A := A) (c := c) (lim := most) (ss := ss) f t hs (by omega)) ?_
  rintro ⟨A1, c1⟩ -
  dsimp only
  refine go_Rz5 ?_
  refine sl_call rfl rfl (by kernel_rfl) rfl Sub.refl (same_ok (A := A1) (B := C) (c := c1) (d := e) (xs := withL ss f t) (ys := withL ss f t) (Vw.of_own (e := 33) (c := c1) (by exact at_)) (Vw.of_own (e := 33) (c := e) (by exact at_)) (by omega) (by omega)) ?_
  rintro _ -
  rw [decide_eq_true rfl]
  refine go_Rz5 ?_
  exact hend (B1, d1) trivial (by exact has_) (by exact sub_)
end
end Go.Proofs.Ytlfmpjojdhfflaa
/- Structs as they come in: ids, reports. -/
namespace Go.Proofs.Ytlfmpjojdhfflaa
open Go.RowKit Go.ChangeShapes Go.WideShapes Go.Deep
section
variable {H : Type} {enc : TypeId × Value → H} {w : World} {base : Nat} {spare : Nat → Bool} {held : Bool} {fuel : Nat} {cs : List Value} {x : DataW H × List MemPlace}
theorem open_id (h : DataW.trod enc Try.prog w base spare held fuel 23 cs = some x) : ∃ a : Id, cs = bytes a.l := by
  obtain ⟨bs, h1, h2, h3⟩ := open_array (n := 16) Try.underlying23 Try.underlying5 (by kernel_rfl) (by kernel_rfl) h
  exact ⟨⟨bs, h2, h3⟩, h1⟩
theorem open_seen0 (h : DataW.trod enc Try.prog w base spare held fuel 33 cs = some x) : ∃ (z0 : Id) (z1 : Int) (z2 : Int), cs = bytes z0.l ++ ([Value.int .u64 z1] ++ ([Value.int .i64 z2] ++ [])) ∧ (0 ≤ z1 ∧ z1 ≤ 18446744073709551615) ∧ (-9223372036854775808 ≤ z2 ∧ z2 ≤ 9223372036854775807) := by
  obtain ⟨hl, m, hf⟩ := open_struct Try.underlying33 h
  have hl' : cs.length = 18 := hl.trans (by kernel_rfl)
  have n0 : Try.prog.cellsOf 23 = 16 := by kernel_rfl
  have n1 : Try.prog.cellsOf 30 = 1 := by kernel_rfl
  have n2 : Try.prog.cellsOf 31 = 1 := by kernel_rfl
  obtain ⟨y0, e0⟩ := hf 0 _ rfl
  have f0 : DataW.trod enc Try.prog w base spare held m 23 ((cs.drop 0).take (Try.prog.cellsOf 23)) = some y0 := e0
  rw [n0] at f0
  obtain ⟨y1, e1⟩ := hf 1 _ rfl
  have f1 : DataW.trod enc Try.prog w base spare held m 30 ((cs.drop 16).take (Try.prog.cellsOf 30)) = some y1 := e1
  rw [n1] at f1
  obtain ⟨y2, e2⟩ := hf 2 _ rfl
  have f2 : DataW.trod enc Try.prog w base spare held m 31 ((cs.drop 17).take (Try.prog.cellsOf 31)) = some y2 := e2
  rw [n2] at f2
  obtain ⟨z0, g0⟩ := open_id f0
  obtain ⟨z1, g1, _, u1⟩ := DataW.trod_int Try.underlying30 f1
  have b1 : 0 ≤ z1 ∧ z1 ≤ 18446744073709551615 := by simpa [Lit.wf, IntKind.min, IntKind.max, IntKind.signed, IntKind.bits] using u1
  obtain ⟨z2, g2, _, u2⟩ := DataW.trod_int Try.underlying31 f2
  have b2 : -9223372036854775808 ≤ z2 ∧ z2 ≤ 9223372036854775807 := by simpa [Lit.wf, IntKind.min, IntKind.max, IntKind.signed, IntKind.bits] using u2
  have hp : cs = (cs.drop 0).take 16 ++ ((cs.drop 16).take 1 ++ ((cs.drop 17).take 1 ++ [])) := by
    rw [← piece_end hl', ← piece 17 1 18 rfl, ← piece 16 1 17 rfl, ← piece 0 16 16 rfl, List.drop_zero]
  rw [g0, g1, g2] at hp
  exact ⟨z0, z1, z2, hp, b1, b2⟩
theorem open_seen (h : DataW.trod enc Try.prog w base spare held fuel 33 cs = some x) : ∃ s : Seen, cs = s.cells := by
  obtain ⟨a, t, c, h1, h2, h3⟩ := open_seen0 h
  exact ⟨⟨a, t, c, h2, h3⟩, by rw [h1]; simp [Seen.cells]⟩
def SeenV (_ : World) (v : Value) : Prop := ∃ s : Seen, v = s.v
theorem open_seen_v {v : Value} (h : DataW.trod enc Try.prog w base spare held fuel 33 v.cells.toList = some x) (hv : ∃ cs, v = .agg cs) : SeenV w v := by
  obtain ⟨cs, rfl⟩ := hv
  obtain ⟨a, ha⟩ := open_seen h
  refine ⟨a, ?_⟩
  have h1 : cs.toList = a.cells := ha
  show Value.agg cs = Value.agg a.cells.toArray
  rw [← h1]
end
end Go.Proofs.Ytlfmpjojdhfflaa
/- ReplayPlays: its walk; at what came in. -/
namespace Go.Proofs.Ytlfmpjojdhfflaa
open Go.RowKit
attribute [local irreducible] Go.Calls Go.Exit.then Go.Exit.inBlock Go.bodyPost Go.Code.wp Go.wpList
theorem nth_Rz6 {φ : Prop} (h : φ := by (first | rfl | first | with_reducible assumption | exact Ac.n0 _)) : φ := h
theorem mid_Rz6 {φ : Prop} (h : φ := by (first | first | with_reducible assumption | exact Ac.mid _ | exact Mid.all | exact Mid.head)) : φ := h
theorem sz_Rz6 {φ : Prop} (h : φ := by (first | rfl | (first | (simp only [Seen.len, bytes_length, Id.len, Ac.len]; rfl) | simp only [Seen.len, bytes_length, Id.len, Ac.len]; first | done | fail))) : φ := h
theorem one_Rz6 {φ : Prop} (h : φ := by (first | assumption | exact first | exact Ac.one _ | exact Seen.one _ | exact one_bytes _ | (simp only [List.mem_cons, List.not_mem_nil, or_false, forall_eq_or_imp, forall_eq]; decide) | exact one_bytes _)) : φ := h
theorem set_Rz6 {φ : Prop} (h : φ := by (first | (fail) | ((repeat (first | exact SetAt.here | apply SetAt.there)); first | done | fail))) : φ := h
theorem cl_Rz6 {φ : Prop} (h : φ := by first | rfl | exact .t | exact .f | exact .t (by omega) | exact .f (by omega) | exact .u | exact .i (by (first | exact .t (by omega) | exact .f (by omega) | exact .u | exact .i (by omega) | exact .v (by omega) | exact .b (by omega) | exact .w | rfl | omega)) | exact .v (by omega) | exact .b (by omega) | exact .q (by omega) | exact .w | exact .b (by exact at_) rfl (by exact nth_Rz6) | exact .w (by exact at_) rfl rfl (by exact sz_Rz6) | exact .s (by exact at_) (by exact mid_Rz6) rfl rfl (by exact sz_Rz6) | exact .z rfl rfl ⟨by kernel_rfl⟩ | exact .b rfl rfl ⟨by kernel_rfl⟩ | exact .a rfl rfl ⟨by kernel_rfl⟩ | exact .o rfl | exact .s | exact .n | exact .p rfl | exact .q rfl | exact .c rfl | exact .d rfl | exact .n rfl rfl (by omega) | exact .a rfl rfl (by omega) | exact .p rfl rfl (by omega) (by omega) | exact .y rfl rfl (by omega) (by omega) | exact .o (by exact at_) (by omega) rfl (by exact nth_Rz6) | exact .m (by exact at_) (by omega) (by exact mid_Rz6) rfl rfl (by exact sz_Rz6) | exact .mlen (by exact at_) rfl | exact .t (by exact at_) rfl rfl (by first | exact True.intro | rfl) (by assumption) | exact .f (by exact at_) rfl rfl (by first | exact True.intro | rfl) (by assumption) rfl | exact .t1 (by exact at_) rfl rfl (by first | exact True.intro | rfl) (by assumption) | exact .f1 (by exact at_) rfl rfl (by first | exact True.intro | rfl) (by assumption) rfl | exact .r rfl rfl (by omega) (by omega) (by exact nth_Rz6) rfl | exact .s rfl (by omega) (by assumption) | exact at_ | assumption | exact .r rfl rfl | exact .h rfl rfl rfl (by omega) | exact .l rfl rfl rfl (by omega) (by omega) | exact .g rfl rfl rfl rfl (by omega) (by omega) | exact .h rfl rfl (toN_ (by omega)) (by omega) | exact .l rfl rfl (toN_ (by omega)) (by omega) (by omega) | exact .g rfl rfl (toN_ (by omega)) (toN_ (by omega)) (by omega) (by omega) | exact .o (by decide) | exact .f (by decide) | exact .n (by omega) (by first | decide | (show _ ≤ ((64 : Nat) : Int); omega)) | (constructor; (repeat (first | exact .t (by omega) | exact .f (by omega) | exact .u | exact .i (by omega) | exact .v (by omega) | exact .b (by omega) | exact .w | rfl | omega)); first | done | fail) | omega | (show _ ≤ ((64 : Nat) : Int); omega)) : φ := h
theorem pv_Rz6 {φ : Prop} (h : φ := by constructor; (repeat exact cl_Rz6); first | done | fail) : φ := h
theorem su_Rz6 {φ ψ : Prop} (k : ψ) (h : Hide ψ → φ := by (intro k; (first | refine sl_pu (PuI.sep (by exact pv_Rz6)) rfl ?_ | refine sl_yes rfl rfl ?_ | refine sl_no rfl rfl rfl ?_ | refine sl_off rfl rfl rfl ?_ | (fail)); exact k.out)) : φ := h ⟨k⟩
theorem rq_Rz6 {φ ψ : Prop} (k : ψ) (h : Hide ψ → φ := by (intro k; (first | refine wq_pu (PuI.sep (by exact pv_Rz6)) rfl ?_ | refine wq_yes rfl rfl ?_ | refine wq_no rfl rfl rfl ?_ | refine wq_off rfl rfl rfl ?_ | (fail)); exact k.out)) : φ := h ⟨k⟩
theorem sto_Rz6 {φ ψ : Prop} (k : ψ) (h : Hide ψ → φ := by (intro k; (first | refine sl_store rfl (by exact pick_) rfl rfl (by kernel_rfl) (by exact set_Rz6) ?_ | refine sl_store_whole rfl (by exact pick_) rfl (by exact sz_Rz6) (by exact sz_Rz6) (by exact one_Rz6) ?_); exact k.out)) : φ := h ⟨k⟩
theorem go_Rz6 {φ ψ : Prop} (k : ψ) (h : Hide ψ → φ := by (intro k; (repeat (first | refine su_Rz6 ?_ | refine so_ ?_ | refine sto_Rz6 ?_)); exact k.out)) : φ := h ⟨k⟩
section
variable {K : List Fa} {R : Option Addr} {cq : Nat} {acts : List Ac} {lim f t : Int}
set_option maxRecDepth 100000 in
set_option maxHeartbeats 16000000 in
theorem lawPlays_ok (hr : Vw K (fun w => Reads w 21 R acts.length (rows Ac.cells acts))) (hn : acts.length ≤ 9223372036854775807) (hl : -9223372036854775808 ≤ lim ∧ lim ≤ 9223372036854775807) (hf : 0 ≤ f ∧ f ≤ 18446744073709551615) (ht : 0 ≤ t ∧ t ≤ 18446744073709551615) :
    Fn Try.prog 6 #[.int .i64 lim, .slice R acts.length cq, .int .u64 f, .int .u64 t] K (Ret (fun _ : Unit => True) (fun _ => .bool true) (fun _ => K)) := by
  refine fn_enter Try.func6 rfl _ Try.ntmps6 (by simp) [(0, .int .i64 lim), (1, .slice R acts.length cq), (2, .int .u64 f), (3, .int .u64 t)] (args_of (by simp)) ?_
  refine go_Rz6 ?_
  refine sl_call rfl rfl (by kernel_rfl) rfl Sub.refl awake18_ok ?_
  rintro _ -
  refine go_Rz6 ?_
  refine sc_join (fun l2 : Int => [(0, .int .i64 l2), (1, .slice R acts.length cq), (2, .int .u64 f), (3, .int .u64 t)]) (fun _ => K) (fun l2 => -9223372036854775808 ≤ l2 ∧ l2 ≤ 9223372036854775807) ?_ ?_
  · by_cases h : 1000 < lim
    · rw [decide_eq_true h]
      refine go_Rz6 ?_
      exact se_mid 20 (by exact has_) (by exact sub_) (by omega)
    · rw [decide_eq_false h]
      refine go_Rz6 ?_
      exact se_mid lim (by exact has_) (by exact sub_) hl
  intro l2 hl2
  refine go_Rz6 ?_
  refine sl_call rfl rfl (by kernel_rfl) rfl Sub.refl (new_ok l2) ?_
  rintro x -
  have hmx : (if 256 < if l2 < 0 then 0 else l2 then 256 else if l2 < 0 then 0 else l2) = min (max l2 0) 256 := by
    repeat' split
    all_goals omega
  repeat (first | refine su_Rz6 ?_ | refine sobz_ ?_)
  rw [hmx]
  have hm2 : 0 ≤ min (max l2 0) 256 ∧ min (max l2 0) 256 ≤ 256 := by omega
  generalize min (max l2 0) 256 = most at hm2 ⊢
  refine sc_block ?_
  refine sc_bjoin (fun q : Rq => [(2, .int .u64 f), (3, .int .u64 t), (9, .pointer (some ⟨x, 0, none⟩)), (11, .slice q.B q.n q.d)]) (fun q => rH x most K q) (rR most) ?_ ?_
  · refine sc_for (fun p : Nat × Rq => rE (.int .u64 f) (.int .u64 t) (.slice R acts.length cq) (.int .i64 acts.length) (.int .i64 p.1) x most p.2) (fun p => rH x most K p.2) (fun p => p.1 ≤ acts.length ∧ rR most p.2) (fun p => acts.length - p.1) (0, ⟨0, none, 0, none, 0, []⟩) (by exact has_) (Sub.cons (by exact pick_) (Sub.own_nil (Sub.own_nil Sub.refl))) ⟨Nat.zero_le _, rfl, srt_nil, hm2.1⟩ ?_
    rintro ⟨i, n, A, c, B, d, ss⟩ ⟨hi, hn1, hs, hm⟩
    dsimp only [rE, rH] at hi hn1 hs hm ⊢
    by_cases hlt : i < acts.length
    case neg =>
      obtain rfl : i = acts.length := by omega
      refine go_Rz6 ?_
      exact se_mid ⟨n, A, c, B, d, ss⟩ (by exact has_) (by exact sub_) ⟨hn1, hs, hm⟩
    have ha1 : acts[i]? = some acts[i] := List.getElem?_eq_getElem hlt
    have hmid := rows_mid Ac.len ha1
    generalize acts[i] = a at ha1 hmid
    refine sc_know (vw_form (L := ixb x A n c most :: oS A n c ss :: oS B n d ss :: K) (hr.mono (by exact sub_)) (by omega)) ?_
    rintro ⟨ad, hR⟩
    rw [hR]
    refine go_Rz6 ?_
    refine sl_pu (pu_ldrs (Vw.mono (hR ▸ hr) (by exact sub_)) (by omega) rfl hmid rfl rfl (by exact sz_Rz6)) rfl ?_
    refine sl_alloc rfl rfl rfl ?_; intro g14
    by_cases h80 : 80 < i
    · refine go_Rz6 ?_
      exact se_mid ⟨n, A, c, B, d, ss⟩ (by exact has_) (by exact sub_) ⟨hn1, hs, hm⟩
    repeat (first | refine su_Rz6 ?_ | refine sto_Rz6 ?_)
    refine sl_nil ?_
    refine se_seq ?_
    refine sc_seq ?_
    refine sc_seq ?_
    refine sc_region ?_
    repeat refine su_Rz6 ?_
    refine sl_nil ?_
    refine se_seq ?_
    refine sc_cond rfl (by constructor) ?_
    refine sc_skip ?_
    refine se_seq ?_
    refine sc_env _ (by exact has_) (sc_sub (by exact sub_) (pRound (Q' := _) (vf := .int .u64 f) (vt := .int .u64 t) (v42 := .slice (some ad) acts.length cq) (v43 := .int .i64 acts.length) (v44 := .int .i64 i) (most := most) (x := x) (a := a) (g14 := g14) (ss := ss) (A := A) (c := c) (B := B) (d := d) (n := n) (K := K) hn1 hs hm hm2 (by exact nop_) (fun q _ _ hq hl hs' => se_mono ?_ hl hs')))
    dsimp only [rE, rH]
    refine go_Rz6 ?_
    exact se_round (i + 1, q) (by exact has_) (by exact sub_) ⟨hlt, hq⟩ (by dsimp only; omega)
  rintro ⟨n, A, c, B, d, ss⟩ ⟨hn1, hs, hm⟩
  dsimp only [rH] at hn1 hs hm ⊢
  refine go_Rz6 ?_
  refine sl_pu (pu_build (v := .agg #[.int .u64 f, .int .u64 t]) rfl (fun W => by kernel_rfl)) rfl ?_
  refine go_Rz6 ?_
  refine sl_pu (pu_build (v := .agg #[.int .u64 (f % 50), .int .u64 (t % 60)]) rfl (fun W => by kernel_rfl)) rfl ?_
  obtain ⟨T, hT, hT2, hTb⟩ : ∃ T : List Pq, T = [⟨f, t⟩, ⟨f % 50, t % 60⟩] ∧ T.length = 2 ∧ ∀ p ∈ T, (0 ≤ p.f ∧ p.f ≤ 18446744073709551615) ∧ (0 ≤ p.t ∧ p.t ≤ 18446744073709551615) := by
    refine ⟨_, rfl, rfl, fun p hp => ?_⟩
    simp only [List.mem_cons, List.not_mem_nil, or_false] at hp
    rcases hp with rfl | rfl <;> dsimp only <;> omega
  refine sl_build (size := 2) (e := 54) (cells := rows Pq.cells [⟨f, t⟩, ⟨f % 50, t % 60⟩]) rfl (fun W => by kernel_rfl) rfl (by decide) rfl ?_
  intro gT
  rw [← hT]
  clear hT
  refine go_Rz6 ?_
  refine sc_for (fun p : Nat × (Option Addr × Nat) => [(9, .pointer (some ⟨x, 0, none⟩)), (11, .slice p.2.1 n p.2.2), (211, .slice (some ⟨gT, 0, none⟩) 2 2), (212, .int .i64 2), (213, .int .i64 p.1)]) (fun p => ixb x A n c most :: oS A n c ss :: oS p.2.1 n p.2.2 ss :: own 54 2 (some ⟨gT, 0, none⟩) 2 2 (rows Pq.cells T) :: K) (fun p => p.1 ≤ 2) (fun p => 2 - p.1) (0, (B, d)) (by exact has_) (by exact sub_) (Nat.zero_le _) ?_
  rintro ⟨j, B1, d1⟩ hj
  dsimp only at hj ⊢
  by_cases hj2 : j < 2
  case neg =>
    refine go_Rz6 ?_
    exact se_ret1 () trivial rfl rfl (by exact sub_)
  obtain ⟨p, hp⟩ : ∃ p, T[j]? = some p := ⟨_, List.getElem?_eq_getElem (by omega)⟩
  have hpb := hTb p (List.mem_of_getElem? hp)
  obtain ⟨pf, pt⟩ := p
  refine sc_seq ?_
  refine sc_region ?_
  repeat refine su_Rz6 ?_
  refine sl_nil ?_
  refine se_seq ?_
  refine sc_seq ?_
  refine sc_cond rfl (by constructor) ?_
  refine sc_skip ?_
  refine se_seq ?_
  refine sc_seq ?_
  refine sc_block ?_
  refine sc_bpart (E := fun q : Option Addr × Nat => [(9, .pointer (some ⟨x, 0, none⟩)), (11, .slice q.1 n q.2), (211, .slice (some ⟨gT, 0, none⟩) 2 2), (212, .int .i64 2), (213, .int .i64 j)]) (H := fun q => ixb x A n c most :: oS A n c ss :: oS q.1 n q.2 ss :: own 54 2 (some ⟨gT, 0, none⟩) 2 2 (rows Pq.cells T) :: K) (R := fun _ => True) (fun Q1 hN1 hend1 => sc_env _ (by exact has_) (pWith hn1 hs (by omega) hj2 hp hpb hend1)) (by exact nop_) ?_
  rintro ⟨B2, d2⟩ -
  dsimp only
  refine go_Rz6 ?_
  exact se_round (j + 1, (B2, d2)) (by exact has_) (by exact sub_) hj2 (by dsimp only; omega)
end
end Go.Proofs.Ytlfmpjojdhfflaa
/- ReplayPlays at what came in. -/
namespace Go.Proofs.Ytlfmpjojdhfflaa
open Go.RowKit Go.ChangeShapes Go.WideShapes Go.Deep
section
variable {H : Type} {enc : TypeId × Value → H} {w : World} {base : Nat} {spare : Nat → Bool} {held : Bool} {fuel : Nat} {cs : List Value} {x : DataW H × List MemPlace}
theorem open_act0 (h : DataW.trod enc Try.prog w base spare held fuel 50 cs = some x) : ∃ (z0 : Int) (z1 : Int) (z2 : Id) (z3 : Int) (z4 : Int) (z5 : Bool), cs = [Value.int .u8 z0] ++ ([Value.int .u8 z1] ++ (bytes z2.l ++ ([Value.int .u64 z3] ++ ([Value.int .i64 z4] ++ ([Value.bool z5] ++ []))))) ∧ (0 ≤ z0 ∧ z0 ≤ 255) ∧ (0 ≤ z1 ∧ z1 ≤ 255) ∧ (0 ≤ z3 ∧ z3 ≤ 18446744073709551615) ∧ (-9223372036854775808 ≤ z4 ∧ z4 ≤ 9223372036854775807) := by
  obtain ⟨hl, m, hf⟩ := open_struct Try.underlying50 h
  have hl' : cs.length = 21 := hl.trans (by kernel_rfl)
  have n0 : Try.prog.cellsOf 5 = 1 := by kernel_rfl
  have n1 : Try.prog.cellsOf 5 = 1 := by kernel_rfl
  have n2 : Try.prog.cellsOf 23 = 16 := by kernel_rfl
  have n3 : Try.prog.cellsOf 30 = 1 := by kernel_rfl
  have n4 : Try.prog.cellsOf 3 = 1 := by kernel_rfl
  have n5 : Try.prog.cellsOf 4 = 1 := by kernel_rfl
  obtain ⟨y0, e0⟩ := hf 0 _ rfl
  have f0 : DataW.trod enc Try.prog w base spare held m 5 ((cs.drop 0).take (Try.prog.cellsOf 5)) = some y0 := e0
  rw [n0] at f0
  obtain ⟨y1, e1⟩ := hf 1 _ rfl
  have f1 : DataW.trod enc Try.prog w base spare held m 5 ((cs.drop 1).take (Try.prog.cellsOf 5)) = some y1 := e1
  rw [n1] at f1
  obtain ⟨y2, e2⟩ := hf 2 _ rfl
  have f2 : DataW.trod enc Try.prog w base spare held m 23 ((cs.drop 2).take (Try.prog.cellsOf 23)) = some y2 := e2
  rw [n2] at f2
  obtain ⟨y3, e3⟩ := hf 3 _ rfl
  have f3 : DataW.trod enc Try.prog w base spare held m 30 ((cs.drop 18).take (Try.prog.cellsOf 30)) = some y3 := e3
  rw [n3] at f3
  obtain ⟨y4, e4⟩ := hf 4 _ rfl
  have f4 : DataW.trod enc Try.prog w base spare held m 3 ((cs.drop 19).take (Try.prog.cellsOf 3)) = some y4 := e4
  rw [n4] at f4
  obtain ⟨y5, e5⟩ := hf 5 _ rfl
  have f5 : DataW.trod enc Try.prog w base spare held m 4 ((cs.drop 20).take (Try.prog.cellsOf 4)) = some y5 := e5
  rw [n5] at f5
  obtain ⟨z0, g0, _, u0⟩ := DataW.trod_int Try.underlying5 f0
  have b0 : 0 ≤ z0 ∧ z0 ≤ 255 := by simpa [Lit.wf, IntKind.min, IntKind.max, IntKind.signed, IntKind.bits] using u0
  obtain ⟨z1, g1, _, u1⟩ := DataW.trod_int Try.underlying5 f1
  have b1 : 0 ≤ z1 ∧ z1 ≤ 255 := by simpa [Lit.wf, IntKind.min, IntKind.max, IntKind.signed, IntKind.bits] using u1
  obtain ⟨z2, g2⟩ := open_id f2
  obtain ⟨z3, g3, _, u3⟩ := DataW.trod_int Try.underlying30 f3
  have b3 : 0 ≤ z3 ∧ z3 ≤ 18446744073709551615 := by simpa [Lit.wf, IntKind.min, IntKind.max, IntKind.signed, IntKind.bits] using u3
  obtain ⟨z4, g4, _, u4⟩ := DataW.trod_int Try.underlying3 f4
  have b4 : -9223372036854775808 ≤ z4 ∧ z4 ≤ 9223372036854775807 := by simpa [Lit.wf, IntKind.min, IntKind.max, IntKind.signed, IntKind.bits] using u4
  obtain ⟨z5, g5, _⟩ := DataW.trod_bool Try.underlying4 f5
  have hp : cs = (cs.drop 0).take 1 ++ ((cs.drop 1).take 1 ++ ((cs.drop 2).take 16 ++ ((cs.drop 18).take 1 ++ ((cs.drop 19).take 1 ++ ((cs.drop 20).take 1 ++ []))))) := by
    rw [← piece_end hl', ← piece 20 1 21 rfl, ← piece 19 1 20 rfl, ← piece 18 1 19 rfl, ← piece 2 16 18 rfl, ← piece 1 1 2 rfl, ← piece 0 1 1 rfl, List.drop_zero]
  rw [g0, g1, g2, g3, g4, g5] at hp
  exact ⟨z0, z1, z2, z3, z4, z5, hp, b0, b1, b3, b4⟩
instance : Inhabited Ac := ⟨⟨0, 0, id0, 0, 0, false, by decide, by decide, by decide, by decide⟩⟩
theorem open_ac (h : DataW.trod enc Try.prog w base spare held fuel 50 cs = some x) : ∃ a : Ac, cs = a.cells := by
  obtain ⟨z0, z1, z2, z3, z4, z5, hcs, b0, b1, b3, b4⟩ := open_act0 h
  exact ⟨⟨z0, z1, z2, z3, z4, z5, b0, b1, b3, b4⟩, by rw [hcs]; simp [Ac.cells]⟩
def AcsV (w : World) (v : Value) : Prop := ∃ (R : Option Addr) (c : Nat) (xs : List Ac), v = .slice R xs.length c ∧ Reads w 21 R xs.length (rows Ac.cells xs) ∧ xs.length ≤ maxLen
theorem open_acs {v : Value} (h : DataW.trod enc Try.prog w base spare held fuel 48 v.cells.toList = some x) (hv : ∃ A n c, v = .slice A n c) : AcsV w v := by
  obtain ⟨A0, n0, c0, rfl⟩ := hv
  obtain ⟨A, n, c, xs, hcs, hl, hr, hk, hc, hm⟩ := open_rows (X := Ac) 21 Ac.cells (fun _ => True) Try.underlying48 (by kernel_rfl) (fun _ _ _ h => by
    obtain ⟨a, ha⟩ := open_ac h
    exact ⟨a, ha, trivial⟩) h
  subst hl
  have hcs' : Value.slice A0 n0 c0 = .slice A xs.length c := by simpa [Value.cells] using hcs
  exact ⟨A, c, xs, hcs', hr, by omega⟩
end
theorem Plays_v {l f t : Int} {v : Value} {w : World} (hl : -9223372036854775808 ≤ l ∧ l ≤ 9223372036854775807) (hf : 0 ≤ f ∧ f ≤ 18446744073709551615) (ht : 0 ≤ t ∧ t ≤ 18446744073709551615) (h : AcsV w v) : Calls Try.prog 6 #[.int .i64 l, v, .int .u64 f, .int .u64 t] w fun e w' => e = .returned (.bool true) ∧ Fr Nil w w' := by
  obtain ⟨R, c, xs, rfl, h1, h2⟩ := h
  exact Fn.top (lawPlays_ok (Vw.of_old .here h1) (by unfold maxLen at h2; omega) hl hf ht)
end Go.Proofs.Ytlfmpjojdhfflaa
