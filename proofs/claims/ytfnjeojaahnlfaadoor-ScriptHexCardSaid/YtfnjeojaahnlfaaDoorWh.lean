/- Package script: Parse, of a text whose lines are right. -/
import Derived.Test.YtfnjeojaahnlfaaDoorWg
import Derived.Test.YtfnjeojaahnlfaaDoorIds
namespace Go.Proofs.YtfnjeojaahnlfaaDoor
open Go.RowKit
attribute [local irreducible] Go.Calls Go.Exit.then Go.Exit.inBlock Go.bodyPost Go.Code.wp Go.wpList
theorem lineW_ok {K Z : List Fa} {A : Option Addr} {c : Nat} {ws : List (List UInt8)} {ss : List St0} (hz : Sub K Z) (h : Wds Z A c ws) (hw : wordSt ws = some ss) (h0 : ws ≠ []) (hl : ∀ x ∈ ws, x.length ≤ 1048576) :
    ss.length ≤ 4096 ∧ Fn Tryd.prog 17 #[.slice A ws.length c] K (Ret (fun _ : Option Addr × Nat => True) (fun q => .tuple #[.slice q.1 ss.length q.2, .int .i64 0]) (fun q => own 47 87 q.1 ss.length q.2 (rows stC ss) :: K)) := by
  match ws, h0, hw, hl, h with
  | [t], _, hw, hl, h =>
    simp only [wordSt] at hw
    split at hw
    · rename_i e
      subst e
      cases hw
      exact ⟨by decide, line_ok (fun g K' hz' => steps_tick (n := 1) hz' h (.inl ⟨rfl, rfl⟩) (by decide)) hz⟩
    · cases hw
  | [t, x], _, hw, hl, h =>
    simp only [wordSt] at hw
    split at hw
    · rename_i e
      obtain ⟨e1, e2⟩ := e
      subst e1
      cases hw
      have hb : (numL x 4096).1 ≤ 4096 := by
        unfold numL at e2 ⊢
        split at e2
        · cases e2
        · rename_i h1
          rw [if_neg h1]
          unfold numR at e2 ⊢
          split at e2
          · cases e2
          · rename_i n hn
            simpa using e2
      have hnum : numL x 4096 = ((numL x 4096).1, true) := by rw [← e2]
      rw [List.length_replicate]
      exact ⟨hb, line_ok (fun g K' hz' => steps_tick hz' h (.inr ⟨x, rfl, hnum, hl x (by simp)⟩) hb) hz⟩
    · cases hw
  | [a, b, x], _, hw, hl, h =>
    simp only [wordSt] at hw
    split at hw
    · rename_i e
      obtain ⟨e1, e2, e3⟩ := e
      subst e1 e2
      cases hw
      have hnum : numL x 1048576 = ((numL x 1048576).1, true) := by rw [← e3]
      exact ⟨by show 1 ≤ 4096; decide, line_ok (fun g K' hz' => steps_crash hz' h (hl x (by simp)) hnum) hz⟩
    · cases hw
  | a :: b :: x :: y :: r, _, hw, _, _ => cases hw
theorem words_len {l : List UInt8} (hl : l.length ≤ 1048576) : ∀ x ∈ wordsOf l, x.length ≤ 1048576 := fun x hx => by
  have h1 := fieldsGo_sub _ _ x hx
  have h2 := (cut_sub l).1
  simp at h1
  omega
structure Ps where
  j : Nat
  A : Option Addr
  c : Nat
  acc : List St0
theorem lineL_get {l x : List UInt8} {j : Nat} (h : (linesL l)[j]? = some x) : nth ((lineL l).map Value.string) (j * 1) = some (.string (sOf x)) := by
  rw [nth_eq, Nat.mul_one, lineL_eq, List.map_map, List.getElem?_map, h]
  rfl
theorem nth_Wh {φ : Prop} (h : φ := by (first | rfl | rfl)) : φ := h
theorem mid_Wh {φ : Prop} (h : φ := by (first | exact Mid.all | exact Mid.all | exact Mid.head)) : φ := h
theorem sz_Wh {φ : Prop} (h : φ := by (first | rfl | (rfl; first | done | fail))) : φ := h
theorem one_Wh {φ : Prop} (h : φ := by (first | assumption | exact one_bytes _ | (simp only [List.mem_cons, List.not_mem_nil, or_false, forall_eq_or_imp, forall_eq]; decide) | exact one_bytes _ | (intro v hv; (repeat (rcases List.mem_cons.1 hv with rfl | hv; rfl)); cases hv))) : φ := h
theorem set_Wh {φ : Prop} (h : φ := by (first | (fail) | ((repeat (first | exact SetAt.here | apply SetAt.there)); first | done | fail))) : φ := h
theorem cl_Wh {φ : Prop} (h : φ := by first | rfl | exact .t | exact .f | exact .t (by omega) | exact .f (by omega) | exact .u | exact .i (by (first | exact .t (by omega) | exact .f (by omega) | exact .u | exact .i (by omega) | exact .v (by omega) | exact .b (by omega) | exact .w | rfl | omega)) | exact .v (by omega) | exact .b (by omega) | exact .q (by omega) | exact .w | exact .b (by exact at_) rfl (by exact nth_Wh) | exact .w (by exact at_) rfl rfl (by exact sz_Wh) | exact .s (by exact at_) (by exact mid_Wh) rfl rfl (by exact sz_Wh) | exact .z rfl rfl ⟨by kernel_rfl⟩ | exact .b rfl rfl ⟨by kernel_rfl⟩ | exact .a rfl rfl ⟨by kernel_rfl⟩ | exact .o rfl | exact .s | exact .n | exact .p rfl | exact .q rfl | exact .c rfl | exact .d rfl | exact .n rfl rfl (by omega) | exact .a rfl rfl (by omega) | exact .p rfl rfl (by omega) (by omega) | exact .y rfl rfl (by omega) (by omega) | exact .o (by exact at_) (by omega) rfl (by exact nth_Wh) | exact .m (by exact at_) (by omega) (by exact mid_Wh) rfl rfl (by exact sz_Wh) | exact .mlen (by exact at_) rfl | exact .t (by exact at_) rfl rfl (by first | exact True.intro | rfl) (by assumption) | exact .f (by exact at_) rfl rfl (by first | exact True.intro | rfl) (by assumption) rfl | exact .t1 (by exact at_) rfl rfl (by first | exact True.intro | rfl) (by assumption) | exact .f1 (by exact at_) rfl rfl (by first | exact True.intro | rfl) (by assumption) rfl | exact .r rfl rfl (by omega) (by omega) (by exact nth_Wh) rfl | exact .s rfl (by omega) (by assumption) | exact at_ | assumption | exact .r rfl rfl | exact .h rfl rfl rfl (by omega) | exact .l rfl rfl rfl (by omega) (by omega) | exact .g rfl rfl rfl rfl (by omega) (by omega) | exact .h rfl rfl (toN_ (by omega)) (by omega) | exact .l rfl rfl (toN_ (by omega)) (by omega) (by omega) | exact .g rfl rfl (toN_ (by omega)) (toN_ (by omega)) (by omega) (by omega) | exact .o (by decide) | exact .f (by decide) | exact .n (by omega) (by first | decide | (show _ ≤ ((64 : Nat) : Int); omega)) | (constructor; (repeat (first | exact .t (by omega) | exact .f (by omega) | exact .u | exact .i (by omega) | exact .v (by omega) | exact .b (by omega) | exact .w | rfl | omega)); first | done | fail) | omega | (show _ ≤ ((64 : Nat) : Int); omega)) : φ := h
theorem pv_Wh {φ : Prop} (h : φ := by constructor; (repeat exact cl_Wh); first | done | fail) : φ := h
theorem su_Wh {φ ψ : Prop} (k : ψ) (h : Hide ψ → φ := by (intro k; (first | refine sl_pu (PuI.sep (by exact pv_Wh)) rfl ?_ | refine sl_yes rfl rfl ?_ | refine sl_no rfl rfl rfl ?_ | refine sl_off rfl rfl rfl ?_ | (fail)); exact k.out)) : φ := h ⟨k⟩
theorem rq_Wh {φ ψ : Prop} (k : ψ) (h : Hide ψ → φ := by (intro k; (first | refine wq_pu (PuI.sep (by exact pv_Wh)) rfl ?_ | refine wq_yes rfl rfl ?_ | refine wq_no rfl rfl rfl ?_ | refine wq_off rfl rfl rfl ?_ | (fail)); exact k.out)) : φ := h ⟨k⟩
theorem sto_Wh {φ ψ : Prop} (k : ψ) (h : Hide ψ → φ := by (intro k; (first | refine sl_store rfl (by exact pick_) rfl rfl (by kernel_rfl) (by exact set_Wh) ?_ | refine sl_store_whole rfl (by exact pick_) rfl (by exact sz_Wh) (by exact sz_Wh) (by exact one_Wh) ?_); exact k.out)) : φ := h ⟨k⟩
theorem go_Wh {φ ψ : Prop} (k : ψ) (h : Hide ψ → φ := by (intro k; (repeat (first | refine su_Wh ?_ | refine so_ ?_ | refine sto_Wh ?_)); exact k.out)) : φ := h ⟨k⟩
set_option maxRecDepth 100000 in
set_option maxHeartbeats 4000000 in
theorem parse_ok {K : List Fa} (hg : Vw K Glob) (l : List UInt8) (hl : l.length ≤ 1048576) (ha : ∀ b ∈ l, b.toNat < 128) (hok : ∀ x ∈ linesL l, ∃ ss, txtSt x = some ss) :
    Fn Tryd.prog 10 #[.string (sOf l)] K (Ret (fun _ : Option Addr × Nat => True) (fun q => .tuple #[.slice q.1 (prsL (linesL l) 0 []).1.length q.2, .int .i64 (prsL (linesL l) 0 []).2.1, .int .i64 (prsL (linesL l) 0 []).2.2])
      (fun q => own 47 87 q.1 (prsL (linesL l) 0 []).1.length q.2 (rows stC (prsL (linesL l) 0 []).1) :: K)) := by
  have hz := sOf_size l
  have hll : (lineL l).length = (linesL l).length := by rw [lineL_eq, List.length_map]
  have hmany : (linesL l).length ≤ 1048577 := by
    rw [← hll, lineL_len]
    have := Lib.countB_le ⟨#[10]⟩ (by decide) (sOf l).size (sOf l) (Nat.le_refl _)
    omega
  refine fn_enter Tryd.func10 rfl _ Tryd.ntmps10 (by simp) [(0, .string (sOf l))] (args_of (by simp)) ?_
  refine go_Wh ?_
  refine sl_call rfl rfl (by kernel_rfl) rfl Sub.refl (split_ok hg l hl) ?_
  rintro g -
  rw [hll]
  refine go_Wh ?_
  generalize hR : prsL (linesL l) 0 [] = R
  refine sc_for (fun p : Ps => [(5, .slice p.A p.acc.length p.c), (15, .slice (some ⟨g, 0, none⟩) (linesL l).length (linesL l).length), (16, .int .i64 (linesL l).length), (17, .int .i64 p.j)]) (fun p => own 47 87 p.A p.acc.length p.c (rows stC p.acc) :: blk g 9 ((lineL l).map Value.string) :: K)
    (fun p => p.j ≤ (linesL l).length ∧ p.acc.length ≤ 4096 ∧ prsL ((linesL l).drop p.j) p.j p.acc = R) (fun p => (linesL l).length - p.j) ⟨0, none, 0, []⟩ (by exact has_) (by exact Sub.own_nil Sub.refl) ⟨Nat.zero_le _, Nat.zero_le _, hR⟩ ?_
  rintro ⟨j, A, c, acc⟩ ⟨hj, hac, hp⟩
  dsimp only at hj hac hp ⊢
  by_cases hlt : j < (linesL l).length
  · obtain ⟨x, hx⟩ : ∃ x, (linesL l)[j]? = some x := ⟨(linesL l)[j], List.getElem?_eq_getElem hlt⟩
    have hxm := List.mem_of_getElem? hx
    obtain ⟨hxl, hxb⟩ := linesL_sub hxm
    obtain ⟨ss, hss⟩ := hok x hxm
    obtain ⟨hcl, hcb⟩ := cut_sub x
    rw [show (linesL l).drop j = x :: (linesL l).drop (j + 1) from by rw [List.drop_eq_getElem_cons hlt]; congr 1; exact (List.getElem?_eq_some_iff.1 hx).2, prsL, hss, Option.getD_some] at hp
    refine go_Wh ?_
    refine sl_pu (pu_ldr (Vw.of_blk (g := g) (t := 9) (cs := (lineL l).map Value.string) (by exact at_) rfl) (by rw [List.length_map, hll]; omega) rfl rfl (lineL_get hx)) rfl ?_
    refine go_Wh ?_
    refine sl_call rfl rfl (by kernel_rfl) rfl Sub.refl (cut_ok (hg.mono (by exact sub_)) x (by omega)) ?_
    rintro _ -
    refine go_Wh ?_
    refine sl_call rfl rfl (by kernel_rfl) rfl Sub.refl (fields_ok (hg.mono (by exact sub_)) _ (by omega) (fun b hb => ha b (hxb b (hcb b hb)))) ?_
    rintro g2 -
    have hwe : Lib.fields (Lib.cut x [35]).1 = wordsOf x := rfl
    rw [hwe]
    have hwl := words_len (l := x) (by omega)
    by_cases h0 : wordsOf x = []
    · unfold txtSt at hss
      rw [h0] at hss ⊢
      cases hss
      rw [if_neg (by simp; omega), List.append_nil] at hp
      refine go_Wh ?_
      exact se_round ⟨j + 1, A, c, acc⟩ (by exact has_) (by exact sub_) ⟨hlt, hac, hp⟩ (by dsimp only; omega)
    have h1 : 0 < (wordsOf x).length := List.length_pos_iff.2 h0
    have hW : Wds [blk g2 9 ((wordsOf x).map encW)] (some ⟨g2, 0, none⟩) (wordsOf x).length (wordsOf x) := ⟨Vw.of_blk .here (by rw [List.length_map]), Nat.le_refl _⟩
    refine go_Wh ?_
    refine sl_call rfl rfl (by kernel_rfl) rfl Sub.refl (lineW_ok (Sub.cons (by exact pick_) Sub.nil) hW hss h0 hwl).2 ?_
    rintro ⟨A1, c1⟩ -
    have hs4 := (lineW_ok (K := [blk g2 9 ((wordsOf x).map encW)]) Sub.refl hW hss h0 hwl).1
    by_cases h4 : 4096 < acc.length + ss.length
    · rw [if_pos h4] at hp
      subst hp
      refine go_Wh ?_
      exact se_ret3 (none, 0) trivial rfl rfl rfl rfl rfl (by exact Sub.own_nil (by exact sub_))
    · rw [if_neg h4] at hp
      refine go_Wh ?_
      refine sl_app rfl (by exact pick_) rfl (Vw.of_own (A := A1) (c := c1) (e := 47) (by exact at_)) (rows_one_cell stC_one ss) rfl infoSt (by decide) (by decide) rfl (by unfold maxLen; omega) (by omega) ?_
      intro A' c'
      rw [← rows_app]
      refine go_Wh ?_
      refine se_round ⟨j + 1, A', c', acc ++ ss⟩ (by rw [List.length_append]; exact has_) (by dsimp only; rw [List.length_append]; exact sub_) ⟨hlt, by rw [List.length_append]; omega, hp⟩ (by dsimp only; omega)
  · obtain rfl : j = (linesL l).length := by omega
    rw [List.drop_length] at hp
    subst hp
    refine go_Wh ?_
    exact se_ret3 (A, c) trivial rfl rfl rfl rfl rfl (by exact sub_)
end Go.Proofs.YtfnjeojaahnlfaaDoor
