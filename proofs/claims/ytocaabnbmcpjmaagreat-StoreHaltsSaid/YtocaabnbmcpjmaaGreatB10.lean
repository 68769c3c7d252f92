/- Several texts of one claim, one behind the other (Rq5, Rq6, Ro1, Un1, Un2, Srt, Rd, Df, Rs, Rn, Dr). -/
import Derived.Test.YtocaabnbmcpjmaaGreatB09
import Derived.Test.YtocaabnbmcpjmaaGreatB06
import Derived.Test.YtocaabnbmcpjmaaGreatB05
import Derived.Shelf.SlSortCmp.NoneTotal
import Derived.Ground.SlsfProg
set_option linter.unusedVariables false
set_option linter.unusedSimpArgs false
/- The index: New, Add, Get, Len, List. -/
namespace Go.Proofs.YtocaabnbmcpjmaaGreat
open Go.RowKit
attribute [local irreducible] Go.Calls Go.Exit.then Go.Exit.inBlock Go.bodyPost Go.Code.wp Go.wpList

theorem nth_Rq5 {φ : Prop} (h : φ := by (first | rfl | first | exact Seen.nt _ | exact Seen.nc _)) : φ := h
theorem mid_Rq5 {φ : Prop} (h : φ := by (first | first | exact Seen.mid _ | exact Mid.all | exact Mid.head)) : φ := h
theorem sz_Rq5 {φ : Prop} (h : φ := by (first | rfl | (simp only [Seen.len, bytes_length, Id.len]; rfl; first | done | fail))) : φ := h
theorem one_Rq5 {φ : Prop} (h : φ := by (first | assumption | exact one_bytes _ | (simp only [List.mem_cons, List.not_mem_nil, or_false, forall_eq_or_imp, forall_eq]; decide) | exact one_bytes _ | (intro v hv; (repeat (rcases List.mem_cons.1 hv with rfl | hv; rfl)); cases hv))) : φ := h
theorem set_Rq5 {φ : Prop} (h : φ := by (first | (fail) | ((repeat (first | exact SetAt.here | apply SetAt.there)); first | done | fail))) : φ := h
theorem cl_Rq5 {φ : Prop} (h : φ := by first | rfl | exact .t | exact .f | exact .t (by omega) | exact .f (by omega) | exact .u | exact .i (by (first | exact .t (by omega) | exact .f (by omega) | exact .u | exact .i (by omega) | exact .v (by omega) | exact .b (by omega) | exact .w | rfl | omega)) | exact .v (by omega) | exact .b (by omega) | exact .q (by omega) | exact .w | exact .b (by exact at_) rfl (by exact nth_Rq5) | exact .w (by exact at_) rfl rfl (by exact sz_Rq5) | exact .s (by exact at_) (by exact mid_Rq5) rfl rfl (by exact sz_Rq5) | exact .z rfl rfl ⟨by kernel_rfl⟩ | exact .b rfl rfl ⟨by kernel_rfl⟩ | exact .a rfl rfl ⟨by kernel_rfl⟩ | exact .o rfl | exact .s | exact .n | exact .p rfl | exact .q rfl | exact .c rfl | exact .d rfl | exact .n rfl rfl (by omega) | exact .a rfl rfl (by omega) | exact .p rfl rfl (by omega) (by omega) | exact .y rfl rfl (by omega) (by omega) | exact .o (by exact at_) (by omega) rfl (by exact nth_Rq5) | exact .m (by exact at_) (by omega) (by exact mid_Rq5) rfl rfl (by exact sz_Rq5) | exact .mlen (by exact at_) rfl | exact .t (by exact at_) rfl rfl (by first | exact True.intro | rfl) (by assumption) | exact .f (by exact at_) rfl rfl (by first | exact True.intro | rfl) (by assumption) rfl | exact .t1 (by exact at_) rfl rfl (by first | exact True.intro | rfl) (by assumption) | exact .f1 (by exact at_) rfl rfl (by first | exact True.intro | rfl) (by assumption) rfl | exact .tk (by exact at_) rfl (by assumption) (by assumption) | exact .fk (by exact at_) rfl (by assumption) (by assumption) rfl | exact .tk1 (by exact at_) rfl (by assumption) (by assumption) | exact .fk1 (by exact at_) rfl (by assumption) (by assumption) rfl | exact .r rfl rfl (by omega) (by omega) (by exact nth_Rq5) rfl | exact .s rfl (by omega) (by assumption) | exact at_ | assumption | exact .r rfl rfl | exact .h rfl rfl rfl (by omega) | exact .l rfl rfl rfl (by omega) (by omega) | exact .g rfl rfl rfl rfl (by omega) (by omega) | exact .h rfl rfl (toN_ (by omega)) (by omega) | exact .l rfl rfl (toN_ (by omega)) (by omega) (by omega) | exact .g rfl rfl (toN_ (by omega)) (toN_ (by omega)) (by omega) (by omega) | exact .o (by decide) | exact .f (by decide) | exact .n (by omega) (by first | decide | (show _ ≤ ((64 : Nat) : Int); omega)) | (constructor; (repeat (first | exact .t (by omega) | exact .f (by omega) | exact .u | exact .i (by omega) | exact .v (by omega) | exact .b (by omega) | exact .w | rfl | omega)); first | done | fail) | omega | (show _ ≤ ((64 : Nat) : Int); omega)) : φ := h
theorem pv_Rq5 {φ : Prop} (h : φ := by constructor; (repeat exact cl_Rq5); first | done | fail) : φ := h
theorem su_Rq5 {φ ψ : Prop} (k : ψ) (h : Hide ψ → φ := by (intro k; (first | refine sl_pu (PuI.sep (by exact pv_Rq5)) rfl ?_ | refine sl_yes rfl rfl ?_ | refine sl_no rfl rfl rfl ?_ | refine sl_off rfl rfl rfl ?_ | (fail)); exact k.out)) : φ := h ⟨k⟩
theorem rq_Rq5 {φ ψ : Prop} (k : ψ) (h : Hide ψ → φ := by (intro k; (first | refine wq_pu (PuI.sep (by exact pv_Rq5)) rfl ?_ | refine wq_yes rfl rfl ?_ | refine wq_no rfl rfl rfl ?_ | refine wq_off rfl rfl rfl ?_ | (fail)); exact k.out)) : φ := h ⟨k⟩
theorem sto_Rq5 {φ ψ : Prop} (k : ψ) (h : Hide ψ → φ := by (intro k; (first | refine sl_store rfl (by exact pick_) rfl rfl (by kernel_rfl) (by exact set_Rq5) ?_ | refine sl_store_whole rfl (by exact pick_) rfl (by exact sz_Rq5) (by exact sz_Rq5) (by exact one_Rq5) ?_); exact k.out)) : φ := h ⟨k⟩
theorem go_Rq5 {φ ψ : Prop} (k : ψ) (h : Hide ψ → φ := by (intro k; (repeat (first | refine su_Rq5 ?_ | refine so_ ?_ | refine sto_Rq5 ?_)); exact k.out)) : φ := h ⟨k⟩
/-- What an Index at x is in memory. -/
abbrev ixb (x : Nat) (A : Option Addr) (n c : Nat) (lim : Int) : Fa := blk x 159 [.slice A n c, .int .i64 lim]
abbrev ixo (A : Option Addr) (c : Nat) (ss : List Seen) : Fa := own 62 18 A ss.length c (rows Seen.cells ss)

theorem list18 {cs : List Value} (h : cs.length = 18) : ∃ a0 a1 a2 a3 a4 a5 a6 a7 a8 a9 a10 a11 a12 a13 a14 a15 a16 a17, cs = [a0, a1, a2, a3, a4, a5, a6, a7, a8, a9, a10, a11, a12, a13, a14, a15, a16, a17] := by
  match cs, h with
  | [a0, a1, a2, a3, a4, a5, a6, a7, a8, a9, a10, a11, a12, a13, a14, a15, a16, a17], _ => exact ⟨a0, a1, a2, a3, a4, a5, a6, a7, a8, a9, a10, a11, a12, a13, a14, a15, a16, a17, rfl⟩
theorem build_18 (a0 a1 a2 a3 a4 a5 a6 a7 a8 a9 a10 a11 a12 a13 a14 a15 a16 a17 : Value) (W : World) : (Instr.buildSlice 79 1 #[(0, .agg #[a0, a1, a2, a3, a4, a5, a6, a7, a8, a9, a10, a11, a12, a13, a14, a15, a16, a17])]).run Tryz.prog W = .ok (.slice (some ⟨W.heap.size, 0, none⟩) 1 1) (W.alloc (.cells #[a0, a1, a2, a3, a4, a5, a6, a7, a8, a9, a10, a11, a12, a13, a14, a15, a16, a17] 62)) := by kernel_rfl
theorem build_seen (s : Seen) (W : World) : (Instr.buildSlice 79 1 #[(0, s.v)]).run Tryz.prog W = .ok (.slice (some ⟨W.heap.size, 0, none⟩) 1 1) (W.alloc (.cells s.cells.toArray 62)) := by
  have hl := s.len
  unfold Seen.v
  generalize s.cells = cs at *
  obtain ⟨a0, a1, a2, a3, a4, a5, a6, a7, a8, a9, a10, a11, a12, a13, a14, a15, a16, a17, rfl⟩ := list18 hl
  exact build_18 _ _ _ _ _ _ _ _ _ _ _ _ _ _ _ _ _ _ W
def insAt (ss : List Seen) (s : Seen) : List Seen := ss.take (posI ss s.id) ++ s :: ss.drop (posI ss s.id)
/-- Add: what it answers, what there is behind it. -/
def addI (lim : Int) (ss : List Seen) (s : Seen) : Int × List Seen :=
  if 1099511627776 < s.t then (6, ss) else if hasI ss s.id then (14, ss) else if lim ≤ ss.length then (18, ss) else (0, insAt ss s)
theorem posI_le (ss : List Seen) (id : Id) : posI ss id ≤ ss.length := by
  unfold posI
  exact (List.takeWhile_prefix _).length_le
theorem insAt_len (ss : List Seen) (s : Seen) : (insAt ss s).length = ss.length + 1 := by
  have := posI_le ss s.id
  simp [insAt]
  omega

set_option maxRecDepth 100000 in
theorem new_ok {K : List Fa} (lim : Int) : Fn Tryz.prog 43 #[.int .i64 lim] K (Ret (fun _ : Nat => True) (fun x => .pointer (some ⟨x, 0, none⟩)) (fun x => ixb x none 0 0 (min (max lim 0) 256) :: K)) := by
  refine fn_enter Tryz.func43 rfl _ Tryz.ntmps43 (by simp) [(0, .int .i64 lim)] (args_of (by simp)) ?_
  refine go_Rq5 ?_
  have hl : (if 256 < if lim < 0 then 0 else lim then 256 else if lim < 0 then 0 else lim) = min (max lim 0) 256 := by
    repeat' split
    all_goals omega
  rw [hl]
  generalize min (max lim 0) 256 = N
  refine sl_pu (pu_build (v := .agg #[.slice none 0 0, .int .i64 N]) rfl (fun W => by kernel_rfl)) rfl ?_
  refine sl_box rfl rfl rfl ?_; intro x
  refine go_Rq5 ?_
  exact se_ret1 x trivial rfl rfl (by exact sub_)

set_option maxRecDepth 100000 in
set_option maxHeartbeats 4000000 in
theorem add_ok {K : List Fa} {x c : Nat} {A : Option Addr} {ss : List Seen} {lim : Int} (s : Seen) (hs : Srt ss) (hn : ss.length ≤ 1000000) :
    Fn Tryz.prog 100 #[.pointer (some ⟨x, 0, none⟩), s.v] (ixb x A ss.length c lim :: ixo A c ss :: K)
      (Ret (fun _ : Option Addr × Nat => True) (fun _ => .int .i64 (addI lim ss s).1) (fun p => ixb x p.1 (addI lim ss s).2.length p.2 lim :: ixo p.1 p.2 (addI lim ss s).2 :: K)) := by
  have htb := s.tb
  have hcb := s.cb
  refine fn_enter Tryz.func100 rfl _ Tryz.ntmps100 (by simp) [(0, .pointer (some ⟨x, 0, none⟩)), (1, s.v)] (args_of (by simp)) ?_
  refine go_Rq5 ?_
  refine sl_box rfl rfl rfl ?_; intro gs
  by_cases ht : 1099511627776 < s.t
  · have hadd : addI lim ss s = (6, ss) := by unfold addI; rw [if_pos ht]
    rw [hadd]
    refine go_Rq5 ?_
    exact se_ret1 (A, c) trivial rfl rfl (by exact sub_)
  have hr : Vw (blk gs 62 s.cells :: ixb x A ss.length c lim :: ixo A c ss :: K) (fun w => Reads w 18 A ss.length (rows Seen.cells ss)) := Vw.of_own (by exact at_)
  refine go_Rq5 ?_
  refine sl_call rfl rfl (by kernel_rfl) rfl (by exact sub_) (find_ok s.id (by exact at_) hr hs (by omega)) ?_; rintro _ -
  by_cases hh : hasI ss s.id = true
  · have hadd : addI lim ss s = (14, ss) := by unfold addI; rw [if_neg ht, if_pos hh]
    rw [hadd, hh]
    refine go_Rq5 ?_
    exact se_ret1 (A, c) trivial rfl rfl (by exact sub_)
  have hf : hasI ss s.id = false := by simpa using hh
  rw [hf]
  by_cases hl : lim ≤ ss.length
  · have hadd : addI lim ss s = (18, ss) := by unfold addI; rw [if_neg ht, hf, if_neg (by decide), if_pos hl]
    rw [hadd]
    refine go_Rq5 ?_
    ((refine sq_region (by kernel_rfl) (by kernel_rfl) ?_; (repeat refine rq_Rq5 ?_); refine sq_end ?_))
    refine go_Rq5 ?_
    exact se_ret1 (A, c) trivial rfl rfl (by exact sub_)
  · have hadd : addI lim ss s = (0, insAt ss s) := by unfold addI; rw [if_neg ht, hf, if_neg (by decide), if_neg hl]
    rw [hadd]
    refine go_Rq5 ?_
    ((refine sq_region (by kernel_rfl) (by kernel_rfl) ?_; (repeat refine rq_Rq5 ?_); refine sq_end ?_))
    refine go_Rq5 ?_
    refine sd_drawn (fun W => AllP W [blk gs 62 s.cells, ixb x A ss.length c lim]) (fun i => Nat.blt i 10) (by kernel_rfl) 13 rfl ?_
    (refine sd_take 0 rfl (by kernel_rfl) (by exact nop_) (PuI.all (by exact pv_Rq5)) rfl (fun w hw => all_ hw) ?_)
    (refine sd_take 1 rfl (by kernel_rfl) (by exact nop_) (PuI.all (by exact pv_Rq5)) rfl (fun w hw => all_ hw) ?_)
    (refine sd_take 2 rfl (by kernel_rfl) (by exact nop_) (PuI.all (by exact pv_Rq5)) rfl (fun w hw => all_ hw) ?_)
    (refine sd_take 3 rfl (by kernel_rfl) (by exact nop_) (PuI.all (by exact pv_Rq5)) rfl (fun w hw => all_ hw) ?_)
    (refine sd_take 4 rfl (by kernel_rfl) (by exact nop_) (PuI.all (by exact pv_Rq5)) rfl (fun w hw => all_ hw) ?_)
    (refine sd_take 6 rfl (by kernel_rfl) (by exact nop_) (PuI.all (by exact pv_Rq5)) rfl (fun w hw => all_ hw) ?_)
    (refine sd_take 7 rfl (by kernel_rfl) (by exact nop_) (PuI.all (by exact pv_Rq5)) rfl (fun w hw => all_ hw) ?_)
    refine sd_two 5 8 (by kernel_rfl) ?_ ?_
    · refine sa_call 5 rfl rfl rfl (by kernel_rfl) rfl (by exact sub_) (rclone_ok hr (rows_one_cell Seen.one ss) (by omega)) (fun _ a w hw => all_ hw) ?_
      rintro ⟨A1, c1⟩ -
      dsimp only
      refine sd_build (size := 18) (e := 62) (cells := s.cells) 8 (by kernel_rfl) rfl rfl (fun W => build_seen s W) (by rw [s.len]) (by decide) rfl (fun _ g w hw => all_ hw) ?_
      intro gv
      refine sd_call 9 (by kernel_rfl) rfl rfl rfl (by kernel_rfl) rfl (by exact sub_) (insert_ok (A := A1) (c := c1) (g := gv) (s := s) (posI_le ss s.id) (by omega)) (fun _ a w hw => all_ hw) ?_
      rintro ⟨A2, c2⟩ -
      dsimp only
      (refine sd_pu 10 (by kernel_rfl) rfl (PuI.sep (by exact pv_Rq5)) rfl (fun hnd w hw => by first | trivial | exact all_ hw | cases hnd) ?_)
      (refine sd_pu 11 (by kernel_rfl) rfl (PuI.sep (by exact pv_Rq5)) rfl (fun hnd w hw => by first | trivial | exact all_ hw | cases hnd) ?_)
      refine sd_store 12 (by kernel_rfl) rfl rfl (by exact pick_) rfl rfl (by kernel_rfl) (by exact set_Rq5) (fun e => by cases e) ?_
      refine sd_done (by kernel_rfl) ?_
      refine go_Rq5 ?_
      refine se_ret1 (A2, c2) trivial rfl rfl ?_
      show Sub _ (ixb x A2 (insAt ss s).length c2 lim :: own 62 18 A2 (insAt ss s).length c2 (rows Seen.cells (insAt ss s)) :: K)
      rw [insAt_len]
      exact sub_
    · refine sa_build (size := 18) (e := 62) (cells := s.cells) 8 rfl rfl (fun W => build_seen s W) (by rw [s.len]) (by decide) rfl (fun _ g w hw => all_ hw) ?_
      intro gv
      refine sd_call 5 (by kernel_rfl) rfl rfl rfl (by kernel_rfl) rfl (by exact sub_) (rclone_ok (Vw.of_own (by exact at_)) (rows_one_cell Seen.one ss) (by omega)) (fun _ a w hw => all_ hw) ?_
      rintro ⟨A1, c1⟩ -
      dsimp only
      refine sd_call 9 (by kernel_rfl) rfl rfl rfl (by kernel_rfl) rfl (by exact sub_) (insert_ok (A := A1) (c := c1) (g := gv) (s := s) (posI_le ss s.id) (by omega)) (fun _ a w hw => all_ hw) ?_
      rintro ⟨A2, c2⟩ -
      dsimp only
      (refine sd_pu 10 (by kernel_rfl) rfl (PuI.sep (by exact pv_Rq5)) rfl (fun hnd w hw => by first | trivial | exact all_ hw | cases hnd) ?_)
      (refine sd_pu 11 (by kernel_rfl) rfl (PuI.sep (by exact pv_Rq5)) rfl (fun hnd w hw => by first | trivial | exact all_ hw | cases hnd) ?_)
      refine sd_store 12 (by kernel_rfl) rfl rfl (by exact pick_) rfl rfl (by kernel_rfl) (by exact set_Rq5) (fun e => by cases e) ?_
      refine sd_done (by kernel_rfl) ?_
      refine go_Rq5 ?_
      refine se_ret1 (A2, c2) trivial rfl rfl ?_
      show Sub _ (ixb x A2 (insAt ss s).length c2 lim :: own 62 18 A2 (insAt ss s).length c2 (rows Seen.cells (insAt ss s)) :: K)
      rw [insAt_len]
      exact sub_

end Go.Proofs.YtocaabnbmcpjmaaGreat
/- Get; chapter 18's example; ReplayOrder. -/
namespace Go.Proofs.YtocaabnbmcpjmaaGreat
open Go.RowKit
attribute [local irreducible] Go.Calls Go.Exit.then Go.Exit.inBlock Go.bodyPost Go.Code.wp Go.wpList

theorem nth_Rq6 {φ : Prop} (h : φ := by (first | rfl | first | exact Seen.nt _ | exact Seen.nc _)) : φ := h
theorem mid_Rq6 {φ : Prop} (h : φ := by (first | first | exact Seen.mid _ | exact Mid.all | exact Mid.head)) : φ := h
theorem sz_Rq6 {φ : Prop} (h : φ := by (first | rfl | (simp only [Seen.len, bytes_length, Id.len]; rfl; first | done | fail))) : φ := h
theorem one_Rq6 {φ : Prop} (h : φ := by (first | assumption | exact Seen.one _ | (simp only [List.mem_cons, List.not_mem_nil, or_false, forall_eq_or_imp, forall_eq]; decide) | exact one_bytes _ | (intro v hv; (repeat (rcases List.mem_cons.1 hv with rfl | hv; rfl)); cases hv))) : φ := h
theorem set_Rq6 {φ : Prop} (h : φ := by (first | (fail) | ((repeat (first | exact SetAt.here | apply SetAt.there)); first | done | fail))) : φ := h
theorem cl_Rq6 {φ : Prop} (h : φ := by first | rfl | exact .t | exact .f | exact .t (by omega) | exact .f (by omega) | exact .u | exact .i (by (first | exact .t (by omega) | exact .f (by omega) | exact .u | exact .i (by omega) | exact .v (by omega) | exact .b (by omega) | exact .w | rfl | omega)) | exact .v (by omega) | exact .b (by omega) | exact .q (by omega) | exact .w | exact .b (by exact at_) rfl (by exact nth_Rq6) | exact .w (by exact at_) rfl rfl (by exact sz_Rq6) | exact .s (by exact at_) (by exact mid_Rq6) rfl rfl (by exact sz_Rq6) | exact .z rfl rfl ⟨by kernel_rfl⟩ | exact .b rfl rfl ⟨by kernel_rfl⟩ | exact .a rfl rfl ⟨by kernel_rfl⟩ | exact .o rfl | exact .s | exact .n | exact .p rfl | exact .q rfl | exact .c rfl | exact .d rfl | exact .n rfl rfl (by omega) | exact .a rfl rfl (by omega) | exact .p rfl rfl (by omega) (by omega) | exact .y rfl rfl (by omega) (by omega) | exact .o (by exact at_) (by omega) rfl (by exact nth_Rq6) | exact .m (by exact at_) (by omega) (by exact mid_Rq6) rfl rfl (by exact sz_Rq6) | exact .mlen (by exact at_) rfl | exact .t (by exact at_) rfl rfl (by first | exact True.intro | rfl) (by assumption) | exact .f (by exact at_) rfl rfl (by first | exact True.intro | rfl) (by assumption) rfl | exact .t1 (by exact at_) rfl rfl (by first | exact True.intro | rfl) (by assumption) | exact .f1 (by exact at_) rfl rfl (by first | exact True.intro | rfl) (by assumption) rfl | exact .tk (by exact at_) rfl (by assumption) (by assumption) | exact .fk (by exact at_) rfl (by assumption) (by assumption) rfl | exact .tk1 (by exact at_) rfl (by assumption) (by assumption) | exact .fk1 (by exact at_) rfl (by assumption) (by assumption) rfl | exact .r rfl rfl (by omega) (by omega) (by exact nth_Rq6) rfl | exact .s rfl (by omega) (by assumption) | exact at_ | assumption | exact .r rfl rfl | exact .h rfl rfl rfl (by omega) | exact .l rfl rfl rfl (by omega) (by omega) | exact .g rfl rfl rfl rfl (by omega) (by omega) | exact .h rfl rfl (toN_ (by omega)) (by omega) | exact .l rfl rfl (toN_ (by omega)) (by omega) (by omega) | exact .g rfl rfl (toN_ (by omega)) (toN_ (by omega)) (by omega) (by omega) | exact .o (by decide) | exact .f (by decide) | exact .n (by omega) (by first | decide | (show _ ≤ ((64 : Nat) : Int); omega)) | (constructor; (repeat (first | exact .t (by omega) | exact .f (by omega) | exact .u | exact .i (by omega) | exact .v (by omega) | exact .b (by omega) | exact .w | rfl | omega)); first | done | fail) | omega | (show _ ≤ ((64 : Nat) : Int); omega)) : φ := h
theorem pv_Rq6 {φ : Prop} (h : φ := by constructor; (repeat exact cl_Rq6); first | done | fail) : φ := h
theorem su_Rq6 {φ ψ : Prop} (k : ψ) (h : Hide ψ → φ := by (intro k; (first | refine sl_pu (PuI.sep (by exact pv_Rq6)) rfl ?_ | refine sl_yes rfl rfl ?_ | refine sl_no rfl rfl rfl ?_ | refine sl_off rfl rfl rfl ?_ | (fail)); exact k.out)) : φ := h ⟨k⟩
theorem sto_Rq6 {φ ψ : Prop} (k : ψ) (h : Hide ψ → φ := by (intro k; (first | refine sl_store rfl (by exact pick_) rfl rfl (by kernel_rfl) (by exact set_Rq6) ?_ | refine sl_store_whole rfl (by exact pick_) rfl (by exact sz_Rq6) (by exact sz_Rq6) (by exact one_Rq6) ?_); exact k.out)) : φ := h ⟨k⟩
theorem go_Rq6 {φ ψ : Prop} (k : ψ) (h : Hide ψ → φ := by (intro k; (repeat (first | refine su_Rq6 ?_ | refine so_ ?_ | refine sto_Rq6 ?_)); exact k.out)) : φ := h ⟨k⟩
theorem id0_ok : IsBytes (List.replicate 16 0) := by
  intro x hx
  obtain ⟨_, rfl⟩ := List.mem_replicate.1 hx
  decide
def id0 : Id := ⟨List.replicate 16 0, rfl, id0_ok⟩
def seen0 : Seen := ⟨id0, 0, 0, by decide, by decide⟩
/-- What there is of an id. -/
def getI (ss : List Seen) (id : Id) : Seen := (ss[posI ss id]?).getD seen0
def gotI (ss : List Seen) (id : Id) : Seen := if hasI ss id then getI ss id else seen0
/-- Where there is one, it stands where it would be put. -/
theorem hasI_pos {ss : List Seen} (hs : Srt ss) {id : Id} (h : hasI ss id = true) : ∃ s, ss[posI ss id]? = some s ∧ s.id = id := by
  unfold hasI at h
  rw [List.any_eq_true] at h
  obtain ⟨s, hm, he⟩ := h
  obtain ⟨i, hi⟩ := List.getElem?_of_mem hm
  have he' : cmpI s.id.l id.l = 0 := by simpa using he
  have hsid := (Id.eq_iff _ _).1 he'
  have hp : posI ss id = i := posI_eq (Nat.le_of_lt (List.getElem?_eq_some_iff.1 hi).1)
    (fun k u hk hu => by rw [← hsid]; exact hs.lt hk hu hi)
    (fun k u hk hu => by
      rcases Nat.lt_or_ge i k with h1 | h1
      · have h2 := hs.lt h1 hi hu
        rw [← hsid]
        have := cmpI_swap s.id.l u.id.l
        omega
      · obtain rfl : k = i := by omega
        rw [hi] at hu
        injection hu with hu
        subst hu
        omega)
  rw [hp]
  exact ⟨s, hi, hsid⟩

set_option maxRecDepth 100000 in
set_option maxHeartbeats 2000000 in
theorem get_ok {K : List Fa} {x c : Nat} {A : Option Addr} {ss : List Seen} {lim : Int} (id : Id) (hs : Srt ss) (hn : ss.length ≤ 1000000) :
    Fn Tryz.prog 48 #[.pointer (some ⟨x, 0, none⟩), id.v] (ixb x A ss.length c lim :: ixo A c ss :: K)
      (Ret (fun _ : Unit => True) (fun _ => .tuple #[(gotI ss id).v, .bool (hasI ss id)]) (fun _ => ixb x A ss.length c lim :: ixo A c ss :: K)) := by
  refine fn_enter Tryz.func48 rfl _ Tryz.ntmps48 (by simp) [(0, .pointer (some ⟨x, 0, none⟩)), (1, id.v)] (args_of (by simp)) ?_
  refine go_Rq6 ?_
  refine sl_box rfl rfl rfl ?_; intro gi
  refine sl_alloc rfl rfl rfl ?_; intro go
  refine go_Rq6 ?_
  refine sl_call rfl rfl (by kernel_rfl) rfl (by exact sub_) (find_ok id (by exact at_) (Vw.of_own (by exact at_)) hs (by omega)) ?_; rintro _ -
  by_cases hh : hasI ss id = true
  · have hg : gotI ss id = getI ss id := by unfold gotI; rw [if_pos hh]
    obtain ⟨s, hs1, hs2⟩ := hasI_pos hs hh
    have hg2 : getI ss id = s := by unfold getI; rw [hs1]; rfl
    have hlt := (List.getElem?_eq_some_iff.1 hs1).1
    rw [hg, hg2, hh]
    refine go_Rq6 ?_
    refine sl_form (A := A) (by exact at_) (by omega) ?_
    rintro g0 rfl
    refine go_Rq6 ?_
    refine sl_pu (pu_ldrs (Vw.of_own (by exact at_)) (by omega) rfl (rows_mid Seen.len hs1) rfl rfl (by exact sz_Rq6)) rfl ?_
    refine go_Rq6 ?_
    exact se_ret_ct () trivial rfl rfl (by exact at_) rfl rfl (by exact sz_Rq6) rfl rfl (by exact sub_)
  · have hf : hasI ss id = false := by simpa using hh
    have hg : gotI ss id = seen0 := by unfold gotI; rw [if_neg hh]
    rw [hg, hf]
    refine go_Rq6 ?_
    refine sl_pu (pu_build (v := seen0.v) rfl (fun W => by kernel_rfl)) rfl ?_
    refine go_Rq6 ?_
    exact se_ret_ct () trivial rfl rfl (by exact at_) rfl rfl (by exact sz_Rq6) rfl rfl (by exact sub_)

/-! Chapter 18's example. -/
theorem srt_nil : Srt [] := List.Pairwise.nil
/-! ReplayOrder. -/
end Go.Proofs.YtocaabnbmcpjmaaGreat
/- ReplayOnce. -/
namespace Go.Proofs.YtocaabnbmcpjmaaGreat
open Go.RowKit
attribute [local irreducible] Go.Calls Go.Exit.then Go.Exit.inBlock Go.bodyPost Go.Code.wp Go.wpList

/-! An index with one more. -/
theorem tw_take (p : Seen → Bool) : ∀ (ss : List Seen) (s : Seen), s ∈ ss.take (ss.takeWhile p).length → p s = true
  | [], s, h => by simp at h
  | a :: r, s, h => by
    by_cases hp : p a = true
    · rw [List.takeWhile_cons_of_pos hp, List.length_cons, List.take_succ_cons] at h
      rcases List.mem_cons.1 h with e | e
      · rw [e]
        exact hp
      · exact tw_take p r s e
    · rw [List.takeWhile_cons_of_neg hp] at h
      simp at h
theorem tw_next (p : Seen → Bool) : ∀ (ss : List Seen) (u : Seen), ss[(ss.takeWhile p).length]? = some u → p u = false
  | [], u, h => by simp at h
  | a :: r, u, h => by
    by_cases hp : p a = true
    · rw [List.takeWhile_cons_of_pos hp, List.length_cons, List.getElem?_cons_succ] at h
      exact tw_next p r u h
    · rw [List.takeWhile_cons_of_neg hp] at h
      simp at h
      subst h
      simpa using hp
theorem before_lt {ss : List Seen} {id : Id} {s : Seen} (h : s ∈ ss.take (posI ss id)) : cmpI s.id.l id.l < 0 := by
  simpa using tw_take (fun s => decide (cmpI s.id.l id.l < 0)) ss s h
theorem behind_gt {ss : List Seen} {id : Id} {s : Seen} (hs : Srt ss) (hh : hasI ss id = false) (h : s ∈ ss.drop (posI ss id)) : cmpI id.l s.id.l < 0 := by
  obtain ⟨k, hk⟩ := List.getElem?_of_mem h
  rw [List.getElem?_drop] at hk
  have hk0 := (List.getElem?_eq_some_iff.1 hk).1
  obtain ⟨u, hu⟩ : ∃ u, ss[posI ss id]? = some u := ⟨_, List.getElem?_eq_getElem (by omega)⟩
  have hnl : ¬ cmpI u.id.l id.l < 0 := by
    have := tw_next (fun s => decide (cmpI s.id.l id.l < 0)) ss u hu
    simpa using this
  have hne : cmpI u.id.l id.l ≠ 0 := by
    intro he
    unfold hasI at hh
    rw [List.any_eq_false] at hh
    exact hh u (List.mem_of_getElem? hu) (by simpa using he)
  have h1 : cmpI id.l u.id.l < 0 := by
    have := cmpI_swap u.id.l id.l
    omega
  rcases Nat.eq_zero_or_pos k with h0 | h0
  · subst h0
    rw [Nat.add_zero, hu] at hk
    injection hk with hk
    subst hk
    exact h1
  · exact cmpI_trans h1 (hs.lt (show posI ss id < posI ss id + k by omega) hu hk)
theorem srt_ins {ss : List Seen} {s : Seen} (hs : Srt ss) (hh : hasI ss s.id = false) : Srt (insAt ss s) := by
  unfold insAt Srt
  rw [List.pairwise_append, List.pairwise_cons]
  refine ⟨hs.sublist (List.take_sublist _ _), ⟨fun u hu => behind_gt hs hh hu, hs.sublist (List.drop_sublist _ _)⟩, fun a ha b hb => ?_⟩
  rcases List.mem_cons.1 hb with e | e
  · subst e
    exact before_lt ha
  · exact cmpI_trans (before_lt ha) (behind_gt hs hh e)
theorem has_ins (ss : List Seen) (s : Seen) (id : Id) : hasI (insAt ss s) id = (hasI ss id || decide (cmpI s.id.l id.l = 0)) := by
  unfold hasI insAt
  rw [List.any_append, List.any_cons]
  conv => rhs; rw [← List.take_append_drop (posI ss s.id) ss, List.any_append]
  rw [Bool.or_assoc, Bool.or_comm (decide _), ← Bool.or_assoc]

end Go.Proofs.YtocaabnbmcpjmaaGreat
/- The law's own list: insert, same, has. -/
namespace Go.Proofs.YtocaabnbmcpjmaaGreat
open Go.RowKit
attribute [local irreducible] Go.Calls Go.Exit.then Go.Exit.inBlock Go.bodyPost Go.Code.wp Go.wpList

instance : DecidableEq Seen := fun a b => if h : a.id.l = b.id.l ∧ a.t = b.t ∧ a.c = b.c then .isTrue (Seen.ext_ h.1 h.2.1 h.2.2) else .isFalse (fun e => h (by subst e; exact ⟨rfl, rfl, rfl⟩))
section
variable {C : World → Prop} {n : Nat} {l : Env} {ty t' : TypeId} {x y : Operand} {a b : Seen}
end

end Go.Proofs.YtocaabnbmcpjmaaGreat
/- The law's own list: one more at its place; what a list has of an id. -/
namespace Go.Proofs.YtocaabnbmcpjmaaGreat
open Go.RowKit
attribute [local irreducible] Go.Calls Go.Exit.then Go.Exit.inBlock Go.bodyPost Go.Code.wp Go.wpList

end Go.Proofs.YtocaabnbmcpjmaaGreat
/- The library's sort, by the shelf's contract, over facts. No program is in sight. -/
namespace Go.Proofs.YtocaabnbmcpjmaaGreat
open Go.RowKit Go.Sort Go.Shelf
section
variable {α : Type} [Inhabited α] {enc : α → Value} {w : World} {g n c size : Nat} {e : TypeId} {d : Array α} {P : Program} {f : FuncId} {args : Array Value} {K : List Fa}
theorem holds_blk {cur : Array Value} (hb : Blk w g e cur) (ht : cur.toList.take d.size = d.toList.map enc) : Holds enc w g 0 d := by
  intro j hj
  unfold Blk at hb
  refine ⟨?_, by simp [World.frozen?, hb]⟩
  have h1 : (cur.toList.take d.size)[j]? = (d.toList.map enc)[j]? := by rw [ht]
  rw [List.getElem?_take_of_lt hj] at h1
  simp only [World.cell?, hb, Nat.zero_add]
  simp only [Option.isSome_none, Bool.false_eq_true, if_false]
  rw [← Array.getElem?_toList, h1]
  simp [hj]
theorem blk_sorted {cur : Array Value} {m : Nat} {os : Array Obj} (d : Array α) (hb : Blk w g e cur) : Blk (sortWorld enc w g 0 m d os) g e (putCells enc 0 d cur) := by
  unfold Blk at hb
  have hg : g < w.heap.size := (Array.getElem?_eq_some_iff.1 hb).1
  unfold Blk sortWorld
  rw [heap_grow_old _ _ (by simpa [putRow, mapBlock, Sort.ahead] using hg)]
  simp [putRow, mapBlock, Sort.ahead, Array.getElem?_modify, hb, onCells]
theorem fr_sorted {m : Nat} {os : Array Obj} (d : Array α) : Fr (fun j => j = g) w (sortWorld enc w g 0 m d os) := by
  unfold sortWorld
  refine ⟨rfl, rfl, rfl, by simp [putRow, mapBlock, Sort.ahead], fun k hk hne => ?_⟩
  rw [heap_grow_old _ _ (by simpa [putRow, mapBlock, Sort.ahead] using hk)]
  have : g ≠ k := fun e => hne e.symm
  simp [putRow, mapBlock, Sort.ahead, Array.getElem?_modify, this]
theorem take_put (cur : Array Value) (d : Array α) (h : d.size ≤ cur.size) : (putCells enc 0 d cur).toList.take d.size = d.toList.map enc := by
  apply List.ext_getElem?
  intro j
  by_cases hj : j < d.size
  · rw [List.getElem?_take_of_lt hj, Array.getElem?_toList]
    simp [putCells, hj, show j < cur.size by omega]
  · rw [List.getElem?_take_eq_none (by omega), List.getElem?_eq_none (by simp; omega)]
theorem sep_sorted (hw : Sep w (own e size (some ⟨g, 0, none⟩) n c (d.toList.map enc) :: K)) : Holds enc w g 0 d ∧ g < w.heap.size ∧ d.size = n * size ∧ n ≤ c ∧ ∀ (d' : Array α) m os, d'.size = d.size → Sep (sortWorld enc w g 0 m d' os) (own e size (some ⟨g, 0, none⟩) n c (d'.toList.map enc) :: K) := by
  have hO : w.ownsRow 0 e size (.slice (some ⟨g, 0, none⟩) n c) n (d.toList.map enc) := by
    have := hw.hd
    unfold own at this
    exact this
  obtain ⟨cur, hB, hkc, hcm, hcs, htk, hxl⟩ := own_open hO
  have hn : d.size = n * size := by simpa using hxl
  have hle : n * size ≤ c * size := Nat.mul_le_mul_right _ hkc
  refine ⟨holds_blk hB (by rw [hn]; exact htk), hB.lt, hn, hkc, fun d' m os hs => ?_⟩
  refine hw.step (fr_sorted d') (fun j _ e => by rw [own_F]; exact congrArg some e.symm) (own_mk (own_close (blk_sorted d' hB) hkc hcm (by simp [putCells, hcs]) ?_ (by simp [hs, hn]))) (fun j hj => .inl (by rw [own_F] at hj ⊢; exact hj))
  rw [← hn, ← hs]
  exact take_put _ _ (by omega)
end
end Go.Proofs.YtocaabnbmcpjmaaGreat
/- Reports by their times; those of an id; without some. Plain. -/
namespace Go.Proofs.YtocaabnbmcpjmaaGreat
open Go.RowKit Go.Sort
/-! One id. -/
theorem hasI_no {ss : List Seen} {id : Id} (h : ∀ (k : Nat) (s : Seen), ss[k]? = some s → s.id ≠ id) : hasI ss id = false := by
  cases hh : hasI ss id with
  | false => rfl
  | true =>
    unfold hasI at hh
    rw [List.any_eq_true] at hh
    obtain ⟨s, hs, h1⟩ := hh
    obtain ⟨k, hk⟩ := List.getElem?_of_mem hs
    exact absurd ((Id.eq_iff _ _).1 (of_decide_eq_true h1)) (h k s hk)
/-! What became of one. -/
def setC (s : Seen) (c : Int) (hc : -9223372036854775808 ≤ c ∧ c ≤ 9223372036854775807) : Seen := ⟨s.id, s.t, c, s.tb, hc⟩
theorem srt_ids {ss ss' : List Seen} (h : ss'.map Seen.id = ss.map Seen.id) (hs : Srt ss) : Srt ss' := by
  have h1 : (ss.map Seen.id).Pairwise (fun a b => cmpI a.l b.l < 0) := (List.pairwise_map (f := Seen.id) (R := fun a b => cmpI a.l b.l < 0)).2 hs
  rw [← h] at h1
  exact (List.pairwise_map (f := Seen.id) (R := fun a b => cmpI a.l b.l < 0)).1 h1
theorem srt_set {ss : List Seen} (hs : Srt ss) {i : Nat} {s s' : Seen} (h : ss[i]? = some s) (he : s'.id = s.id) : Srt (ss.set i s') := by
  refine srt_ids ?_ hs
  rw [List.map_set, he]
  apply List.ext_getElem?
  intro j
  rw [List.getElem?_set]
  split
  · rename_i hj
    subst hj
    rw [List.getElem?_map, h]
    have := (List.getElem?_eq_some_iff.1 h).1
    simp [this]
  · rfl
/-! Some of them. -/
/-! By their times, then by their ids. -/
end Go.Proofs.YtocaabnbmcpjmaaGreat
/- slices.DeleteFunc over reports: those that are kept, in their order. -/
namespace Go.Proofs.YtocaabnbmcpjmaaGreat
open Go.RowKit
attribute [local irreducible] Go.Calls Go.Exit.then Go.Exit.inBlock Go.bodyPost Go.Code.wp Go.wpList
section
variable {P : Program} {ops : Array Oper} {Q : Exit → Act → World → Prop} {n : Nat} {l : Env} {L L' : List Fa} {rest : List Oper} {ty t e : TypeId} {pos : String} {after : Array Edge} {x : Operand} {i m c size bytes : Nat} {A : Option Addr} {xs : List Value} {z v : Value} {op : Op} {w w' : World}
end
section
variable {K C : List Fa} {A : Option Addr} {c : Nat} {ss : List Seen} {fd : FuncId} {caps : List Value} {p : Seen → Bool}
end
end Go.Proofs.YtocaabnbmcpjmaaGreat
/- The shelf's contract of slices.SortFunc at reports, laid at this program (printed by the kit's lay-plain), and over facts: of none. -/
namespace Go.Proofs.YtocaabnbmcpjmaaGreat
open Go.Shelf Go.Sort Go.RowKit
end Go.Proofs.YtocaabnbmcpjmaaGreat
/- ReplayNone: nil indexes. -/
namespace Go.Proofs.YtocaabnbmcpjmaaGreat
open Go.RowKit
attribute [local irreducible] Go.Calls Go.Exit.then Go.Exit.inBlock Go.bodyPost Go.Code.wp Go.wpList
section
variable {K : List Fa}
end
end Go.Proofs.YtocaabnbmcpjmaaGreat
/- replay: Set, Drop, Room; over facts. -/
namespace Go.Proofs.YtocaabnbmcpjmaaGreat
open Go.RowKit
attribute [local irreducible] Go.Calls Go.Exit.then Go.Exit.inBlock Go.bodyPost Go.Code.wp Go.wpList
theorem nth_Dr {φ : Prop} (h : φ := by (first | rfl | first | exact Seen.nt _ | exact Seen.nc _)) : φ := h
theorem mid_Dr {φ : Prop} (h : φ := by (first | first | assumption | exact Seen.mid _ | exact Mid.all | exact Mid.head)) : φ := h
theorem sz_Dr {φ : Prop} (h : φ := by (first | rfl | (first | (simp only [Seen.len, bytes_length, Id.len]; rfl) | simp only [Seen.len, bytes_length, Id.len]; first | done | fail))) : φ := h
theorem one_Dr {φ : Prop} (h : φ := by (first | assumption | exact Seen.one _ | (simp only [List.mem_cons, List.not_mem_nil, or_false, forall_eq_or_imp, forall_eq]; decide) | exact one_bytes _ | (intro v hv; (repeat (rcases List.mem_cons.1 hv with rfl | hv; rfl)); cases hv))) : φ := h
theorem set_Dr {φ : Prop} (h : φ := by (first | (fail) | ((repeat (first | exact SetAt.here | apply SetAt.there)); first | done | fail))) : φ := h
theorem cl_Dr {φ : Prop} (h : φ := by first | rfl | exact .t | exact .f | exact .t (by omega) | exact .f (by omega) | exact .u | exact .i (by (first | exact .t (by omega) | exact .f (by omega) | exact .u | exact .i (by omega) | exact .v (by omega) | exact .b (by omega) | exact .w | rfl | omega)) | exact .v (by omega) | exact .b (by omega) | exact .q (by omega) | exact .w | exact .b (by exact at_) rfl (by exact nth_Dr) | exact .w (by exact at_) rfl rfl (by exact sz_Dr) | exact .s (by exact at_) (by exact mid_Dr) rfl rfl (by exact sz_Dr) | exact .z rfl rfl ⟨by kernel_rfl⟩ | exact .b rfl rfl ⟨by kernel_rfl⟩ | exact .a rfl rfl ⟨by kernel_rfl⟩ | exact .o rfl | exact .s | exact .n | exact .p rfl | exact .q rfl | exact .c rfl | exact .d rfl | exact .n rfl rfl (by omega) | exact .a rfl rfl (by omega) | exact .p rfl rfl (by omega) (by omega) | exact .y rfl rfl (by omega) (by omega) | exact .o (by exact at_) (by omega) rfl (by exact nth_Dr) | exact .m (by exact at_) (by omega) (by exact mid_Dr) rfl rfl (by exact sz_Dr) | exact .mlen (by exact at_) rfl | exact .t (by exact at_) rfl rfl (by first | exact True.intro | rfl) (by assumption) | exact .f (by exact at_) rfl rfl (by first | exact True.intro | rfl) (by assumption) rfl | exact .t1 (by exact at_) rfl rfl (by first | exact True.intro | rfl) (by assumption) | exact .f1 (by exact at_) rfl rfl (by first | exact True.intro | rfl) (by assumption) rfl | exact .tk (by exact at_) rfl (by assumption) (by assumption) | exact .fk (by exact at_) rfl (by assumption) (by assumption) rfl | exact .tk1 (by exact at_) rfl (by assumption) (by assumption) | exact .fk1 (by exact at_) rfl (by assumption) (by assumption) rfl | exact .r rfl rfl (by omega) (by omega) (by exact nth_Dr) rfl | exact .s rfl (by omega) (by assumption) | exact at_ | assumption | exact .r rfl rfl | exact .h rfl rfl rfl (by omega) | exact .l rfl rfl rfl (by omega) (by omega) | exact .g rfl rfl rfl rfl (by omega) (by omega) | exact .h rfl rfl (toN_ (by omega)) (by omega) | exact .l rfl rfl (toN_ (by omega)) (by omega) (by omega) | exact .g rfl rfl (toN_ (by omega)) (toN_ (by omega)) (by omega) (by omega) | exact .o (by decide) | exact .f (by decide) | exact .n (by omega) (by first | decide | (show _ ≤ ((64 : Nat) : Int); omega)) | (constructor; (repeat (first | exact .t (by omega) | exact .f (by omega) | exact .u | exact .i (by omega) | exact .v (by omega) | exact .b (by omega) | exact .w | rfl | omega)); first | done | fail) | omega | (show _ ≤ ((64 : Nat) : Int); omega)) : φ := h
theorem pv_Dr {φ : Prop} (h : φ := by constructor; (repeat exact cl_Dr); first | done | fail) : φ := h
theorem su_Dr {φ ψ : Prop} (k : ψ) (h : Hide ψ → φ := by (intro k; (first | refine sl_pu (PuI.sep (by exact pv_Dr)) rfl ?_ | refine sl_yes rfl rfl ?_ | refine sl_no rfl rfl rfl ?_ | refine sl_off rfl rfl rfl ?_ | (fail)); exact k.out)) : φ := h ⟨k⟩
theorem rq_Dr {φ ψ : Prop} (k : ψ) (h : Hide ψ → φ := by (intro k; (first | refine wq_pu (PuI.sep (by exact pv_Dr)) rfl ?_ | refine wq_yes rfl rfl ?_ | refine wq_no rfl rfl rfl ?_ | refine wq_off rfl rfl rfl ?_ | (fail)); exact k.out)) : φ := h ⟨k⟩
theorem sto_Dr {φ ψ : Prop} (k : ψ) (h : Hide ψ → φ := by (intro k; (first | refine sl_store rfl (by exact pick_) rfl rfl (by kernel_rfl) (by exact set_Dr) ?_ | refine sl_store_whole rfl (by exact pick_) rfl (by exact sz_Dr) (by exact sz_Dr) (by exact one_Dr) ?_); exact k.out)) : φ := h ⟨k⟩
theorem go_Dr {φ ψ : Prop} (k : ψ) (h : Hide ψ → φ := by (intro k; (repeat (first | refine su_Dr ?_ | refine so_ ?_ | refine sto_Dr ?_)); exact k.out)) : φ := h ⟨k⟩
def setI (ss : List Seen) (id : Id) (c : Int) (hc : -9223372036854775808 ≤ c ∧ c ≤ 9223372036854775807) : Int × List Seen := if hasI ss id then (0, ss.set (posI ss id) (setC (getI ss id) c hc)) else (19, ss)
theorem setC_set (s : Seen) {c : Int} (hc : -9223372036854775808 ≤ c ∧ c ≤ 9223372036854775807) : s.cells.set 17 (.int .i64 c) = (setC s c hc).cells :=
  (SetAt.tail (k := 16) (a := bytes s.id.l) (i := 1) (by rw [bytes_length, s.id.len]) (SetAt.there SetAt.here)).eq.2
section
variable {K : List Fa} {x c : Nat} {A : Option Addr} {ss : List Seen} {lim : Int}
set_option maxRecDepth 100000 in
set_option maxHeartbeats 2000000 in
theorem set_ok (id : Id) {co : Int} (hc : -9223372036854775808 ≤ co ∧ co ≤ 9223372036854775807) (hs : Srt ss) (hn : ss.length ≤ 1000000) :
    Fn Tryz.prog 109 #[.pointer (some ⟨x, 0, none⟩), id.v, .int .i64 co] (ixb x A ss.length c lim :: ixo A c ss :: K) (Ret (fun _ : Option Addr × Nat => True) (fun _ => .int .i64 (setI ss id co hc).1) (fun p => ixb x p.1 ss.length p.2 lim :: ixo p.1 p.2 (setI ss id co hc).2 :: K)) := by
  refine fn_enter Tryz.func109 rfl _ Tryz.ntmps109 (by simp) [(0, .pointer (some ⟨x, 0, none⟩)), (1, id.v), (2, .int .i64 co)] (args_of (by simp)) ?_
  refine go_Dr ?_
  refine sl_box rfl rfl rfl ?_; intro gi
  refine go_Dr ?_
  refine sl_call rfl rfl (by kernel_rfl) rfl (by exact sub_) (find_ok id (by exact at_) (Vw.of_own (by exact at_)) hs (by omega)) ?_; rintro _ -
  by_cases hh : hasI ss id = true
  · obtain ⟨s, hs1, hs2⟩ := hasI_pos hs hh
    have hlt := (List.getElem?_eq_some_iff.1 hs1).1
    have hg2 : getI ss id = s := by unfold getI; rw [hs1]; rfl
    have hse : setI ss id co hc = (0, ss.set (posI ss id) (setC s co hc)) := by unfold setI; rw [if_pos hh, hg2]
    rw [hse, hh]
    dsimp only
    refine go_Dr ?_
    refine sl_call rfl rfl (by kernel_rfl) rfl (by exact sub_) (rclone_ok (Vw.of_own (by exact at_)) (rows_one_cell Seen.one ss) (by omega)) ?_
    rintro ⟨A1, c1⟩ -
    refine go_Dr ?_
    refine sl_form (e := 62) (size := 18) (A := A1) (m := ss.length) (c := c1) (by exact at_) (by omega) ?_
    rintro g0 rfl
    refine go_Dr ?_
    refine sl_sto2 rfl (at2 _ _ _) (by exact pick_) rfl rfl (by kernel_rfl) (by omega) ?_
    rw [rows_set Seen.len hs1 (setC_set s hc) (by decide)]
    refine go_Dr ?_
    exact se_ret1 (some ⟨g0, 0, none⟩, c1) trivial rfl rfl (by show Sub _ (_ :: own 62 18 _ (ss.set _ _).length _ _ :: K); rw [List.length_set]; exact sub_)
  · have hf : hasI ss id = false := by simpa using hh
    have hse : setI ss id co hc = (19, ss) := by unfold setI; rw [if_neg hh]
    rw [hse, hf]
    dsimp only
    refine go_Dr ?_
    exact se_ret1 (A, c) trivial rfl rfl (by exact sub_)
set_option maxRecDepth 100000 in
theorem room_ok {n : Nat} (hl : 0 ≤ lim ∧ lim ≤ 256) (hn : n ≤ 1000000) :
    Fn Tryz.prog 49 #[.pointer (some ⟨x, 0, none⟩)] (ixb x A n c lim :: K) (Ret (fun _ : Unit => True) (fun _ => .int .i64 (lim - n)) (fun _ => ixb x A n c lim :: K)) := by
  refine fn_enter Tryz.func49 rfl _ Tryz.ntmps49 (by simp) [(0, .pointer (some ⟨x, 0, none⟩))] (args_of (by simp)) ?_
  refine go_Dr ?_
  ((refine sq_region (by kernel_rfl) (by kernel_rfl) ?_; (repeat refine rq_Dr ?_); refine sq_end ?_))
  refine go_Dr ?_
  exact se_ret1 () trivial rfl rfl (by exact sub_)
end
end Go.Proofs.YtocaabnbmcpjmaaGreat
