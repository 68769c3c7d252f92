/- Several texts of one claim, one behind the other. -/
import Derived.Test.YtocaabnbmcpjmaaGreatB07
import Derived.Test.YtocaabnbmcpjmaaGreatB06
import Derived.Test.YtocaabnbmcpjmaaGreatB05
import Derived.Shelf.SlSortCmp.NoneTotal
import Derived.Ground.SlsfProg
set_option linter.unusedVariables false
set_option linter.unusedSimpArgs false
set_option maxRecDepth 100000
set_option maxHeartbeats 16000000
namespace Go.Proofs.YtocaabnbmcpjmaaGreat
variable {φ ψ : Prop}
section
open Go.RowKit
attribute [local irreducible] Go.Calls Go.Exit.then Go.Exit.inBlock Go.bodyPost Go.Code.wp Go.wpList
section
open pRq2
theorem ovl_row (args : Array Value) (w : World) : (callFunc 158 args).run Tryz.prog w = (Extern.SlicesOverlaps.overlaps #[79, 79] #[4] args >>= fun v => pure (Next.value v)).run Tryz.prog w := by kernel_rfl
theorem splice_two {α : Type} {P S Z D : List α} {p q : Nat} (hp : P.length = p) (hq : S.length = q) (hz : Z.length = q + D.length) :
  ((((P ++ Z).take p ++ S ++ (P ++ Z).drop (p + S.length)).take (p + q)) ++ D ++ ((P ++ Z).take p ++ S ++ (P ++ Z).drop (p + S.length)).drop (p + q + D.length)) = P ++ (S ++ D) := by
 subst hp hq
 have h1 : (P ++ Z).take P.length = P := List.take_left' rfl
 rw [h1]
 have h2 : (P ++ S ++ (P ++ Z).drop (P.length + S.length)).take (P.length + S.length) = P ++ S := List.take_left' (by simp)
 rw [h2, List.drop_of_length_le (by simp; omega)]
 simp
theorem splice_back {α : Type} {A S D E : List α} {p q : Nat} (hA : A.length = p + D.length) (hD : D = A.drop p) (hS : S.length = q) (hE : E.length = q) :
  (((A ++ E).take (p + q) ++ D ++ (A ++ E).drop (p + q + D.length)).take p ++ S ++ ((A ++ E).take (p + q) ++ D ++ (A ++ E).drop (p + q + D.length)).drop (p + S.length)) = A.take p ++ (S ++ D) := by
 subst hS; rw [List.drop_of_length_le (l := A ++ E) (by simp; omega), List.append_nil]
 have h1 : ((A ++ E).take (p + S.length) ++ D).take p = A.take p := by
  rw [List.take_append_of_le_length (by simp; omega), List.take_take, Nat.min_eq_left (by omega), List.take_append_of_le_length (by omega)]
 have h2 : ((A ++ E).take (p + S.length) ++ D).drop (p + S.length) = D := List.drop_left' (by simp; omega)
 rw [h1, h2, List.append_assoc]
theorem insert_ok {K : List Fa} {A : Option Addr} {c g i : Nat} {ss : List Seen} {s : Seen} (hi : i ≤ ss.length) (hn : ss.length ≤ 1000000000) :
  Fn Tryz.prog 131 #[.slice A ss.length c, .int .i64 i, .slice (some ⟨g, 0, none⟩) 1 1] (own 62 18 A ss.length c (rows Seen.cells ss) :: own 62 18 (some ⟨g, 0, none⟩) 1 1 s.cells :: K)
   (Ret (fun _ : Option Addr × Nat => True) (fun p => .slice p.1 (ss.length + 1) p.2) (fun p => own 62 18 p.1 (ss.length + 1) p.2 (rows Seen.cells (ss.take i ++ s :: ss.drop i)) :: K)) := by
 have hl := rows_len Seen.len ss
 refine fn_know (fun w hw => own_len hw at_) ?_; rintro ⟨-, hc, hcm⟩; refine fe_ Tryz.func131 Tryz.ntmps131 [(0, .slice A ss.length c), (1, .int .i64 i), (2, .slice (some ⟨g, 0, none⟩) 1 1)] ?_
 have hv : Vw (own 62 18 A ss.length c (rows Seen.cells ss) :: own 62 18 (some ⟨g, 0, none⟩) 1 1 s.cells :: K) (fun w => Reads w 18 (some ⟨g, 0, none⟩) 1 s.cells) := Vw.of_own at_
 have hv2 : ∀ (A : Option Addr) (n : Nat) (xs : List Value), Vw (own 62 18 A n c xs :: own 62 18 (some ⟨g, 0, none⟩) 1 1 s.cells :: K) (fun w => Reads w 18 (some ⟨g, 0, none⟩) 1 s.cells) := fun _ _ _ => Vw.of_own at_
 by_cases hin : i = ss.length
 ·subst hin; refine go_ ?_; refine sl_app rfl pick_ rfl hv s.one rfl Tryz.infoSeen (by decide) (by decide) rfl (by unfold maxLen; omega) (by omega) ?_
  intro A' c'
  refine go_ ?_; refine se_ret1 (A', c') trivial rfl rfl ?_; rw [List.take_length, List.drop_length, rows_app, rows_one]; exact sub_
 have hdl : (rows Seen.cells (ss.drop i)).length = (ss.length - i) * 18 := by rw [rows_len Seen.len, List.length_drop]
 have htl : (rows Seen.cells (ss.take i)).length = i * 18 := by rw [rows_len Seen.len, List.length_take, Nat.min_eq_left hi]
 have hspl : rows Seen.cells (ss.take i) ++ (s.cells ++ rows Seen.cells (ss.drop i)) = rows Seen.cells (ss.take i ++ s :: ss.drop i) := by rw [rows_app, rows_cons]
 have hmd : Mid (rows Seen.cells ss) (i * 18) (rows Seen.cells (ss.drop i)) := by
  have h : rows Seen.cells ss = rows Seen.cells (ss.take i) ++ rows Seen.cells (ss.drop i) ++ [] := by rw [List.append_nil, ← rows_app, List.take_append_drop]
  rw [h]; exact Mid.of_append htl
 refine sc_form (A := A) at_ (by omega) ?_; rintro g0 rfl
 by_cases hcap : c < ss.length + 1
 ·obtain ⟨m, hm⟩ : ∃ m : Nat, ss.length + 1 = i + m := ⟨ss.length + 1 - i, by omega⟩
  have hzl : (zeros zSeen m).length = m * 18 := zeros_len zSeen m
  refine go_ ?_; rw [show ((ss.length : Int) + ((1 : Nat) : Int) - (i : Int)) = (m : Int) from by omega]; refine sl_app_zeros rfl rfl (Vw.imp (Vw.of_own at_) (fun w h => h.take (k := i) hi)) rfl rfl Tryz.infoSeen (by decide) (by decide) (by omega) (by omega) rfl (by unfold maxLen; omega) (by omega) ?_
  intro g' c'
  rw [rows_take Seen.len]; refine sl_know (fun w hw => own_len hw at_) ?_; rintro ⟨-, hc', hcm'⟩; refine go_ ?_; rw [cutA_some (by omega)]; refine sl_copy0 (cs := s.cells) (kk := 1) rfl pick_ rfl (by kernel_rfl) rfl (by omega) (by rw [s.len]) (vw_cells (hv.mono sub_) (by omega)) (by rw [s.len]; omega) s.one rfl ?_; refine sl_nil ?_; refine se_seq ?_; refine sc_seq ?_; refine sd_drawn (fun _ => True) (fun _ => true) (by kernel_rfl) 9 rfl ?_; refine wt_ 0 ?_; refine wt_ 1 ?_; refine wt_ 2 ?_; refine wt_ 3 ?_; refine wt_ 4 ?_; refine wt_ 5 ?_; refine wt_ 6 ?_; refine wt_ 7 ?_; rw [cutA_some (by omega), cutA_some (by omega)]; refine sd_copy 8 (by kernel_rfl) rfl rfl pick_ rfl (by kernel_rfl) rfl (kk := ss.length - i) (by omega) hdl (own_cells at_ hmd (by omega)) (by rw [hdl]; omega) (rows_one_cell Seen.one _) rfl (fun _ _ => trivial) ?_; refine sd_done (by kernel_rfl) ?_; rw [show (i + 1) * 18 = i * 18 + 18 from by omega, splice_two htl s.len (by rw [hzl, hdl]; omega), hspl, ← hm]; refine go_ ?_; exact se_ret1 (some ⟨g', 0, none⟩, c') trivial rfl (by rw [hm]; rfl) sub_
 ·have hmd2 : ∀ ext, Mid (rows Seen.cells ss ++ ext) (i * 18) (rows Seen.cells (ss.drop i)) := fun ext => by
   have h : rows Seen.cells ss ++ ext = rows Seen.cells (ss.take i) ++ rows Seen.cells (ss.drop i) ++ ext := by rw [← rows_app, List.take_append_drop]
   rw [h]; exact Mid.of_append htl
  refine go_ ?_; refine sl_more (m := 1) (A := some ⟨g0, 0, none⟩) pick_ (by omega) ?_; intro ext hext; rw [cutA_some (by omega)]
  refine sl_pu (pu_ext (cap := []) (v := .bool false) rfl rfl (fun W hW => by
    show (callFunc 158 #[.slice (some ⟨g, 0, none⟩) 1 1, .slice (some ⟨g0, (i + 1) * 18, none⟩) (ss.length + 1 - (i + 1)) (c - (i + 1))]).run Tryz.prog W = _
    rw [ovl_row, Sem.run_bind, run_overlaps_own (P := Tryz.prog) (g := g) (h := g0) hW pick_ at_ (by omega) (by decide) rfl (by kernel_rfl)]
    rfl)) rfl ?_
  refine go_ ?_; refine sd_drawn (fun _ => True) (fun _ => true) (by kernel_rfl) 9 rfl ?_; refine wt_ 0 ?_; refine wt_ 1 ?_; refine wt_ 2 ?_; refine wt_ 3 ?_; refine wt_ 4 ?_; refine wt_ 5 ?_; refine wt_ 6 ?_; refine wt_ 7 ?_; rw [cutA_some (by omega), cutA_some (by omega)]; refine sd_copy 8 (by kernel_rfl) rfl rfl pick_ rfl (by kernel_rfl) rfl (kk := ss.length - i) (by omega) hdl (own_cells at_ (hmd2 ext) (by omega)) (by rw [hdl]; omega) (rows_one_cell Seen.one _) rfl (fun _ _ => trivial) ?_; refine sd_done (by kernel_rfl) ?_; refine go_ ?_; rw [cutA_some (by omega)]; refine sl_copy0 (cs := s.cells) (kk := 1) rfl pick_ rfl (by kernel_rfl) rfl (by omega) (by rw [s.len]) (vw_cells (hv2 _ _ _) (by omega)) (by rw [s.len]; omega) s.one rfl ?_; rw [show (i + 1) * 18 = i * 18 + 18 from by omega, splice_back (by rw [hl, hdl]; omega) (rows_drop Seen.len ss i).symm s.len (by rw [hext]), rows_take Seen.len, hspl]; refine go_ ?_; exact r1_ (some ⟨g0, 0, none⟩, c)
end
section
open pRq2
abbrev ixb (x : Nat) (A : Option Addr) (n c : Nat) (lim : Int) : Fa := blk x 159 [.slice A n c, .int .i64 lim]
abbrev ixo (A : Option Addr) (c : Nat) (ss : List Seen) : Fa := own 62 18 A ss.length c (rows Seen.cells ss)
theorem list18 {cs : List Value} (h : cs.length = 18) : ∃ a0 a1 a2 a3 a4 a5 a6 a7 a8 a9 a10 a11 a12 a13 a14 a15 a16 a17, cs = [a0, a1, a2, a3, a4, a5, a6, a7, a8, a9, a10, a11, a12, a13, a14, a15, a16, a17] := by
 match cs, h with
 | [a0, a1, a2, a3, a4, a5, a6, a7, a8, a9, a10, a11, a12, a13, a14, a15, a16, a17], _ => exact ⟨a0, a1, a2, a3, a4, a5, a6, a7, a8, a9, a10, a11, a12, a13, a14, a15, a16, a17, rfl⟩
theorem build_18 (a0 a1 a2 a3 a4 a5 a6 a7 a8 a9 a10 a11 a12 a13 a14 a15 a16 a17 : Value) (W : World) : (Instr.buildSlice 79 1 #[(0, .agg #[a0, a1, a2, a3, a4, a5, a6, a7, a8, a9, a10, a11, a12, a13, a14, a15, a16, a17])]).run Tryz.prog W = .ok (.slice (some ⟨W.heap.size, 0, none⟩) 1 1) (W.alloc (.cells #[a0, a1, a2, a3, a4, a5, a6, a7, a8, a9, a10, a11, a12, a13, a14, a15, a16, a17] 62)) := by kernel_rfl
theorem build_seen (s : Seen) (W : World) : (Instr.buildSlice 79 1 #[(0, s.v)]).run Tryz.prog W = .ok (.slice (some ⟨W.heap.size, 0, none⟩) 1 1) (W.alloc (.cells s.cells.toArray 62)) := by
 have hl := s.len
 unfold Seen.v
 generalize s.cells = cs at *
 obtain ⟨a0, a1, a2, a3, a4, a5, a6, a7, a8, a9, a10, a11, a12, a13, a14, a15, a16, a17, rfl⟩ := list18 hl
 exact build_18 _ _ _ _ _ _ _ _ _ _ _ _ _ _ _ _ _ _ W
def insAt (ss : List Seen) (s : Seen) : List Seen := ss.take (posI ss s.id) ++ s :: ss.drop (posI ss s.id)
def addI (lim : Int) (ss : List Seen) (s : Seen) : Int × List Seen :=
 if 1099511627776 < s.t then (6, ss) else if hasI ss s.id then (14, ss) else if lim ≤ ss.length then (18, ss) else (0, insAt ss s)
theorem posI_le (ss : List Seen) (id : Id) : posI ss id ≤ ss.length := by
 unfold posI
 exact (List.takeWhile_prefix _).length_le
theorem insAt_len (ss : List Seen) (s : Seen) : (insAt ss s).length = ss.length + 1 := by
 have := posI_le ss s.id
 simp [insAt]
 omega
theorem new_ok {K : List Fa} (lim : Int) : Fn Tryz.prog 43 #[.int .i64 lim] K (Ret (fun _ : Nat => True) (fun x => .pointer (some ⟨x, 0, none⟩)) (fun x => ixb x none 0 0 (min (max lim 0) 256) :: K)) := by
 refine fe_ Tryz.func43 Tryz.ntmps43 [(0, .int .i64 lim)] ?_; refine go_ ?_
 have hl : (if 256 < if lim < 0 then 0 else lim then 256 else if lim < 0 then 0 else lim) = min (max lim 0) 256 := by
  repeat' split
  all_goals omega
 rw [hl]
 generalize min (max lim 0) 256 = N
 refine sl_pu (pu_build (v := .agg #[.slice none 0 0, .int .i64 N]) rfl (fun W => by kernel_rfl)) rfl ?_; refine bx_ ?_; intro x; refine go_ ?_; exact r1_ x
theorem add_ok {K : List Fa} {x c : Nat} {A : Option Addr} {ss : List Seen} {lim : Int} (s : Seen) (hs : Srt ss) (hn : ss.length ≤ 1000000) :
  Fn Tryz.prog 100 #[.pointer (some ⟨x, 0, none⟩), s.v] (ixb x A ss.length c lim :: ixo A c ss :: K)
   (Ret (fun _ : Option Addr × Nat => True) (fun _ => .int .i64 (addI lim ss s).1) (fun p => ixb x p.1 (addI lim ss s).2.length p.2 lim :: ixo p.1 p.2 (addI lim ss s).2 :: K)) := by
 have htb := s.tb
 have hcb := s.cb
 refine fe_ Tryz.func100 Tryz.ntmps100 [(0, .pointer (some ⟨x, 0, none⟩)), (1, s.v)] ?_; refine go_ ?_; refine bx_ ?_; intro gs
 by_cases ht : 1099511627776 < s.t
 ·have hadd : addI lim ss s = (6, ss) := by unfold addI; rw [if_pos ht]
  rw [hadd]; refine go_ ?_; exact r1_ (A, c)
 have hr : Vw (blk gs 62 s.cells :: ixb x A ss.length c lim :: ixo A c ss :: K) (fun w => Reads w 18 A ss.length (rows Seen.cells ss)) := Vw.of_own at_
 refine go_ ?_; refine slc_ rfl rfl sub_ (find_ok s.id at_ hr hs (by omega)) ?_; rintro _ -
 by_cases hh : hasI ss s.id = true
 ·have hadd : addI lim ss s = (14, ss) := by unfold addI; rw [if_neg ht, if_pos hh]
  rw [hadd, hh]; refine go_ ?_; exact r1_ (A, c)
 have hf : hasI ss s.id = false := by simpa using hh
 rw [hf]
 by_cases hl : lim ≤ ss.length
 ·have hadd : addI lim ss s = (18, ss) := by unfold addI; rw [if_neg ht, hf, if_neg (by decide), if_pos hl]
  rw [hadd]; refine go_ ?_
  ((refine sq_region (by kernel_rfl) (by kernel_rfl) ?_; (repeat refine rq_ ?_); refine sq_end ?_))
  refine go_ ?_; exact r1_ (A, c)
 ·have hadd : addI lim ss s = (0, insAt ss s) := by unfold addI; rw [if_neg ht, hf, if_neg (by decide), if_neg hl]
  rw [hadd]; refine go_ ?_
  ((refine sq_region (by kernel_rfl) (by kernel_rfl) ?_; (repeat refine rq_ ?_); refine sq_end ?_))
  refine go_ ?_; refine sd_drawn (fun W => AllP W [blk gs 62 s.cells, ixb x A ss.length c lim]) (fun i => Nat.blt i 10) (by kernel_rfl) 13 rfl ?_; refine wa_ 0 ?_; refine wa_ 1 ?_; refine wa_ 2 ?_; refine wa_ 3 ?_; refine wa_ 4 ?_; refine wa_ 6 ?_; refine wa_ 7 ?_; refine sd_two 5 8 (by kernel_rfl) ?_ ?_
  ·refine sa_call 5 rfl rfl rfl (by kernel_rfl) rfl sub_ (rclone_ok hr (rows_one_cell Seen.one ss) (by omega)) (fun _ a w hw => all_ hw) ?_; rintro ⟨A1, c1⟩ -; dsimp only; refine sd_build (size := 18) (e := 62) (cells := s.cells) 8 (by kernel_rfl) rfl rfl (fun W => build_seen s W) (by rw [s.len]) (by decide) rfl (fun _ g w hw => all_ hw) ?_; intro gv; refine sd_call 9 (by kernel_rfl) rfl rfl rfl (by kernel_rfl) rfl sub_ (insert_ok (A := A1) (c := c1) (g := gv) (s := s) (posI_le ss s.id) (by omega)) (fun _ a w hw => all_ hw) ?_; rintro ⟨A2, c2⟩ -; dsimp only
   (refine sd_pu 10 (by kernel_rfl) rfl (PuI.sep (by exact pv_)) rfl (fun hnd w hw => by first | trivial | exact all_ hw | cases hnd) ?_)
   (refine sd_pu 11 (by kernel_rfl) rfl (PuI.sep (by exact pv_)) rfl (fun hnd w hw => by first | trivial | exact all_ hw | cases hnd) ?_)
   refine sd_store 12 (by kernel_rfl) rfl rfl pick_ rfl rfl (by kernel_rfl) set_ (fun e => by cases e) ?_; refine sd_done (by kernel_rfl) ?_; refine go_ ?_; refine se_ret1 (A2, c2) trivial rfl rfl ?_
   show Sub _ (ixb x A2 (insAt ss s).length c2 lim :: own 62 18 A2 (insAt ss s).length c2 (rows Seen.cells (insAt ss s)) :: K)
   rw [insAt_len]; exact sub_
  ·refine sa_build (size := 18) (e := 62) (cells := s.cells) 8 rfl rfl (fun W => build_seen s W) (by rw [s.len]) (by decide) rfl (fun _ g w hw => all_ hw) ?_; intro gv; refine sd_call 5 (by kernel_rfl) rfl rfl rfl (by kernel_rfl) rfl sub_ (rclone_ok (Vw.of_own at_) (rows_one_cell Seen.one ss) (by omega)) (fun _ a w hw => all_ hw) ?_; rintro ⟨A1, c1⟩ -; dsimp only; refine sd_call 9 (by kernel_rfl) rfl rfl rfl (by kernel_rfl) rfl sub_ (insert_ok (A := A1) (c := c1) (g := gv) (s := s) (posI_le ss s.id) (by omega)) (fun _ a w hw => all_ hw) ?_; rintro ⟨A2, c2⟩ -; dsimp only
   (refine sd_pu 10 (by kernel_rfl) rfl (PuI.sep (by exact pv_)) rfl (fun hnd w hw => by first | trivial | exact all_ hw | cases hnd) ?_)
   (refine sd_pu 11 (by kernel_rfl) rfl (PuI.sep (by exact pv_)) rfl (fun hnd w hw => by first | trivial | exact all_ hw | cases hnd) ?_)
   refine sd_store 12 (by kernel_rfl) rfl rfl pick_ rfl rfl (by kernel_rfl) set_ (fun e => by cases e) ?_; refine sd_done (by kernel_rfl) ?_; refine go_ ?_; refine se_ret1 (A2, c2) trivial rfl rfl ?_
   show Sub _ (ixb x A2 (insAt ss s).length c2 lim :: own 62 18 A2 (insAt ss s).length c2 (rows Seen.cells (insAt ss s)) :: K)
   rw [insAt_len]; exact sub_
theorem list_ok {K : List Fa} {x c : Nat} {A : Option Addr} {lim : Int} {ss : List Seen} (hn : ss.length ≤ 1000000) :
  Fn Tryz.prog 73 #[.pointer (some ⟨x, 0, none⟩)] (ixb x A ss.length c lim :: ixo A c ss :: K) (Ret (fun _ : Option Addr × Nat => True) (fun p => .slice p.1 ss.length p.2) (fun p => ixo p.1 p.2 ss :: ixb x A ss.length c lim :: ixo A c ss :: K)) := by
 refine fe_ Tryz.func73 Tryz.ntmps73 [(0, .pointer (some ⟨x, 0, none⟩))] ?_; refine go_ ?_; refine slc_ rfl rfl sub_ (rclone_ok (Vw.of_own at_) (rows_one_cell Seen.one ss) (by omega)) ?_; rintro ⟨A1, c1⟩ -; refine go_ ?_; exact r1_ (A1, c1)
end
section
namespace pRq6
theorem nthx_ (h : φ := by first | exact Seen.nt _ | exact Seen.nc _) : φ := h
theorem midx_ (h : φ := by first | exact Seen.mid _) : φ := h
theorem szx_ (h : φ := by (simp only [Seen.len, bytes_length, Id.len]; rfl; first | done | fail)) : φ := h
theorem onex_ (h : φ := by exact Seen.one _) : φ := h
end pRq6
open pRq6
theorem id0_ok : IsBytes (List.replicate 16 0) := by
 intro x hx
 obtain ⟨_, rfl⟩ := List.mem_replicate.1 hx
 decide
def id0 : Id := ⟨List.replicate 16 0, rfl, id0_ok⟩
def seen0 : Seen := ⟨id0, 0, 0, by decide, by decide⟩
def getI (ss : List Seen) (id : Id) : Seen := (ss[posI ss id]?).getD seen0
def gotI (ss : List Seen) (id : Id) : Seen := if hasI ss id then getI ss id else seen0
theorem hasI_pos {ss : List Seen} (hs : Srt ss) {id : Id} (h : hasI ss id = true) : ∃ s, ss[posI ss id]? = some s ∧ s.id = id := by
 unfold hasI at h
 rw [List.any_eq_true] at h
 obtain ⟨s, hm, he⟩ := h
 obtain ⟨i, hi⟩ := List.getElem?_of_mem hm
 have he' : cmpI s.id.l id.l = 0 := by simpa using he
 have hsid := (Id.eq_iff _ _).1 he'
 have hp : posI ss id = i := posI_eq (Nat.le_of_lt (List.getElem?_eq_some_iff.1 hi).1)
  (fun k u hk hu => by rw [← hsid]; exact hs.lt hk hu hi)
  (fun k u hk hu => by
    rcases Nat.lt_or_ge i k with h1 | h1
    · have h2 := hs.lt h1 hi hu
      rw [← hsid]
      have := cmpI_swap s.id.l u.id.l
      omega
    · obtain rfl : k = i := by omega
      rw [hi] at hu
      injection hu with hu
      subst hu
      omega)
 rw [hp]; exact ⟨s, hi, hsid⟩
theorem get_ok {K : List Fa} {x c : Nat} {A : Option Addr} {ss : List Seen} {lim : Int} (id : Id) (hs : Srt ss) (hn : ss.length ≤ 1000000) :
  Fn Tryz.prog 48 #[.pointer (some ⟨x, 0, none⟩), id.v] (ixb x A ss.length c lim :: ixo A c ss :: K)
   (Ret (fun _ : Unit => True) (fun _ => .tuple #[(gotI ss id).v, .bool (hasI ss id)]) (fun _ => ixb x A ss.length c lim :: ixo A c ss :: K)) := by
 refine fe_ Tryz.func48 Tryz.ntmps48 [(0, .pointer (some ⟨x, 0, none⟩)), (1, id.v)] ?_; refine go_ ?_; refine bx_ ?_; intro gi; refine al_ ?_; intro go; refine go_ ?_; refine slc_ rfl rfl sub_ (find_ok id at_ (Vw.of_own at_) hs (by omega)) ?_; rintro _ -
 by_cases hh : hasI ss id = true
 ·have hg : gotI ss id = getI ss id := by unfold gotI; rw [if_pos hh]
  obtain ⟨s, hs1, hs2⟩ := hasI_pos hs hh
  have hg2 : getI ss id = s := by unfold getI; rw [hs1]; rfl
  have hlt := (List.getElem?_eq_some_iff.1 hs1).1
  rw [hg, hg2, hh]; refine go_ ?_; refine sl_form (A := A) at_ (by omega) ?_; rintro g0 rfl; refine go_ ?_; refine sl_pu (pu_ldrs (Vw.of_own at_) (by omega) rfl (rows_mid Seen.len hs1) rfl rfl sz_) rfl ?_; refine go_ ?_; exact se_ret_ct () trivial rfl rfl at_ rfl rfl sz_ rfl rfl sub_
 ·have hf : hasI ss id = false := by simpa using hh
  have hg : gotI ss id = seen0 := by unfold gotI; rw [if_neg hh]
  rw [hg, hf]; refine go_ ?_; refine sl_pu (pu_build (v := seen0.v) rfl (fun W => by kernel_rfl)) rfl ?_; refine go_ ?_; exact se_ret_ct () trivial rfl rfl at_ rfl rfl sz_ rfl rfl sub_
theorem srt_nil : Srt [] := List.Pairwise.nil
end
theorem tw_take (p : Seen → Bool) : ∀ (ss : List Seen) (s : Seen), s ∈ ss.take (ss.takeWhile p).length → p s = true
 | [], s, h => by simp at h
 | a :: r, s, h => by
  by_cases hp : p a = true
  ·rw [List.takeWhile_cons_of_pos hp, List.length_cons, List.take_succ_cons] at h
   rcases List.mem_cons.1 h with e | e
   ·rw [e]; exact hp
   ·exact tw_take p r s e
  ·rw [List.takeWhile_cons_of_neg hp] at h
   simp at h
theorem tw_next (p : Seen → Bool) : ∀ (ss : List Seen) (u : Seen), ss[(ss.takeWhile p).length]? = some u → p u = false
 | [], u, h => by simp at h
 | a :: r, u, h => by
  by_cases hp : p a = true
  ·rw [List.takeWhile_cons_of_pos hp, List.length_cons, List.getElem?_cons_succ] at h
   exact tw_next p r u h
  ·rw [List.takeWhile_cons_of_neg hp] at h
   simp at h
   subst h
   simpa using hp
theorem before_lt {ss : List Seen} {id : Id} {s : Seen} (h : s ∈ ss.take (posI ss id)) : cmpI s.id.l id.l < 0 := by
 simpa using tw_take (fun s => decide (cmpI s.id.l id.l < 0)) ss s h
theorem behind_gt {ss : List Seen} {id : Id} {s : Seen} (hs : Srt ss) (hh : hasI ss id = false) (h : s ∈ ss.drop (posI ss id)) : cmpI id.l s.id.l < 0 := by
 obtain ⟨k, hk⟩ := List.getElem?_of_mem h
 rw [List.getElem?_drop] at hk
 have hk0 := (List.getElem?_eq_some_iff.1 hk).1
 obtain ⟨u, hu⟩ : ∃ u, ss[posI ss id]? = some u := ⟨_, List.getElem?_eq_getElem (by omega)⟩
 have hnl : ¬ cmpI u.id.l id.l < 0 := by
  have := tw_next (fun s => decide (cmpI s.id.l id.l < 0)) ss u hu
  simpa using this
 have hne : cmpI u.id.l id.l ≠ 0 := by
  intro he
  unfold hasI at hh
  rw [List.any_eq_false] at hh
  exact hh u (List.mem_of_getElem? hu) (by simpa using he)
 have h1 : cmpI id.l u.id.l < 0 := by
  have := cmpI_swap u.id.l id.l
  omega
 rcases Nat.eq_zero_or_pos k with h0 | h0
 ·subst h0
  rw [Nat.add_zero, hu] at hk
  injection hk with hk
  subst hk; exact h1
 ·exact cmpI_trans h1 (hs.lt (show posI ss id < posI ss id + k by omega) hu hk)
theorem srt_ins {ss : List Seen} {s : Seen} (hs : Srt ss) (hh : hasI ss s.id = false) : Srt (insAt ss s) := by
 unfold insAt Srt
 rw [List.pairwise_append, List.pairwise_cons]
 refine ⟨hs.sublist (List.take_sublist _ _), ⟨fun u hu => behind_gt hs hh hu, hs.sublist (List.drop_sublist _ _)⟩, fun a ha b hb => ?_⟩
 rcases List.mem_cons.1 hb with e | e
 ·subst e; exact before_lt ha
 ·exact cmpI_trans (before_lt ha) (behind_gt hs hh e)
theorem has_ins (ss : List Seen) (s : Seen) (id : Id) : hasI (insAt ss s) id = (hasI ss id || decide (cmpI s.id.l id.l = 0)) := by
 unfold hasI insAt
 rw [List.any_append, List.any_cons]
 conv => rhs; rw [← List.take_append_drop (posI ss s.id) ss, List.any_append]
 rw [Bool.or_assoc, Bool.or_comm (decide _), ← Bool.or_assoc]
theorem seen_dec (a b : Seen) (q : Bool) (h : q = (decide (a.id.l = b.id.l) && (decide (a.t = b.t) && (decide (a.c = b.c) && true)))) : (q = true ↔ a = b) := by
 subst h
 simp only [Bool.and_true, Bool.and_eq_true, decide_eq_true_eq]
 constructor
 ·rintro ⟨h1, h2, h3⟩; exact Seen.ext_ h1 h2 h3
 ·rintro rfl; exact ⟨rfl, rfl, rfl⟩
instance : DecidableEq Seen := fun a b => if h : a.id.l = b.id.l ∧ a.t = b.t ∧ a.c = b.c then .isTrue (Seen.ext_ h.1 h.2.1 h.2.2) else .isFalse (fun e => h (by subst e; exact ⟨rfl, rfl, rfl⟩))
section
variable {C : World → Prop} {n : Nat} {l : Env} {ty t' : TypeId} {x y : Operand} {a b : Seen}
theorem pu_seen_neq (hx : ev l x = some a.v) (hy : ev l y = some b.v) : Pu Tryz.prog C n l (.binOp .neq 62 x y t') ty (.bool (!decide (a = b))) := by
 have hq : decide (a = b) = (decide (a.id.l = b.id.l) && (decide (a.t = b.t) && (decide (a.c = b.c) && true))) := by
  rw [Bool.eq_iff_iff, seen_dec a b _ rfl, decide_eq_true_eq]
 rw [hq]; refine pu_neqs hx hy Tryz.underlying62 (by kernel_rfl) (by kernel_rfl) (fun w => ?_); refine eqF_arr (e := 5) (n := 16) (by decide) rfl rfl rfl (by kernel_rfl) a.mid b.mid a.id.len b.id.len a.id.ok b.id.ok ?_; refine eqF_int (by decide) rfl rfl a.nt b.nt ?_; exact eqF_int (by decide) rfl rfl a.nc b.nc rfl
end
def insB (bf : Seen → Seen → Bool) (ss : List Seen) (s : Seen) : List Seen := ss.take (ss.takeWhile fun u => bf u s).length ++ s :: ss.drop (ss.takeWhile fun u => bf u s).length
end
section
open Go.RowKit Go.Sort Go.Shelf
section
variable {α : Type} [Inhabited α] {enc : α → Value} {w : World} {g n c size : Nat} {e : TypeId} {d : Array α} {P : Program} {f : FuncId} {args : Array Value} {K : List Fa}
theorem holds_blk {cur : Array Value} (hb : Blk w g e cur) (ht : cur.toList.take d.size = d.toList.map enc) : Holds enc w g 0 d := by
 intro j hj
 unfold Blk at hb
 refine ⟨?_, by simp [World.frozen?, hb]⟩
 have h1 : (cur.toList.take d.size)[j]? = (d.toList.map enc)[j]? := by rw [ht]
 rw [List.getElem?_take_of_lt hj] at h1
 simp only [World.cell?, hb, Nat.zero_add]
 simp only [Option.isSome_none, Bool.false_eq_true, if_false]
 rw [← Array.getElem?_toList, h1]
 simp [hj]
theorem blk_sorted {cur : Array Value} {m : Nat} {os : Array Obj} (d : Array α) (hb : Blk w g e cur) : Blk (sortWorld enc w g 0 m d os) g e (putCells enc 0 d cur) := by
 unfold Blk at hb
 have hg : g < w.heap.size := (Array.getElem?_eq_some_iff.1 hb).1
 unfold Blk sortWorld
 rw [heap_grow_old _ _ (by simpa [putRow, mapBlock, Sort.ahead] using hg)]
 simp [putRow, mapBlock, Sort.ahead, Array.getElem?_modify, hb, onCells]
theorem fr_sorted {m : Nat} {os : Array Obj} (d : Array α) : Fr (fun j => j = g) w (sortWorld enc w g 0 m d os) := by
 unfold sortWorld
 refine ⟨rfl, rfl, rfl, by simp [putRow, mapBlock, Sort.ahead], fun k hk hne => ?_⟩
 rw [heap_grow_old _ _ (by simpa [putRow, mapBlock, Sort.ahead] using hk)]
 have : g ≠ k := fun e => hne e.symm
 simp [putRow, mapBlock, Sort.ahead, Array.getElem?_modify, this]
theorem take_put (cur : Array Value) (d : Array α) (h : d.size ≤ cur.size) : (putCells enc 0 d cur).toList.take d.size = d.toList.map enc := by
 apply List.ext_getElem?
 intro j
 by_cases hj : j < d.size
 ·rw [List.getElem?_take_of_lt hj, Array.getElem?_toList]
  simp [putCells, hj, show j < cur.size by omega]
 ·rw [List.getElem?_take_eq_none (by omega), List.getElem?_eq_none (by simp; omega)]
theorem sep_sorted (hw : Sep w (own e size (some ⟨g, 0, none⟩) n c (d.toList.map enc) :: K)) : Holds enc w g 0 d ∧ g < w.heap.size ∧ d.size = n * size ∧ n ≤ c ∧ ∀ (d' : Array α) m os, d'.size = d.size → Sep (sortWorld enc w g 0 m d' os) (own e size (some ⟨g, 0, none⟩) n c (d'.toList.map enc) :: K) := by
 have hO : w.ownsRow 0 e size (.slice (some ⟨g, 0, none⟩) n c) n (d.toList.map enc) := by
  have := hw.hd
  unfold own at this
  exact this
 obtain ⟨cur, hB, hkc, hcm, hcs, htk, hxl⟩ := own_open hO
 have hn : d.size = n * size := by simpa using hxl
 have hle : n * size ≤ c * size := Nat.mul_le_mul_right _ hkc
 refine ⟨holds_blk hB (by rw [hn]; exact htk), hB.lt, hn, hkc, fun d' m os hs => ?_⟩
 refine hw.step (fr_sorted d') (fun j _ e => by rw [own_F]; exact congrArg some e.symm) (own_mk (own_close (blk_sorted d' hB) hkc hcm (by simp [putCells, hcs]) ?_ (by simp [hs, hn]))) (fun j hj => .inl (by rw [own_F] at hj ⊢; exact hj))
 rw [← hn, ← hs]; exact take_put _ _ (by omega)
theorem flat_list (enc : α → List Value) (k : Nat) (hk : ∀ x, (enc x).length = k) (d : Array α) : (flatK enc k d).toList.map id = d.toList.flatMap enc := by
 rw [List.map_id]
 apply List.ext_getElem?
 intro t
 by_cases ht : t < d.size * k
 ·have k0 : 0 < k := by
   rcases Nat.eq_zero_or_pos k with h | h
   ·subst h; simp at ht
   ·exact h
  have h1 := get_flatK enc k d t ht
  have hs : (flatK enc k d).size = d.size * k := by simp
  have h2 : t / k < d.size := by
   rw [Nat.div_lt_iff_lt_mul k0]; exact ht
  have h3 : t % k < (enc d[t / k]!).length := by rw [hk]; exact Nat.mod_lt _ k0
  have h4 : ∀ (l : List α) (q r : Nat), r < k → ∀ x, l[q]? = some x → (l.flatMap enc)[q * k + r]? = (enc x)[r]? := by
   intro l
   induction l with
   | nil => intro q r _ x hx; simp at hx
   | cons a l ih =>
    intro q r hr x hx; rw [List.flatMap_cons]
    cases q with
    | zero =>
     simp only [List.getElem?_cons_zero, Option.some.injEq] at hx
     subst hx; rw [Nat.zero_mul, Nat.zero_add, List.getElem?_append_left (by rw [hk]; exact hr)]
    | succ q =>
     simp only [List.getElem?_cons_succ] at hx
     rw [List.getElem?_append_right (by rw [hk, Nat.succ_mul]; omega), hk, show (q + 1) * k + r - k = q * k + r by rw [Nat.succ_mul]; omega]; exact ih q r hr x hx
  have h5 := h4 d.toList (t / k) (t % k) (Nat.mod_lt _ k0) d[t / k]! (by simp [h2])
  rw [Nat.div_add_mod' t k] at h5
  rw [h5, Array.getElem?_toList, Array.getElem?_eq_getElem (by rw [hs]; exact ht), List.getElem?_eq_getElem h3]
  rw [getElem!_pos _ t (by rw [hs]; exact ht)] at h1
  rw [h1, getElem!_pos (enc d[t / k]!) (t % k) h3]
 ·have h6 : ∀ (l : List α), (l.flatMap enc).length = l.length * k := by
   intro l
   induction l with
   | nil => simp
   | cons a l ih => rw [List.flatMap_cons, List.length_append, ih, hk, List.length_cons, Nat.succ_mul]; omega
  rw [List.getElem?_eq_none (by simp; omega), List.getElem?_eq_none (by rw [h6]; simp; omega)]
theorem fn_sortK {enc : α → List Value} {k : Nat} (hk : ∀ x, (enc x).length = k) {Φ : Array α → Prop} (h : ∀ w, HoldsK enc k w g 0 d → g < w.heap.size → Calls P f args w fun x w' => x = .returned (.tuple #[]) ∧ ∃ d' m os, Φ d' ∧ d'.size = d.size ∧ w' = sortWorldK enc k w g 0 m d' os) :
  Fn P f args (own e k (some ⟨g, 0, none⟩) n c (d.toList.flatMap enc) :: K) (Ret (fun x : Array α => Φ x ∧ x.size = d.size) (fun _ => .tuple #[]) (fun x => own e k (some ⟨g, 0, none⟩) n c (x.toList.flatMap enc) :: K)) := by
 unfold Fn
 intro w hw
 rw [← flat_list enc k hk d] at hw
 obtain ⟨hH, hg, _, _, hS⟩ := sep_sorted hw
 refine (h w hH hg).mono ?_; rintro x w' ⟨rfl, d', m, os, hφ, hs, rfl⟩
 refine ⟨d', ⟨hφ, hs⟩, rfl, ?_⟩
 have h1 := hS (flatK enc k d') m os (by simp [hs])
 rw [flat_list enc k hk d'] at h1
 exact h1
end
end
section
open Go.RowKit Go.Sort
theorem srt_uniq {ss : List Seen} (h : Srt ss) {i j : Nat} {a b : Seen} (ha : ss[i]? = some a) (hb : ss[j]? = some b) (he : a.id = b.id) : i = j := by
 have hz : cmpI a.id.l b.id.l = 0 := by rw [he]; exact cmpI_self _
 have hz' : cmpI b.id.l a.id.l = 0 := by rw [he]; exact cmpI_self _
 rcases Nat.lt_trichotomy i j with h1 | h1 | h1
 ·have := h.lt h1 ha hb; omega
 ·exact h1
 ·have := h.lt h1 hb ha; omega
def setC (s : Seen) (c : Int) (hc : -9223372036854775808 ≤ c ∧ c ≤ 9223372036854775807) : Seen := ⟨s.id, s.t, c, s.tb, hc⟩
theorem srt_ids {ss ss' : List Seen} (h : ss'.map Seen.id = ss.map Seen.id) (hs : Srt ss) : Srt ss' := by
 have h1 : (ss.map Seen.id).Pairwise (fun a b => cmpI a.l b.l < 0) := (List.pairwise_map (f := Seen.id) (R := fun a b => cmpI a.l b.l < 0)).2 hs
 rw [← h] at h1
 exact (List.pairwise_map (f := Seen.id) (R := fun a b => cmpI a.l b.l < 0)).1 h1
theorem srt_set {ss : List Seen} (hs : Srt ss) {i : Nat} {s s' : Seen} (h : ss[i]? = some s) (he : s'.id = s.id) : Srt (ss.set i s') := by
 refine srt_ids ?_ hs
 rw [List.map_set, he]
 apply List.ext_getElem?
 intro j; rw [List.getElem?_set]
 split
 ·rename_i hj
  subst hj; rw [List.getElem?_map, h]
  have := (List.getElem?_eq_some_iff.1 h).1
  simp [this]
 ·rfl
theorem srt_filter {ss : List Seen} (hs : Srt ss) (p : Seen → Bool) : Srt (ss.filter p) := hs.sublist List.filter_sublist
abbrev outside (f t : Int) (s : Seen) : Bool := decide (s.t < f) || decide (t ≤ s.t)
def cfT (u v : Seen) : Int := if u.t < v.t then -1 else if v.t < u.t then 1 else cmpI u.id.l v.id.l
def byT (u v : Seen) : Bool := decide (u.t < v.t) || (decide (u.t = v.t) && lessI u.id.l v.id.l)
theorem cfT_swap (u v : Seen) : cfT v u = -cfT u v := by
 unfold cfT
 have := cmpI_swap u.id.l v.id.l
 split <;> split <;> omega
theorem cfT_trans {u v w : Seen} (h1 : cfT u v < 0) (h2 : cfT v w < 0) : cfT u w < 0 := by
 have h3 := @cmpI_trans u.id.l v.id.l w.id.l
 have b1 := cmpI_vals u.id.l v.id.l
 have b2 := cmpI_vals v.id.l w.id.l
 unfold cfT at *
 split at h1 <;> split at h2 <;> split <;> first | omega | skip
 all_goals (split at h1 <;> split at h2 <;> first | omega | skip)
 all_goals (rw [if_neg (by omega)]; exact h3 h1 h2)
theorem cfT_self (u : Seen) : cfT u u = 0 := by
 unfold cfT
 rw [if_neg (Int.lt_irrefl _), if_neg (Int.lt_irrefl _)]; exact cmpI_self _
theorem cfT_zero {u v : Seen} (h : cfT u v = 0) : u.t = v.t ∧ u.id = v.id := by
 unfold cfT at h
 split at h
 ·omega
 ·split at h
  ·omega
  ·exact ⟨by omega, (Id.eq_iff _ _).1 h⟩
theorem cfT_cong {u v w : Seen} (h : cfT u v = 0) : cfT w u = cfT w v := by
 obtain ⟨h1, h2⟩ := cfT_zero h
 unfold cfT
 rw [h1, h2]
theorem cfT_le_trans {u v w : Seen} (h1 : cfT u v ≤ 0) (h2 : cfT v w ≤ 0) : cfT u w ≤ 0 := by
 rcases Int.lt_or_eq_of_le h2 with h | h
 ·rcases Int.lt_or_eq_of_le h1 with h' | h'
  ·exact Int.le_of_lt (cfT_trans h' h)
  ·have := cfT_cong (w := w) h'
   have a := cfT_swap w u
   have b := cfT_swap w v
   omega
 ·rw [← cfT_cong h]; exact h1
theorem byT_iff (u v : Seen) : byT u v = decide (cfT u v < 0) := by
 unfold byT cfT lessI
 rw [Bool.eq_iff_iff]
 simp only [Bool.or_eq_true, Bool.and_eq_true, decide_eq_true_eq]
 constructor
 ·rintro (h | ⟨h, h'⟩)
  ·rw [if_pos h]; decide
  ·rw [if_neg (by omega), if_neg (by omega)]; exact h'
 ·intro h
  split at h
  ·exact .inl (by assumption)
  ·split at h
   ·omega
   ·exact .inr ⟨by omega, h⟩
theorem swo_T : SWO (ltOf cfT) where
 irrefl x := by unfold ltOf; rw [cfT_self]; rfl
 trans x y z h1 h2 := by
  unfold ltOf at *
  exact decide_eq_true (cfT_trans (of_decide_eq_true h1) (of_decide_eq_true h2))
 ntrans x y z h1 h2 := by
  unfold ltOf at *
  have a1 := of_decide_eq_false h1
  have a2 := of_decide_eq_false h2
  have b1 := cfT_swap x y
  have b2 := cfT_swap y z
  have b3 := cfT_swap x z
  have := cfT_le_trans (u := z) (v := y) (w := x) (by omega) (by omega)
  exact decide_eq_false (by omega)
def leT (u v : Seen) : Prop := cfT u v ≤ 0
theorem insB_perm (bf : Seen → Seen → Bool) (ss : List Seen) (s : Seen) : (insB bf ss s).Perm (s :: ss) := by
 unfold insB
 refine List.perm_middle.trans ?_; rw [List.take_append_drop]
theorem insB_le {ss : List Seen} (h : ss.Pairwise leT) (s : Seen) : (insB byT ss s).Pairwise leT := by
 unfold insB
 have h1 : ∀ u ∈ ss.take (ss.takeWhile fun u => byT u s).length, leT u s := fun u hu => by
  have := tw_take (fun u => byT u s) ss u hu
  rw [byT_iff, decide_eq_true_eq] at this
  exact Int.le_of_lt this
 have h2 : ∀ u ∈ ss.drop (ss.takeWhile fun u => byT u s).length, leT s u := fun u hu => by
  obtain ⟨k, hk⟩ := List.getElem?_of_mem hu
  rw [List.getElem?_drop] at hk
  cases hf : ss[(ss.takeWhile fun u => byT u s).length]? with
  | none =>
   have a := List.getElem?_eq_none_iff.1 hf
   have b := (List.getElem?_eq_some_iff.1 hk).1
   omega
  | some f =>
   have a := tw_next (fun u => byT u s) ss f hf
   rw [byT_iff, decide_eq_false_iff_not] at a
   have b := cfT_swap f s
   have c : leT s f := by unfold leT; omega
   rcases Nat.eq_zero_or_pos k with h0 | h0
   ·subst h0
    rw [Nat.add_zero, hf] at hk
    injection hk with hk
    subst hk; exact c
   ·obtain ⟨p1, rfl⟩ := List.getElem?_eq_some_iff.1 hf
    obtain ⟨p2, rfl⟩ := List.getElem?_eq_some_iff.1 hk
    exact cfT_le_trans c (List.pairwise_iff_getElem.1 h _ _ p1 p2 (by omega))
 rw [List.pairwise_append]
 refine ⟨h.sublist (List.take_sublist _ _), List.pairwise_cons.2 ⟨h2, h.sublist (List.drop_sublist _ _)⟩, fun a ha b hb => ?_⟩
 rcases List.mem_cons.1 hb with rfl | hb
 ·exact h1 a ha
 ·exact cfT_le_trans (h1 a ha) (h2 b hb)
def sortT (l : List Seen) : List Seen := l.foldl (fun r s => insB byT r s) []
theorem sortT_snoc (l : List Seen) (s : Seen) : sortT (l ++ [s]) = insB byT (sortT l) s := by
 unfold sortT
 rw [List.foldl_append]
 rfl
theorem sortT_inv : ∀ (n : Nat) (l : List Seen), l.length = n → (sortT l).Perm l ∧ (sortT l).Pairwise leT
 | 0, l, h => by
  obtain rfl := List.eq_nil_of_length_eq_zero h
  exact ⟨.refl _, .nil⟩
 | n + 1, l, h => by
  obtain ⟨l', a, rfl⟩ : ∃ l' a, l = l' ++ [a] := ⟨l.dropLast, l.getLast (fun e => by rw [e] at h; simp at h), (List.dropLast_concat_getLast _).symm⟩
  obtain ⟨h1, h2⟩ := sortT_inv n l' (by simpa using h)
  rw [sortT_snoc]; exact ⟨(insB_perm _ _ _).trans ((h1.cons a).trans (List.perm_append_comm (l₁ := [a]))), insB_le h2 a⟩
theorem sort_one {l d : List Seen} (hs : Srt l) (hp : d.Perm l) (hd : d.Pairwise leT) : d = sortT l := by
 obtain ⟨h1, h2⟩ := sortT_inv _ l rfl
 refine List.Perm.eq_of_pairwise (le := leT) (fun a b ha hb h3 h4 => ?_) hd h2 (hp.trans h1.symm)
 have h5 := cfT_swap a b
 unfold leT at h3 h4
 obtain ⟨-, hid⟩ := cfT_zero (show cfT a b = 0 by omega)
 obtain ⟨i, hi⟩ := List.getElem?_of_mem (hp.mem_iff.1 ha)
 obtain ⟨j, hj⟩ := List.getElem?_of_mem (h1.mem_iff.1 hb)
 have := srt_uniq hs hi hj hid
 subst this
 rw [hi] at hj
 exact Option.some.inj hj
end
section
open Go.RowKit
attribute [local irreducible] Go.Calls Go.Exit.then Go.Exit.inBlock Go.bodyPost Go.Code.wp Go.wpList
section
section
variable {P : Program} {ops : Array Oper} {Q : Exit → Act → World → Prop} {n : Nat} {l : Env} {L L' : List Fa} {rest : List Oper} {ty t e : TypeId} {pos : String} {after : Array Edge} {x : Operand} {i m c size bytes : Nat} {A : Option Addr} {xs : List Value} {z v : Value} {op : Op} {w w' : World}
theorem zs_one {z : Value} {m : Nat} (h : ∀ v ∈ z.cells.toList, v.oneCell' = true) : ∀ v ∈ zeros z m, v.oneCell' = true := by
 intro v hv
 unfold zeros Builtin.zeroCells at hv
 rw [Array.mem_toList_iff, Array.mem_map] at hv
 obtain ⟨i, hi, rfl⟩ := hv
 rw [Array.mem_range] at hi
 have hs : 0 < z.cells.size := by
  rcases Nat.eq_zero_or_pos z.cells.size with h0 | h0
  ·rw [h0, Nat.mul_zero] at hi
   omega
  ·exact h0
 have hlt := Nat.mod_lt i hs
 rw [getElem!_pos z.cells (i % z.cells.size) hlt]; exact h _ (by simp)
theorem sl_clear (hx : ev l x = some (.slice (cutA A c i size) (m - i) (c - i))) (hp : Pick (own e size A m c xs) L L') (him : i ≤ m) (ht : P.underlying t = some (.slice e)) (hi : (P.info? e).map (fun i => (i.zero, i.size, i.bytes)) = some (some z, size, bytes)) (hzs : z.cells.size = size) (hz1 : ∀ v ∈ z.cells.toList, v.oneCell' = true)
  (h : SL P ops Q rest n l (own e size A i c (xs.take (i * size)) :: L')) : SL P ops Q (⟨none, .call { callee := .builtin .clear, args := #[x], argTypes := #[t] }, ty, pos, after, none⟩ :: rest) n l L := sl_of fun w hw => by
 obtain ⟨ti, hi0, hz0, hs1, hs2⟩ := info_parts hi
 subst hs1 hs2
 have h2 := hw.pick hp
 have hO : w.ownsRow 0 e ti.size (.slice A m c) m xs := by
  have := h2.hd
  unfold own at this
  exact this
 have hxl : xs.length = m * ti.size := hO.1
 have hle : i * ti.size ≤ m * ti.size := Nat.mul_le_mul_right _ him
 by_cases hz : m - i = 0
 ·obtain rfl : i = m := by omega
  rw [hz] at hx
  refine wl_run0 (v := .tuple #[]) (w' := w) ?_ (h.to ?_)
  ·unfold Ru
   intro a _ _ _ _ hs
   simp only [execOp, resolve, List.map_toArray, List.map_cons, List.map_nil, hs.ev hx]
   have hrun : (Builtin.clear_ #[t] ty #[.slice (cutA A c i ti.size) 0 (c - i)]).run P w = .ok (.tuple #[]) w := by
    cases cutA A c i ti.size <;> simp [Builtin.clear_, run_underlying ht]
   simp only [invoke, builtin, Sem.run_bind, Sem.run_pure, Result.andThen_ok, hrun]
  ·rw [List.take_of_length_le (by omega)]; exact h2
 ·obtain ⟨g, rfl⟩ : ∃ g, A = some ⟨g, 0, none⟩ := by
   obtain ⟨g, cap, hv, _, _⟩ := World.ownsRow.form hO (by omega)
   exact ⟨g, by injection hv⟩
  obtain ⟨cur, hB, hkc, hcm, hcs, htk, _⟩ := own_open hO
  rw [cutA_some (by omega)] at hx
  have hcl : cur.toList.length = c * ti.size := by simpa using hcs
  have hmul : m * ti.size ≤ c * ti.size := Nat.mul_le_mul_right _ hkc
  have hzl : (zeros z (m - i)).length = (m - i) * ti.size := by rw [zeros_len, hzs]
  have hsum : i * ti.size + (m - i) * ti.size = m * ti.size := by rw [← Nat.add_mul, show i + (m - i) = m by omega]
  have hst := run_storeCells_cells (P := P) g (i * ti.size) (zeros z (m - i)) 0 w (fun j hj => by rw [hB.cell, Array.getElem?_eq_getElem (by omega)]; rfl) (fun j hj => hB.frozen _) (zs_one hz1)
  simp only [Nat.add_zero] at hst
  have hB2 := setCells_mid (zeros z (m - i)) (i * ti.size) w cur.toList (by simpa using hB) (by omega)
  obtain ⟨k, hk⟩ : ∃ k, m - i = k + 1 := ⟨m - i - 1, by omega⟩
  refine wl_run0 (v := .tuple #[]) (w' := w.setCells g (i * ti.size) (zeros z (m - i))) ?_ (h.to (h2.step (setCells_fr _ _ _) (fun j _ e => by rw [own_F]; exact congrArg some e.symm) (own_mk (own_close (cur := (cur.toList.take (i * ti.size) ++ zeros z (m - i) ++ cur.toList.drop (i * ti.size + (zeros z (m - i)).length)).toArray) (by simpa using hB2) (by omega) hcm (by simp; omega) ?_ (by rw [List.length_take]; omega))) (fun j hj => .inl (by rw [own_F] at hj ⊢; exact hj))))
  ·unfold Ru
   intro a _ _ _ _ hs
   simp only [execOp, resolve, List.map_toArray, List.map_cons, List.map_nil, hs.ev hx]
   have hst' : (storeCells ⟨g, i * ti.size, none⟩ (Builtin.zeroCells z.cells (m - i)).toList 0).run P w = .ok () (w.setCells g (i * ti.size) (zeros z (m - i))) := hst
   have hrun : (Builtin.clear_ #[t] ty #[.slice (some ⟨g, i * ti.size, none⟩) (m - i) (c - i)]).run P w = .ok (.tuple #[]) (w.setCells g (i * ti.size) (zeros z (m - i))) := by
    rw [hk] at hst' ⊢
    simp [Builtin.clear_, run_underlying ht, typeInfo, zeroValue, hi0, hz0, hst']
   simp only [invoke, builtin, Sem.run_bind, Sem.run_pure, Result.andThen_ok, hrun]
  ·rw [List.toList_toArray, ← htk, List.take_take, Nat.min_eq_left hle, List.append_assoc, List.take_append_of_le_length (by rw [List.length_take]; omega), List.take_take, Nat.min_self]
end
structure Dg where
 i : Nat
 j : Nat
 cur : List Seen
namespace pDf
theorem nthx_ (h : φ := by first | exact Seen.nt _ | exact Seen.nc _) : φ := h
theorem midx_ (h : φ := by first | assumption | exact Seen.mid _) : φ := h
theorem szx_ (h : φ := by ((first | (simp only [Seen.len, bytes_length, Id.len]; rfl) | simp only [Seen.len, bytes_length, Id.len]); first | done | fail)) : φ := h
theorem onex_ (h : φ := by exact Seen.one _) : φ := h
end pDf
open pDf
section
variable {K C : List Fa} {A : Option Addr} {c : Nat} {ss : List Seen} {fd : FuncId} {caps : List Value} {p : Seen → Bool}
theorem index_ok (hf : callable Tryz.prog fd = true) (hd : ∀ (L : List Fa) (s : Seen), Sub L C → Fn Tryz.prog fd ([s.v] ++ caps).toArray L (Ret (fun _ : Unit => True) (fun _ => .bool (p s)) (fun _ => L))) (hC : Sub K C) (hr : Vw K (fun w => Reads w 18 A ss.length (rows Seen.cells ss))) (hn : ss.length ≤ 1000000) :
  Fn Tryz.prog 110 #[.slice A ss.length c, .func (.func fd) #[] caps.toArray] K (Ret (fun r : Int => (r = -1 ∧ ∀ s ∈ ss, p s = false) ∨ ∃ i : Nat, r = i ∧ i < ss.length ∧ (∀ s ∈ ss.take i, p s = false) ∧ ∃ s, ss[i]? = some s ∧ p s = true) (fun r => .int .i64 r) (fun _ => K)) := by
 refine fe_ Tryz.func110 Tryz.ntmps110 [(0, .slice A ss.length c), (1, .func (.func fd) #[] caps.toArray)] ?_; refine go_ ?_; refine sc_for (fun j : Nat => [(0, .slice A ss.length c), (1, .func (.func fd) #[] caps.toArray), (7, .int .i64 ss.length), (8, .int .i64 j)]) (fun _ => K) (fun j => j ≤ ss.length ∧ ∀ s ∈ ss.take j, p s = false) (fun j => ss.length - j) 0 has_ sub_ ⟨Nat.zero_le _, fun s h => by simp at h⟩ ?_; rintro j ⟨hj, ha⟩
 by_cases hlt : j < ss.length
 case neg =>
  obtain rfl : j = ss.length := by omega
  rw [List.take_length] at ha
  refine go_ ?_; exact se_ret1 (-1) (.inl ⟨rfl, ha⟩) rfl rfl sub_
 have hs : ss[j]? = some ss[j] := List.getElem?_eq_getElem hlt
 have hmid := rows_mid Seen.len hs
 generalize ss[j] = s at hs hmid
 refine sc_know (vw_form hr (by omega)) ?_; rintro ⟨ad, rfl⟩; refine go_ ?_; refine sl_pu (pu_ldrs hr (by omega) rfl hmid rfl rfl sz_) rfl ?_; refine go_ ?_; refine sl_call rfl rfl hf rfl Sub.refl (hd K s hC) ?_; rintro _ -
 cases hp : p s with
 | true =>
  refine go_ ?_; exact se_ret1 (j : Int) (.inr ⟨j, rfl, hlt, ha, s, hs, hp⟩) rfl rfl sub_
 | false =>
  refine go_ ?_
  refine se_round (j + 1) has_ sub_ ⟨hlt, fun u hu => ?_⟩ (by omega)
  obtain ⟨h1, h2⟩ := List.getElem?_eq_some_iff.1 hs
  rw [List.take_succ_eq_append_getElem h1, h2, List.mem_append, List.mem_singleton] at hu
  rcases hu with hu | rfl
  ·exact ha u hu
  ·exact hp
theorem delete_ok (hf : callable Tryz.prog fd = true) (hd : ∀ (L : List Fa) (s : Seen), Sub L C → Fn Tryz.prog fd ([s.v] ++ caps).toArray L (Ret (fun _ : Unit => True) (fun _ => .bool (p s)) (fun _ => L))) (hC : Sub K C) (hn : ss.length ≤ 1000000) :
  Fn Tryz.prog 70 #[.slice A ss.length c, .func (.func fd) #[] caps.toArray] (ixo A c ss :: K) (Ret (fun _ : Unit => True) (fun _ => .slice A (ss.filter fun s => !p s).length c) (fun _ => ixo A c (ss.filter fun s => !p s) :: K)) := by
 refine fn_know (fun w hw => (own_len (e := 62) (size := 18) (A := A) (xs := rows Seen.cells ss) hw .here).2) ?_; rintro ⟨hlc, hcm⟩; refine fe_ Tryz.func70 Tryz.ntmps70 [(0, .slice A ss.length c), (1, .func (.func fd) #[] caps.toArray)] ?_; refine go_ ?_; refine slc_ rfl rfl Sub.refl (index_ok (A := A) (ss := ss) hf hd (Sub.skip hC) (Vw.of_own (e := 62) (c := c) at_) hn) ?_
 rintro r (⟨rfl, hall⟩ | ⟨i, rfl, hi, hai, s0, hs0, hp0⟩)
 ·have he : (ss.filter fun s => !p s) = ss := List.filter_eq_self.2 fun s hs => by rw [hall s hs]; rfl
  rw [he]; refine go_ ?_; exact r1_ ()
 have hA : ∃ g, A = some ⟨g, 0, none⟩ ∨ True := ⟨0, .inr trivial⟩
 clear hA
 refine go_ ?_; refine sc_bjoin (fun q : Dg => [(0, .slice A ss.length c), (5, .int .i64 q.i)]) (fun q => own 62 18 A ss.length c (rows Seen.cells q.cur) :: K) (fun q => q.cur.length = ss.length ∧ q.i ≤ ss.length ∧ q.cur.take q.i = ss.filter fun s => !p s) ?_ ?_
 ·refine sc_for (fun q : Dg => [(0, .slice A ss.length c), (1, .func (.func fd) #[] caps.toArray), (5, .int .i64 q.i), (6, .int .i64 q.j)]) (fun q => own 62 18 A ss.length c (rows Seen.cells q.cur) :: K) (fun q => q.cur.length = ss.length ∧ q.i < q.j ∧ q.j ≤ ss.length ∧ (q.cur.take q.i = (ss.take q.j).filter fun s => !p s) ∧ q.cur.drop q.j = ss.drop q.j) (fun q => ss.length - q.j) ⟨i, i + 1, ss⟩ has_ sub_ ⟨rfl, Nat.lt_succ_self _, hi, ?_, rfl⟩ ?_
  ·obtain ⟨h1, h2⟩ := List.getElem?_eq_some_iff.1 hs0
   show ss.take i = (ss.take (i + 1)).filter _
   rw [List.take_succ_eq_append_getElem h1, h2, List.filter_append, List.filter_eq_self.2 (fun s hs => by rw [hai s hs]; rfl)]
   simp [hp0]
  rintro ⟨i', j, cur⟩ ⟨hcl, hij, hj, htk, hdr⟩
  dsimp only at hcl hij hj htk hdr ⊢
  by_cases hlt : j < ss.length
  case neg =>
   obtain rfl : j = ss.length := by omega
   rw [List.take_length] at htk
   refine go_ ?_; exact se_mid ⟨i', ss.length, cur⟩ has_ sub_ ⟨hcl, Nat.le_of_lt hij, htk⟩
  have hs : ss[j]? = some ss[j] := List.getElem?_eq_getElem hlt
  have htk2 : ss.take (j + 1) = ss.take j ++ [ss[j]] := List.take_succ_eq_append_getElem hlt
  have hcj : cur[j]? = some ss[j] := by
   have := congrArg (fun l => l[0]?) hdr
   simpa [List.getElem?_drop, hs] using this
  have hdr2 : cur.drop (j + 1) = ss.drop (j + 1) := by
   have := congrArg (fun l => l.drop 1) hdr
   simpa [List.drop_drop, Nat.add_comm] using this
  have hmid := rows_mid Seen.len hcj
  generalize ss[j] = s at hs htk2 hcj hmid
  refine sc_form (e := 62) (size := 18) (A := A) (m := ss.length) (c := c) (xs := rows Seen.cells cur) at_ (by omega) ?_; rintro g rfl; refine go_ ?_; refine al_ ?_; intro g7; refine go_ ?_; refine sl_call rfl rfl hf rfl Sub.refl (hd _ s (Sub.skip (Sub.skip hC))) ?_; rintro _ -
  cases hp : p s with
  | true =>
   have hnew : (ss.take (j + 1)).filter (fun s => !p s) = (ss.take j).filter fun s => !p s := by
    rw [htk2, List.filter_append]
    simp [hp]
   refine go_ ?_; exact se_round ⟨i', j + 1, cur⟩ has_ sub_ ⟨hcl, by dsimp only; omega, hlt, by dsimp only; rw [hnew]; exact htk, hdr2⟩ (by dsimp only; omega)
  | false =>
   have hnew : (ss.take (j + 1)).filter (fun s => !p s) = (ss.take j).filter (fun s => !p s) ++ [s] := by
    rw [htk2, List.filter_append]
    simp [hp]
   have hput := rows_put (C := Seen.cells) (ss := cur) (j := i') Seen.len s (by omega)
   refine go_ ?_; refine sl_sto_mid (i := i' * 18) (cl := s.cells) (by rw [show ((⟨g, 0, none⟩ : Addr).add (i' * 18)) = ⟨g, i' * 18, none⟩ from at1 g (i' * 18)]; rfl) pick_ rfl (by rw [s.len]; rfl) (by rw [s.len]; omega) s.one ?_; rw [hput]; refine go_ ?_
   refine se_round ⟨i' + 1, j + 1, cur.set i' s⟩ has_ sub_ ⟨by rw [List.length_set]; exact hcl, by dsimp only; omega, hlt, ?_, ?_⟩ (by dsimp only; omega)
   ·show (cur.set i' s).take (i' + 1) = _
    rw [hnew, ← htk, List.take_succ_eq_append_getElem (by rw [List.length_set]; omega), List.getElem_set_self, List.take_set_of_le (Nat.le_refl _)]
   ·show (cur.set i' s).drop (j + 1) = _
    rw [List.drop_set_of_lt (by omega)]; exact hdr2
 rintro ⟨i', j, cur⟩ ⟨hcl, hi', htk⟩
 dsimp only at hcl hi' htk ⊢
 have hln : (ss.filter fun s => !p s).length = i' := by rw [← htk, List.length_take]; omega
 have hrows : (rows Seen.cells cur).take (i' * 18) = rows Seen.cells (ss.filter fun s => !p s) := by rw [← htk, rows_take Seen.len]
 subst hln; refine go_ ?_; refine sl_clear rfl pick_ hi' rfl Tryz.infoSeen (by decide) (by decide) ?_; rw [hrows]; refine go_ ?_; exact r1_ ()
end
end
end
section
open Go.Shelf Go.Sort Go.RowKit
def sortR_ren : Go.Shelf.Ren := ⟨fun | 6 => 112 | 15 => 143 | 14 => 142 | 28 => 173 | 29 => 174 | 20 => 165 | 21 => 166 | 22 => 167 | 23 => 168 | 24 => 169 | 25 => 170 | 26 => 171 | 27 => 172 | 46 => 202 | 47 => 203 | 48 => 204 | 49 => 205 | 50 => 206 | 57 => 220 | n => n, fun | 22 => 79 | 24 => 62 | 25 => 186 | 3 => 3 | 39 => 221 | 0 => 0 | 53 => 26 | 55 => 36 | 4 => 4 | 46 => 239 | 45 => 238 | 50 => 170 | 5 => 5 | 9 => 9 | 66 => 261 | 70 => 265 | 76 => 279 | 77 => 280 | n => n, fun | n => n⟩
theorem sortR : Go.Proofs.SlLaysF0.n6 Tryz.prog sortR_ren := {
 mixed := by kernel_rfl
 f6 := ⟨Tryz.f112.name, by decide, Tryz.func112.trans (congrArg some (by kernel_rfl))⟩
 f14 := ⟨Tryz.f142.name, by decide, Tryz.func142.trans (congrArg some (by kernel_rfl))⟩
 f15 := Tryz.func143.trans (congrArg some (by kernel_rfl))
 f20 := ⟨Tryz.f165.name, by decide, Tryz.func165.trans (congrArg some (by kernel_rfl))⟩
 f21 := ⟨Tryz.f166.name, by decide, Tryz.func166.trans (congrArg some (by kernel_rfl))⟩
 f22 := ⟨Tryz.f167.name, by decide, Tryz.func167.trans (congrArg some (by kernel_rfl))⟩
 f23 := ⟨Tryz.f168.name, by decide, Tryz.func168.trans (congrArg some (by kernel_rfl))⟩
 f24 := ⟨Tryz.f169.name, by decide, Tryz.func169.trans (congrArg some (by kernel_rfl))⟩
 f25 := ⟨Tryz.f170.name, by decide, Tryz.func170.trans (congrArg some (by kernel_rfl))⟩
 f26 := ⟨Tryz.f171.name, by decide, Tryz.func171.trans (congrArg some (by kernel_rfl))⟩
 f27 := ⟨Tryz.f172.name, by decide, Tryz.func172.trans (congrArg some (by kernel_rfl))⟩
 f28 := Tryz.func173.trans (congrArg some (by kernel_rfl))
 f29 := Tryz.func174.trans (congrArg some (by kernel_rfl))
 f46 := ⟨Tryz.f202.name, by decide, Tryz.func202.trans (congrArg some (by kernel_rfl))⟩
 f47 := Tryz.func203.trans (congrArg some (by kernel_rfl))
 f48 := Tryz.func204.trans (congrArg some (by kernel_rfl))
 f49 := ⟨Tryz.f205.name, by decide, Tryz.func205.trans (congrArg some (by kernel_rfl))⟩
 f50 := ⟨Tryz.f206.name, by decide, Tryz.func206.trans (congrArg some (by kernel_rfl))⟩
 f57 := ⟨Tryz.f220.name, by decide, Tryz.func220.trans (congrArg some (by kernel_rfl))⟩
 t0 := Tryz.underlying0
 a0 := Tryz.isAgg0
 z0 := Tryz.sizeOf0
 v0 := Tryz.zeroValue0
 t3 := Tryz.underlying3
 a3 := Tryz.isAgg3
 z3 := Tryz.sizeOf3
 v3 := Tryz.zeroValue3
 t4 := Tryz.underlying4
 a4 := Tryz.isAgg4
 z4 := Tryz.sizeOf4
 v4 := Tryz.zeroValue4
 t5 := Tryz.underlying5
 a5 := Tryz.isAgg5
 z5 := Tryz.sizeOf5
 v5 := Tryz.zeroValue5
 t9 := Tryz.underlying9
 a9 := Tryz.isAgg9
 z9 := Tryz.sizeOf9
 v9 := Tryz.zeroValue9
 t22 := Tryz.underlying79
 a22 := Tryz.isAgg79
 z22 := Tryz.sizeOf79
 v22 := Tryz.zeroValue79
 t25 := Tryz.underlying186
 a25 := Tryz.isAgg186
 z25 := Tryz.sizeOf186
 v25 := Tryz.zeroValue186
 t39 := Tryz.underlying221
 a39 := Tryz.isAgg221
 z39 := Tryz.sizeOf221
 v39 := Tryz.zeroValue221
 t45 := Tryz.underlying238
 a45 := Tryz.isAgg238
 z45 := Tryz.sizeOf238
 v45 := Tryz.zeroValue238
 t46 := Tryz.underlying239
 a46 := Tryz.isAgg239
 z46 := Tryz.sizeOf239
 v46 := Tryz.zeroValue239
 t50 := Tryz.underlying170
 a50 := Tryz.isAgg170
 z50 := Tryz.sizeOf170
 v50 := Tryz.zeroValue170
 t53 := Tryz.underlying26
 a53 := Tryz.isAgg26
 z53 := Tryz.sizeOf26
 v53 := Tryz.zeroValue26
 t55 := Tryz.underlying36
 a55 := Tryz.isAgg36
 z55 := Tryz.sizeOf36
 v55 := Tryz.zeroValue36
 t66 := Tryz.underlying261
 a66 := Tryz.isAgg261
 z66 := Tryz.sizeOf261
 v66 := Tryz.zeroValue261
 t70 := Tryz.underlying265
 a70 := Tryz.isAgg265
 z70 := Tryz.sizeOf265
 v70 := Tryz.zeroValue265
 t76 := Tryz.underlying279
 a76 := Tryz.isAgg279
 z76 := Tryz.sizeOf279
 v76 := Tryz.zeroValue279
 t77 := Tryz.underlying280
 a77 := Tryz.isAgg280
 z77 := Tryz.sizeOf280
 v77 := Tryz.zeroValue280 }
theorem sort_none {K : List Fa} {A : Option Addr} {c : Nat} {fv : Value} : Fn Tryz.prog 112 #[.slice A 0 c, fv] K (Ret (fun _ : Unit => True) (fun _ => .tuple #[]) (fun _ => K)) := by
 unfold Fn
 intro w hw; refine (AnyF.slices_SortFunc_none sortR A c fv w).mono ?_; rintro x w' ⟨rfl, rfl⟩; exact ⟨(), trivial, rfl, hw⟩
end
section
open Go.RowKit
attribute [local irreducible] Go.Calls Go.Exit.then Go.Exit.inBlock Go.bodyPost Go.Code.wp Go.wpList
section
namespace pRn
theorem nthx_ (h : φ := by first | exact Seen.nt _ | exact Seen.nc _) : φ := h
theorem midx_ (h : φ := by first | exact Seen.mid _) : φ := h
theorem szx_ (h : φ := by ((first | (simp only [Seen.len, bytes_length, Id.len]; rfl) | simp only [Seen.len, bytes_length, Id.len]); first | done | fail)) : φ := h
theorem onex_ (h : φ := by exact Seen.one _) : φ := h
end pRn
open pRn
section
variable {K : List Fa}
end
end
end
end Go.Proofs.YtocaabnbmcpjmaaGreat
