/- Several texts of one claim, one behind the other (Jn, Jo, Jq). -/
import Derived.Test.YtemhhhikopemmaaB16
import Derived.Test.YtemhhhikopemmaaB03
/- Two lists of records: same. A journal of records read back. -/
namespace Go.Proofs.Ytemhhhikopemmaa
open Go.RowKit
attribute [local irreducible] Go.Calls Go.Exit.then Go.Exit.inBlock Go.bodyPost Go.Code.wp Go.wpList takeL recordL hashL
theorem nth_Jn {φ : Prop} (h : φ := by (first | rfl | rfl)) : φ := h
theorem mid_Jn {φ : Prop} (h : φ := by (first | exact Mid.all | exact Mid.all | exact Mid.head)) : φ := h
theorem sz_Jn {φ : Prop} (h : φ := by (first | rfl | (rfl; first | done | fail))) : φ := h
theorem one_Jn {φ : Prop} (h : φ := by (first | assumption | exact one_bytes _ | (simp only [List.mem_cons, List.not_mem_nil, or_false, forall_eq_or_imp, forall_eq]; decide) | exact one_bytes _)) : φ := h
theorem set_Jn {φ : Prop} (h : φ := by (first | (fail) | ((repeat (first | exact SetAt.here | apply SetAt.there)); first | done | fail))) : φ := h
theorem cl_Jn {φ : Prop} (h : φ := by first | rfl | exact .t | exact .f | exact .t (by omega) | exact .f (by omega) | exact .u | exact .i (by (first | exact .t (by omega) | exact .f (by omega) | exact .u | exact .i (by omega) | exact .v (by omega) | exact .b (by omega) | exact .w | rfl | omega)) | exact .v (by omega) | exact .b (by omega) | exact .q (by omega) | exact .w | exact .b (by exact at_) rfl (by exact nth_Jn) | exact .w (by exact at_) rfl rfl (by exact sz_Jn) | exact .s (by exact at_) (by exact mid_Jn) rfl rfl (by exact sz_Jn) | exact .z rfl rfl ⟨by kernel_rfl⟩ | exact .b rfl rfl ⟨by kernel_rfl⟩ | exact .a rfl rfl ⟨by kernel_rfl⟩ | exact .o rfl | exact .s | exact .n | exact .p rfl | exact .q rfl | exact .c rfl | exact .d rfl | exact .n rfl rfl (by omega) | exact .a rfl rfl (by omega) | exact .p rfl rfl (by omega) (by omega) | exact .y rfl rfl (by omega) (by omega) | exact .o (by exact at_) (by omega) rfl (by exact nth_Jn) | exact .m (by exact at_) (by omega) (by exact mid_Jn) rfl rfl (by exact sz_Jn) | exact .mlen (by exact at_) rfl | exact .t (by exact at_) rfl rfl (by first | exact True.intro | rfl) (by assumption) | exact .f (by exact at_) rfl rfl (by first | exact True.intro | rfl) (by assumption) rfl | exact .t1 (by exact at_) rfl rfl (by first | exact True.intro | rfl) (by assumption) | exact .f1 (by exact at_) rfl rfl (by first | exact True.intro | rfl) (by assumption) rfl | exact .r rfl rfl (by omega) (by omega) (by exact nth_Jn) rfl | exact .s rfl (by omega) (by assumption) | exact at_ | assumption | exact .r rfl rfl | exact .h rfl rfl rfl (by omega) | exact .l rfl rfl rfl (by omega) (by omega) | exact .g rfl rfl rfl rfl (by omega) (by omega) | exact .h rfl rfl (toN_ (by omega)) (by omega) | exact .l rfl rfl (toN_ (by omega)) (by omega) (by omega) | exact .g rfl rfl (toN_ (by omega)) (toN_ (by omega)) (by omega) (by omega) | exact .o (by decide) | exact .f (by decide) | exact .n (by omega) (by first | decide | (show _ ≤ ((64 : Nat) : Int); omega)) | (constructor; (repeat (first | exact .t (by omega) | exact .f (by omega) | exact .u | exact .i (by omega) | exact .v (by omega) | exact .b (by omega) | exact .w | rfl | omega)); first | done | fail) | omega | (show _ ≤ ((64 : Nat) : Int); omega)) : φ := h
theorem pv_Jn {φ : Prop} (h : φ := by constructor; (repeat exact cl_Jn); first | done | fail) : φ := h
theorem su_Jn {φ ψ : Prop} (k : ψ) (h : Hide ψ → φ := by (intro k; (first | refine sl_pu (PuI.sep (by exact pv_Jn)) rfl ?_ | refine sl_yes rfl rfl ?_ | refine sl_no rfl rfl rfl ?_ | refine sl_off rfl rfl rfl ?_ | (fail)); exact k.out)) : φ := h ⟨k⟩
theorem rq_Jn {φ ψ : Prop} (k : ψ) (h : Hide ψ → φ := by (intro k; (first | refine wq_pu (PuI.sep (by exact pv_Jn)) rfl ?_ | refine wq_yes rfl rfl ?_ | refine wq_no rfl rfl rfl ?_ | refine wq_off rfl rfl rfl ?_ | (fail)); exact k.out)) : φ := h ⟨k⟩
theorem sto_Jn {φ ψ : Prop} (k : ψ) (h : Hide ψ → φ := by (intro k; (first | refine sl_store rfl (by exact pick_) rfl rfl (by kernel_rfl) (by exact set_Jn) ?_ | refine sl_store_whole rfl (by exact pick_) rfl (by exact sz_Jn) (by exact sz_Jn) (by exact one_Jn) ?_); exact k.out)) : φ := h ⟨k⟩
theorem go_Jn {φ ψ : Prop} (k : ψ) (h : Hide ψ → φ := by (intro k; (repeat (first | refine su_Jn ?_ | refine so_ ?_ | refine sto_Jn ?_)); exact k.out)) : φ := h ⟨k⟩
set_option maxRecDepth 100000 in
set_option maxHeartbeats 2000000 in
theorem same_ok {K : List Fa} {R S : Option Addr} {c d : Nat} {xs ys : List Bx} (ha : LsV K R xs) (hb : LsV K S ys) (hn : xs.length ≤ 100000) :
    Fn Try.prog 17 #[.slice R xs.length c, .slice S ys.length d] K (Ret (fun _ : Unit => True) (fun _ => .bool (decide (xs.map Bx.l = ys.map Bx.l))) (fun _ => K)) := by
  refine fn_enter Try.func17 rfl _ Try.ntmps17 (by simp) [(0, .slice R xs.length c), (1, .slice S ys.length d)] (args_of (by simp)) ?_
  by_cases hl : xs.length ≠ ys.length
  · rw [decide_eq_false (fun e => hl (by have := congrArg List.length e; simpa using this))]
    refine go_Jn ?_
    exact se_ret1 () trivial rfl rfl (by exact sub_)
  replace hl := Classical.not_not.1 hl
  refine go_Jn ?_
  refine sc_for (fun i : Nat => [(0, .slice R xs.length c), (1, .slice S ys.length d), (12, .int .i64 xs.length), (13, .int .i64 i)]) (fun _ => K) (fun i => i ≤ xs.length ∧ (xs.map Bx.l).take i = (ys.map Bx.l).take i) (fun i => xs.length - i) 0 (by exact has_) (by exact sub_) ⟨Nat.zero_le _, rfl⟩ ?_
  rintro i ⟨hi, heq⟩
  by_cases hlt : i < xs.length
  · have hlt2 : i < ys.length := by omega
    have hx := ha.el _ (List.getElem_mem hlt)
    have hy := hb.el _ (List.getElem_mem hlt2)
    have t1 : (xs.map Bx.l).take (i + 1) = (xs.map Bx.l).take i ++ [xs[i].l] := by
      rw [List.take_succ_eq_append_getElem (by simpa using hlt)]
      simp
    have t2 : (ys.map Bx.l).take (i + 1) = (ys.map Bx.l).take i ++ [ys[i].l] := by
      rw [List.take_succ_eq_append_getElem (by simpa using hlt2)]
      simp
    refine sc_know (vw_form ha.vw (by omega)) ?_
    rintro ⟨ad, rfl⟩
    refine sc_know (vw_form hb.vw (by omega)) ?_
    rintro ⟨bd, rfl⟩
    refine go_Jn ?_
    refine sq_region (by kernel_rfl) (by kernel_rfl) ?_
    repeat refine rq_Jn ?_
    refine wq_pu (pu_ldr ha.vw (by omega) rfl rfl (bx_nth hlt)) rfl ?_
    repeat refine rq_Jn ?_
    refine wq_pu (pu_strv hx.vw rfl rfl rfl rfl) rfl ?_
    repeat refine rq_Jn ?_
    refine wq_pu (pu_ldr hb.vw (by omega) rfl rfl (bx_nth hlt2)) rfl ?_
    repeat refine rq_Jn ?_
    refine wq_pu (pu_strv hy.vw rfl rfl rfl rfl) rfl ?_
    repeat refine rq_Jn ?_
    refine sq_end ?_
    rw [strs_dec hx.okb hy.okb]
    by_cases he : xs[i].l = ys[i].l
    · rw [decide_eq_true he]
      refine go_Jn ?_
      exact se_round (i + 1) (by exact has_) (by exact sub_) ⟨hlt, by rw [t1, t2, heq, he]⟩ (by omega)
    · rw [decide_eq_false he, decide_eq_false (fun e => he (by
        have h1 := congrArg (fun l => l.take (i + 1)) e
        simp only [t1, t2, heq] at h1
        have h2 := List.append_cancel_left h1
        injection h2))]
      refine go_Jn ?_
      exact se_ret1 () trivial rfl rfl (by exact sub_)
  obtain rfl : i = xs.length := by omega
  rw [List.take_of_length_le (by simp), List.take_of_length_le (by simp; omega)] at heq
  rw [decide_eq_true heq]
  refine go_Jn ?_
  exact se_ret1 () trivial rfl rfl (by exact sub_)
attribute [local semireducible] hashL in
theorem hash_len8 {bs : List Int} : (hashL 9 bs 8).length = 8 := (hashL_ok 9 bs 8).1
/-- A cell that is laid says what it was laid for. -/
theorem cell_says {number follow : Nat} {part : List Int} (hp : part.length ≤ 48) (h1 : number < 16777216) (h2 : follow < 16777216) : saysL (bodyL number follow part) number = some (follow, part) := by
  have e1 : (bodyL number follow part).take 3 = le number 3 := by
    unfold bodyL
    rw [List.append_assoc, List.append_assoc, List.append_assoc, List.take_left' (le_len _ _)]
  have e2 : (bodyL number follow part).drop 3 = le follow 3 ++ (le part.length 2 ++ (part ++ zs (48 - part.length))) := by
    unfold bodyL
    rw [List.append_assoc, List.append_assoc, List.append_assoc, List.drop_left' (le_len _ _)]
  have e3 : (bodyL number follow part).drop 6 = le part.length 2 ++ (part ++ zs (48 - part.length)) := by
    rw [show 6 = 3 + 3 from rfl, ← List.drop_drop, e2, List.drop_left' (le_len _ _)]
  have e4 : (bodyL number follow part).drop 8 = part ++ zs (48 - part.length) := by
    rw [show 8 = 6 + 2 from rfl, ← List.drop_drop, e3, List.drop_left' (le_len _ _)]
  have v1 : leV ((bodyL number follow part).take 3) = number := by
    rw [e1, leV_le _ (by omega)]
    exact Int.emod_eq_of_lt (by omega) (by omega)
  have v2 : leV (((bodyL number follow part).drop 3).take 3) = follow := by
    rw [e2, List.take_left' (le_len _ _), leV_le _ (by omega)]
    exact Int.emod_eq_of_lt (by omega) (by omega)
  have v3 : leV (((bodyL number follow part).drop 6).take 2) = part.length := by
    rw [e3, List.take_left' (le_len _ _), leV_le _ (by omega)]
    exact Int.emod_eq_of_lt (by omega) (by omega)
  rw [saysL_eq (by rw [v3]; omega) v1 v3 v2, e4, List.take_of_length_le (l := part ++ zs (48 - part.length)) (by rw [List.length_append, zs_len]; omega), List.drop_left, List.take_left]
  rw [if_pos]
  rw [List.all_eq_true]
  intro x hx
  have := List.eq_of_mem_replicate hx
  subst this
  rfl
attribute [local semireducible] takeL in
theorem take_cell {pre post : List Int} {number follow : Nat} {part : List Int} (hpre : pre.length = number * 64) (hp : part.length ≤ 48) (h1 : number < 16777216) (h2 : follow < 16777216) : takeL (pre ++ cellL number follow part ++ post) number = some (follow, part) := by
  have hc := cellL_len (number := number) (follow := follow) hp
  have e1 : cutL (pre ++ cellL number follow part ++ post) number = cellL number follow part := by
    unfold cutL
    rw [List.append_assoc, List.drop_left' hpre, List.take_left' hc]
  unfold takeL
  rw [if_neg (by simp only [List.length_append, hpre, hc]; omega), e1]
  have e2 : (cellL number follow part).drop 8 = bodyL number follow part := List.drop_left' hash_len8
  have e3 : (cellL number follow part).take 8 = hashL 9 (bodyL number follow part) 8 := List.take_left' hash_len8
  rw [e2, e3, if_neg (fun h => h rfl), cell_says hp h1 h2]
end Go.Proofs.Ytemhhhikopemmaa
/- Lists of bytes as they come in; records read back from what Scan answers. -/
namespace Go.Proofs.Ytemhhhikopemmaa
open Go.RowKit Go.ChangeShapes Go.WideShapes Go.Deep
/-- Bytes that came in, to be read. -/
def Bx.ok (w : World) (b : Bx) : Prop := Reads w 1 b.A b.l.length (bytes b.l) ∧ IsBytes b.l ∧ b.l.length ≤ b.c ∧ b.c ≤ maxLen
instance : Inhabited Bx := ⟨⟨none, 0, []⟩⟩
/-- A list of bytes that came in. -/
structure LsW (w : World) (R : Option Addr) (xs : List Bx) : Prop where
  vw : Reads w 1 R xs.length (xs.map Bx.v)
  el : ∀ x ∈ xs, x.ok w
section
variable {H : Type} {enc : TypeId × Value → H} {w : World} {base : Nat} {spare : Nat → Bool} {held : Bool} {fuel : Nat} {cs : List Value} {x : DataW H × List MemPlace}
theorem open_bx (h : DataW.trod enc Try.prog w base spare held fuel 23 cs = some x) : ∃ b : Bx, cs = [b.v] ∧ b.ok w := by
  obtain ⟨v, bs, rfl, A, n, c, rfl, hr, hb, hc, hm⟩ := open_bytes Try.underlying23 Try.underlying5 (by kernel_rfl) h
  have hl : bs.length = n := by have := hr.1; simpa [bytes] using this
  subst hl
  exact ⟨⟨A, c, bs⟩, rfl, hr, hb, hc, hm⟩
def BxV (w : World) (v : Value) : Prop := ∃ b : Bx, v = b.v ∧ b.ok w
theorem open_bxV {v : Value} (h : DataW.trod enc Try.prog w base spare held fuel 23 v.cells.toList = some x) (hv : ∃ A n c, v = .slice A n c) : BxV w v := by
  obtain ⟨A, n, c, rfl⟩ := hv
  obtain ⟨b, h1, h2⟩ := open_bx h
  exact ⟨b, by simpa [Value.cells] using h1, h2⟩
def LsVV (w : World) (v : Value) : Prop := ∃ (R : Option Addr) (c : Nat) (xs : List Bx), v = .slice R xs.length c ∧ LsW w R xs ∧ xs.length ≤ maxLen
theorem flat_one {X : Type} (f : X → Value) (l : List X) : (l.flatMap fun n => [f n]) = l.map f := by
  induction l with
  | nil => rfl
  | cons a r ih =>
    rw [List.flatMap_cons, ih]
    rfl
theorem open_lsV {v : Value} (h : DataW.trod enc Try.prog w base spare held fuel 22 v.cells.toList = some x) (hv : ∃ A n c, v = .slice A n c) : LsVV w v := by
  obtain ⟨A0, n0, c0, rfl⟩ := hv
  obtain ⟨A, n, c, xs, hcs, hl, hr, hk, hc, hm⟩ := open_rows (X := Bx) 1 (fun b => [b.v]) (fun b => b.ok w) Try.underlying22 (by kernel_rfl) (fun _ _ _ h => open_bx h) h
  rw [flat_one] at hr
  subst hl
  have hcs' : Value.slice A0 n0 c0 = .slice A xs.length c := by simpa [Value.cells] using hcs
  exact ⟨A, c, xs, hcs', ⟨hr, fun x hx => (hk x hx).1⟩, by omega⟩
end
theorem Bx.ok.rd {w : World} {b : Bx} (h : b.ok w) (hl : b.l.length ≤ 70368744177664) : Rd [old w] b.A b.l.length b.c b.l := ⟨Vw.of_old .here h.1, h.2.2.1, hl, h.2.2.2, rfl, h.2.1⟩
theorem LsW.to {w : World} {R : Option Addr} {xs : List Bx} (h : LsW w R xs) (hl : ∀ x ∈ xs, x.l.length ≤ 70368744177664) : LsV [old w] R xs := ⟨Vw.of_old .here h.vw, fun x hx => (h.el x hx).rd (hl x hx)⟩
def Sx.bx (s : Sx) : Bx := ⟨s.A, s.c, s.l⟩
theorem star_at {w : World} {f : Fa} {G L : List Fa} (hw : Sep w L) (hs : At (star G) L) (hf : f ∈ G) : f.P w := by
  have h1 := hw.at hs
  unfold star at h1
  exact h1.mem hf
/-- What Scan answers, to be read. -/
theorem SRow.ls {K : List Fa} {q : SRow} (hr : At q.row K) (hs : At q.st K) (hok : ∀ x ∈ q.xs, x.ok) : LsV K q.R (q.xs.map Sx.bx) := by
  refine ⟨fun w hw => ?_, fun x hx => ?_⟩
  · have h1 := Vw.of_own hr w hw
    have h2 : (q.xs.map Sx.bx).map Bx.v = sxV q.xs := by simp [sxV, Sx.bx, Bx.v, Sx.v]
    rw [h2, List.length_map]
    exact h1
  · obtain ⟨s, hs', rfl⟩ := List.mem_map.1 hx
    obtain ⟨⟨o1, o2⟩, o3, o4⟩ := hok s hs'
    refine ⟨fun w hw => ?_, o1, by show s.l.length ≤ _; omega, o2, rfl, o4⟩
    have h1 : (own 5 1 s.A s.l.length s.d (bytes s.l)).P w := star_at hw hs (List.mem_map.2 ⟨s, hs', rfl⟩)
    unfold own at h1
    exact Reads.of_own h1
theorem SRow.ls_l {q : SRow} : (q.xs.map Sx.bx).map Bx.l = q.xs.map Sx.l := by simp [Sx.bx]
end Go.Proofs.Ytemhhhikopemmaa
/- A journal of records, read back: these records. Plain lists. -/
namespace Go.Proofs.Ytemhhhikopemmaa
open Go
attribute [local irreducible] takeL recordL hashL cellL
theorem recF_split {number many : Nat} {bs : List Int} {i : Nat} : ∀ {j : Nat}, i < j → ∃ rest, recF number many bs j = recF number many bs i ++ cellL (number + i) (many - 1 - i) (partL bs i) ++ rest
  | 0, h => absurd h (Nat.not_lt_zero _)
  | j + 1, h => by
    by_cases hj : i = j
    · subst hj
      exact ⟨[], by rw [recF, List.append_nil]⟩
    · obtain ⟨rest, hr⟩ := recF_split (number := number) (many := many) (bs := bs) (i := i) (j := j) (by omega)
      exact ⟨rest ++ cellL (number + j) (many - 1 - j) (partL bs j), by rw [recF, hr]; simp only [List.append_assoc]⟩
theorem take_rec {pre post bs : List Int} {number i : Nat} (hpre : pre.length = number * 64) (hi : i < manyL bs.length) (h1 : number + manyL bs.length < 16777216) : takeL (pre ++ recL number bs ++ post) (number + i) = some (manyL bs.length - 1 - i, partL bs i) := by
  obtain ⟨rest, hr⟩ := recF_split (number := number) (many := manyL bs.length) (bs := bs) hi
  have e : pre ++ recL number bs ++ post = (pre ++ recF number (manyL bs.length) bs i) ++ cellL (number + i) (manyL bs.length - 1 - i) (partL bs i) ++ (rest ++ post) := by
    unfold recL
    rw [hr]
    simp only [List.append_assoc]
  rw [e]
  exact take_cell (by rw [List.length_append, hpre, recF_len]; omega) partL_len (by omega) (by omega)
theorem go_rec {pre post bs : List Int} {number : Nat} (hpre : pre.length = number * 64) (h1 : number + manyL bs.length < 16777216) : ∀ {left i : Nat}, i + left + 1 = manyL bs.length → goL (pre ++ recL number bs ++ post) number left i (bs.take ((i + 1) * 48)) = some bs
  | 0, i, h => by
    rw [goL, List.take_of_length_le]
    unfold manyL at h
    omega
  | left + 1, i, h => by
    have ht := take_rec (post := post) (i := i + 1) hpre (by omega) h1
    have hm : (i + 1) * 48 ≤ bs.length := by
      unfold manyL at h
      omega
    rw [goL, show number + 1 + i = number + (i + 1) by omega, ht]
    have hf : manyL bs.length - 1 - (i + 1) = left := by omega
    have hl : (bs.take ((i + 1) * 48)).length = (i + 1) * 48 := by rw [List.length_take]; omega
    have ha : bs.take ((i + 1) * 48) ++ partL bs (i + 1) = bs.take ((i + 1 + 1) * 48) := by
      unfold partL
      rw [show (i + 1 + 1) * 48 = (i + 1) * 48 + 48 by omega, List.take_add]
    show (if manyL bs.length - 1 - (i + 1) = left ∧ (bs.take ((i + 1) * 48)).length = (i + 1) * 48 then goL _ number left (i + 1) (bs.take ((i + 1) * 48) ++ partL bs (i + 1)) else none) = some bs
    rw [if_pos ⟨hf, hl⟩, ha]
    exact go_rec hpre h1 (by omega)
attribute [local semireducible] recordL in
theorem rec_rec {pre post bs : List Int} {number : Nat} (hpre : pre.length = number * 64) (h1 : number + manyL bs.length < 16777216) (hb : bs.length ≤ 65536) : recordL (pre ++ recL number bs ++ post) number = some (bs, manyL bs.length) := by
  have hm1 : 1 ≤ manyL bs.length := by unfold manyL; omega
  have hm2 : manyL bs.length ≤ 1366 := by unfold manyL; omega
  have ht := take_rec (post := post) (i := 0) hpre (by omega) h1
  rw [Nat.add_zero] at ht
  have hg := go_rec (post := post) hpre h1 (left := manyL bs.length - 1) (i := 0) (by omega)
  have hp : partL bs 0 = bs.take ((0 + 1) * 48) := by unfold partL; simp
  unfold recordL
  rw [ht, Nat.sub_zero, hp]
  show (if manyL bs.length - 1 < 1366 then (goL (pre ++ recL number bs ++ post) number (manyL bs.length - 1) 0 (bs.take ((0 + 1) * 48))).map (fun out => (out, manyL bs.length - 1 + 1)) else none) = _
  rw [if_pos (by omega), hg]
  show some (bs, manyL bs.length - 1 + 1) = _
  rw [Nat.sub_add_cancel hm1]
theorem chain_all (ls : List (List Int)) : (∀ x ∈ ls, x.length ≤ 65536) → cellsA ls < 16777216 → ∀ post, chainL (allL ls ++ post) ls.length = some (cellsA ls, ls) := by
  refine snoc_ind (P := fun ls => (∀ x ∈ ls, x.length ≤ 65536) → cellsA ls < 16777216 → ∀ post, chainL (allL ls ++ post) ls.length = some (cellsA ls, ls)) (fun _ _ _ => rfl) (fun l x ih h hc post => ?_) ls
  rw [cellsA_snoc] at hc
  have h1 := ih (fun y hy => h y (List.mem_append_left _ hy)) (by omega) (recL (cellsA l) x ++ post)
  rw [List.length_append, List.length_singleton, chainL, allL_next, List.append_assoc, h1]
  have h2 := rec_rec (pre := allL l) (post := post) (bs := x) (number := cellsA l) (allL_len l) (by omega) (h x (by simp))
  rw [List.append_assoc] at h2
  simp only [h2, cellsA_snoc]
attribute [local semireducible] takeL in
theorem take_out {bs : List Int} {k : Nat} (h : bs.length < (k + 1) * 64) : takeL bs k = none := if_pos h
attribute [local semireducible] recordL in
theorem rec_out {bs : List Int} {k : Nat} (h : bs.length < (k + 1) * 64) : recordL bs k = none := by
  unfold recordL
  rw [take_out h]
/-- All records of a journal are there, nothing is torn. -/
theorem scan_all {ls : List (List Int)} (h : ∀ x ∈ ls, x.length ≤ 65536) (hc : cellsA ls < 16777216) : chainL (allL ls) ls.length = some (cellsA ls, ls) ∧ recordL (allL ls) (cellsA ls) = none ∧ haltB (allL ls) (cellsA ls) (cutN (allL ls) - cellsA ls) = false := by
  have h1 := chain_all ls h hc []
  rw [List.append_nil] at h1
  refine ⟨h1, rec_out (by rw [allL_len]; omega), ?_⟩
  have : cutN (allL ls) - cellsA ls = 0 := by unfold cutN; rw [allL_len]; omega
  rw [this]
  rfl
end Go.Proofs.Ytemhhhikopemmaa
