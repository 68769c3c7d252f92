/- Several texts of one claim, one behind the other (Pt, Reg4, Rz1, Rz2, Rz3, Rz4). -/
import Derived.Test.YtlfmpjojdhfflaaB15
import Derived.Test.YtlfmpjojdhfflaaB22
set_option linter.unusedVariables false
/- A function's walk in parts: a piece of its code, what comes behind it left open. No program is in sight. -/
namespace Go.Proofs.Ytlfmpjojdhfflaa
open Go.RowKit
/-- A function's code. -/
def fb (f : Func) : Code := match f.body with
  | some c => c
  | none => .skip
/-- A piece of a code: true is the first of two, or the only one. -/
def cAt : List Bool → Code → Code
  | [], c => c
  | true :: r, .seq a _ => cAt r a
  | false :: r, .seq _ b => cAt r b
  | true :: r, .cond _ a _ => cAt r a
  | false :: r, .cond _ _ b => cAt r b
  | _ :: r, .block _ a => cAt r a
  | _ :: r, .loop a => cAt r a
  | _ :: r, .scope a => cAt r a
  | _, c => c
section
variable {P : Program} {Q : Exit → Act → World → Prop} {n : Nat} {l : Env} {L : List Fa} {x y : Code} {α : Type} {E : α → Env} {H : α → List Fa} {R : α → Prop} {id : Nat}
theorem se_mono {l l' : Env} {L L' : List Fa} {e : Exit} (h : SE Q e n l' L') (hl : Has l l') (hs : Sub L L') : SE Q e n l L := se_of fun w hw => WE.mk fun a ha => (h.to (hw.sub hs)).get (ha.sub hl.sub)
/-- How a piece ends: one of the states that are told. -/
abbrev Ends (n : Nat) (Q : Exit → Act → World → Prop) (e : Exit) (E : α → Env) (H : α → List Fa) (R : α → Prop) : Prop := ∀ (p : α) {l : Env} {L : List Fa}, R p → Has l (E p) → Sub L (H p) → SE Q e n l L
/-- A piece within its block, and what stands behind the block. -/
theorem sc_bpart (hp : ∀ Q', NoP Q' → Ends n Q' .normal E H R → SC P x Q' n l L) (hN : NoP (Exit.inBlock id (Exit.then (fun a w => y.wp P Q a w) Q))) (hy : ∀ p, R p → SC P y Q n (E p) (H p)) : SC P x (Exit.inBlock id (Exit.then (fun a w => y.wp P Q a w) Q)) n l L :=
  hp _ hN fun p _ _ hR hl hs => se_mono (se_block (se_seq (hy p hR))) hl hs
/-- A piece that leaves its block, and what stands behind the block. -/
theorem sc_xpart (hp : ∀ Q', NoP Q' → Ends n Q' (.exit id) E H R → SC P x Q' n l L) (hN : NoP (Exit.inBlock id (Exit.then (fun a w => y.wp P Q a w) Q))) (hy : ∀ p, R p → SC P y Q n (E p) (H p)) : SC P x (Exit.inBlock id (Exit.then (fun a w => y.wp P Q a w) Q)) n l L :=
  hp _ hN fun p _ _ hR hl hs => se_mono (se_block_hit (se_seq (hy p hR))) hl hs
/-- A piece, and what stands behind it. -/
theorem sc_spart (hp : ∀ Q', NoP Q' → Ends n Q' .normal E H R → SC P x Q' n l L) (hN : NoP (Exit.then (fun a w => y.wp P Q a w) Q)) (hy : ∀ p, R p → SC P y Q n (E p) (H p)) : SC P x (Exit.then (fun a w => y.wp P Q a w) Q) n l L :=
  hp _ hN fun p _ _ hR hl hs => se_mono (se_seq (hy p hR)) hl hs
end
theorem star2 {a b : Fa} {K : List Fa} : Ent_ (a :: b :: K) (star [a, b] :: K) := fun w hw => star_in (G := [a, b]) w hw
theorem star2_out {a b c : Fa} : Ent_ [star [a, b], c] [b, c] := fun w hw => (star_out (G := [a, b]) (K := [c]) w hw).sub (.skip .refl)
theorem star2_hd {a b c : Fa} : Ent_ [star [a, b], c] [a] := fun w hw => (star_out (G := [a, b]) (K := [c]) w hw).sub (.cons .here (.skip (.skip .refl)))
end Go.Proofs.Ytlfmpjojdhfflaa
/- In a region that draws: an operation whose guard itself was passed by. -/
namespace Go.Proofs.Ytlfmpjojdhfflaa
open Go.RowKit
section
variable {P : Program} {ops : Array Oper} {Q : Exit → Act → World → Prop} {S : World → Prop} {need : Nat → Bool} {fuel : Nat} {listed : Array Bool} {n : Nat} {l : Env} {L : List Fa} {d : Tmp} {op : Op} {ty : TypeId} {pos : String} {after : Array Edge}
theorem sd_off3 (i : Nat) {j t : Nat} {b : Bool} (hi : ops[i]? = some ⟨some d, op, ty, pos, after, some (j, b)⟩) (hj : (ops[j]?).bind (·.dst) = some t) (ht : lk l t = some undef) (hB : freeOk ops listed i = true) (hN : stayOk2 ops listed need i = true)
    (hQ : NoP Q) (hd : Nat.blt d n = true) (hS : ∀ w, Sep w L → S w) (h : SD P ops Q S need fuel (listed.setIfInBounds i true) n ((d, undef) :: l) L) : SD P ops Q S need (fuel + 1) listed n l L := sd_of fun w hw => by
  have h1 := h.to hw
  unfold WD at h1 ⊢
  intro a hs
  have hwant : Region.wanted ⟨some d, op, ty, pos, after, some (j, b)⟩ (yielded ops a.tmps) = false := by
    have h2 : ((none : Option Bool) == some b) = false := rfl
    simp only [Region.wanted, hs.unyield hj ht, h2]
  obtain ⟨b1, b2, b3⟩ := freeOk_spec hB
  exact wpAnyD_first2 (R := fun j => ∃ f, waitsFor ops listed i f j = true) hi (Region.noSelect_spec b1) (fun c a w => hQ c a _ _ w) (fun j oj ⟨f, hf⟩ hj => waitsFor_edge hf hj) fuel listed a w (fun j oj hj hji hun hnR => stayOk2_spec hN j oj hj hji hun hnR) (fun j ⟨f, hf⟩ => waitsFor_un hf) (Region.free_spec hi b2) (by simpa using b3) (.inr ⟨hwant, rfl⟩) (hS w hw) (h1 _ (hs.put hd undef))
end
end Go.Proofs.Ytlfmpjojdhfflaa
/- ReplayPlays: the single calls. -/
namespace Go.Proofs.Ytlfmpjojdhfflaa
open Go.RowKit
attribute [local irreducible] Go.Calls Go.Exit.then Go.Exit.inBlock Go.bodyPost Go.Code.wp Go.wpList
abbrev oS (A : Option Addr) (n c : Nat) (ss : List Seen) : Fa := own 33 18 A n c (rows Seen.cells ss)
/-- Where an id is, as the law finds it. -/
def AtR (ss : List Seen) (id : Id) (i : Int) : Prop := (hasI ss id = false ∧ i = -1) ∨ (hasI ss id = true ∧ i = posI ss id)
structure Rq where
  n : Nat
  A : Option Addr
  c : Nat
  B : Option Addr
  d : Nat
  ss : List Seen
abbrev rB (vf vt v42 v43 v44 : Value) (x : Nat) (most : Int) (B : Option Addr) (n d g14 g15 : Nat) (t i : Int) : Env := [(2, vf), (3, vt), (9, .pointer (some ⟨x, 0, none⟩)), (10, .int .i64 most), (11, .slice B n d), (12, .func (.func 21) #[] #[]), (14, .pointer (some ⟨g14, 0, none⟩)), (15, .pointer (some ⟨g15, 0, none⟩)), (16, .int .u64 t), (17, .int .i64 i), (42, v42), (43, v43), (44, v44)]
abbrev rE (vf vt v42 v43 v44 : Value) (x : Nat) (most : Int) : Rq → Env := fun q => [(2, vf), (3, vt), (9, .pointer (some ⟨x, 0, none⟩)), (10, .int .i64 most), (11, .slice q.B q.n q.d), (12, .func (.func 21) #[] #[]), (42, v42), (43, v43), (44, v44)]
abbrev rH (x : Nat) (most : Int) (K : List Fa) : Rq → List Fa := fun q => ixb x q.A q.n q.c most :: oS q.A q.n q.c q.ss :: oS q.B q.n q.d q.ss :: K
abbrev rL (x : Nat) (most : Int) (A : Option Addr) (n c : Nat) (B : Option Addr) (d g14 g15 : Nat) (ss : List Seen) (a : Ac) (id : Id) (K : List Fa) : List Fa := blk g15 23 (bytes id.l) :: blk g14 50 a.cells :: ixb x A n c most :: oS A n c ss :: oS B n d ss :: K
abbrev rR (most : Int) : Rq → Prop := fun q => q.n = q.ss.length ∧ Srt q.ss ∧ (q.ss.length : Int) ≤ most
theorem pu_seen_same {C : World → Prop} {n : Nat} {l : Env} {x y : Operand} {t' ty : TypeId} {a : Seen} (hx : ev l x = some a.v) (hy : ev l y = some a.v) : Pu Try.prog C n l (.binOp .neq 33 x y t') ty (.bool false) := by
  have h := pu_seen_neq (C := C) (n := n) (t' := t') (ty := ty) (a := a) (b := a) hx hy
  rwa [decide_eq_true rfl] at h
theorem oS_len {w : World} {L : List Fa} {A : Option Addr} {n c : Nat} {ss : List Seen} (hw : Sep w L) (h : At (oS A n c ss) L) : n ≤ c := (own_len (e := 33) (size := 18) (A := A) (xs := rows Seen.cells ss) hw h).2.1
theorem nth_Rz1 {φ : Prop} (h : φ := by (first | rfl | first | with_reducible assumption | exact Ac.n0 _ | exact Ac.n18 _ | exact Ac.n19 _ | exact Ac.n20 _ | exact Ac.n1 _ | exact Seen.nt _ | exact Seen.nc _)) : φ := h
theorem mid_Rz1 {φ : Prop} (h : φ := by (first | first | with_reducible assumption | exact Seen.mid _ | exact Ac.mid _ | exact Mid.all | exact Mid.head)) : φ := h
theorem sz_Rz1 {φ : Prop} (h : φ := by (first | rfl | (first | (simp only [Seen.len, bytes_length, Id.len, Ac.len]; rfl) | simp only [Seen.len, bytes_length, Id.len, Ac.len]; first | done | fail))) : φ := h
theorem one_Rz1 {φ : Prop} (h : φ := by (first | assumption | exact first | exact Seen.one _ | exact one_bytes _ | (simp only [List.mem_cons, List.not_mem_nil, or_false, forall_eq_or_imp, forall_eq]; decide) | exact one_bytes _)) : φ := h
theorem set_Rz1 {φ : Prop} (h : φ := by (first | (fail) | ((repeat (first | exact SetAt.here | apply SetAt.there)); first | done | fail))) : φ := h
theorem cl_Rz1 {φ : Prop} (h : φ := by first | rfl | exact .t | exact .f | exact .t (by omega) | exact .f (by omega) | exact .u | exact .i (by (first | exact .t (by omega) | exact .f (by omega) | exact .u | exact .i (by omega) | exact .v (by omega) | exact .b (by omega) | exact .w | rfl | omega)) | exact .v (by omega) | exact .b (by omega) | exact .q (by omega) | exact .w | exact .b (by exact at_) rfl (by exact nth_Rz1) | exact .w (by exact at_) rfl rfl (by exact sz_Rz1) | exact .s (by exact at_) (by exact mid_Rz1) rfl rfl (by exact sz_Rz1) | exact .z rfl rfl ⟨by kernel_rfl⟩ | exact .b rfl rfl ⟨by kernel_rfl⟩ | exact .a rfl rfl ⟨by kernel_rfl⟩ | exact .o rfl | exact .s | exact .n | exact .p rfl | exact .q rfl | exact .c rfl | exact .d rfl | exact .n rfl rfl (by omega) | exact .a rfl rfl (by omega) | exact .p rfl rfl (by omega) (by omega) | exact .y rfl rfl (by omega) (by omega) | exact .o (by exact at_) (by omega) rfl (by exact nth_Rz1) | exact .m (by exact at_) (by omega) (by exact mid_Rz1) rfl rfl (by exact sz_Rz1) | exact .mlen (by exact at_) rfl | exact .t (by exact at_) rfl rfl (by first | exact True.intro | rfl) (by assumption) | exact .f (by exact at_) rfl rfl (by first | exact True.intro | rfl) (by assumption) rfl | exact .t1 (by exact at_) rfl rfl (by first | exact True.intro | rfl) (by assumption) | exact .f1 (by exact at_) rfl rfl (by first | exact True.intro | rfl) (by assumption) rfl | exact .r rfl rfl (by omega) (by omega) (by exact nth_Rz1) rfl | exact .s rfl (by omega) (by assumption) | exact at_ | assumption | exact .r rfl rfl | exact .h rfl rfl rfl (by omega) | exact .l rfl rfl rfl (by omega) (by omega) | exact .g rfl rfl rfl rfl (by omega) (by omega) | exact .h rfl rfl (toN_ (by omega)) (by omega) | exact .l rfl rfl (toN_ (by omega)) (by omega) (by omega) | exact .g rfl rfl (toN_ (by omega)) (toN_ (by omega)) (by omega) (by omega) | exact .o (by decide) | exact .f (by decide) | exact .n (by omega) (by first | decide | (show _ ≤ ((64 : Nat) : Int); omega)) | (constructor; (repeat (first | exact .t (by omega) | exact .f (by omega) | exact .u | exact .i (by omega) | exact .v (by omega) | exact .b (by omega) | exact .w | rfl | omega)); first | done | fail) | omega | (show _ ≤ ((64 : Nat) : Int); omega)) : φ := h
theorem pv_Rz1 {φ : Prop} (h : φ := by constructor; (repeat exact cl_Rz1); first | done | fail) : φ := h
theorem su_Rz1 {φ ψ : Prop} (k : ψ) (h : Hide ψ → φ := by (intro k; (first | refine sl_pu (PuI.sep (by exact pv_Rz1)) rfl ?_ | refine sl_yes rfl rfl ?_ | refine sl_no rfl rfl rfl ?_ | refine sl_off rfl rfl rfl ?_ | (fail)); exact k.out)) : φ := h ⟨k⟩
theorem rq_Rz1 {φ ψ : Prop} (k : ψ) (h : Hide ψ → φ := by (intro k; (first | refine wq_pu (PuI.sep (by exact pv_Rz1)) rfl ?_ | refine wq_yes rfl rfl ?_ | refine wq_no rfl rfl rfl ?_ | refine wq_off rfl rfl rfl ?_ | (first | refine wq_pu (pu_seen_same rfl rfl) rfl ?_ | refine wq_pu (pu_build (v := seen0.v) rfl (fun W => by kernel_rfl)) rfl ?_)); exact k.out)) : φ := h ⟨k⟩
theorem sto_Rz1 {φ ψ : Prop} (k : ψ) (h : Hide ψ → φ := by (intro k; (first | refine sl_store rfl (by exact pick_) rfl rfl (by kernel_rfl) (by exact set_Rz1) ?_ | refine sl_store_whole rfl (by exact pick_) rfl (by exact sz_Rz1) (by exact sz_Rz1) (by exact one_Rz1) ?_); exact k.out)) : φ := h ⟨k⟩
theorem go_Rz1 {φ ψ : Prop} (k : ψ) (h : Hide ψ → φ := by (intro k; (repeat (first | refine su_Rz1 ?_ | refine so_ ?_ | refine sto_Rz1 ?_)); exact k.out)) : φ := h ⟨k⟩
section
variable {K : List Fa} {vf vt v42 v43 v44 : Value} {x c n d g14 g15 : Nat} {most t i : Int} {A B : Option Addr} {ss : List Seen} {a : Ac} {id : Id} {Q' : Exit → Act → World → Prop}
set_option maxRecDepth 100000 in
set_option maxHeartbeats 8000000 in
theorem pSet (hn : n = ss.length) (hs : Srt ss) (hm : (ss.length : Int) ≤ most) (hm2 : most ≤ 256) (hat : AtR ss id i) (hN : NoP Q') (hend : Ends 249 Q' .normal (rE vf vt v42 v43 v44 x most) (rH x most K) (rR most)) :
    SC Try.prog (cAt [false, false, false, false, false, false, false, true, false, true, true, false, false, true, true, false, false, false, false, false, false, true, false, true, false, true] (fb Try.f6)) Q' 249 (rB vf vt v42 v43 v44 x most B n d g14 g15 t i) (rL x most A n c B d g14 g15 ss a id K) := by
  dsimp only [rB, rL]
  subst hn
  have hcb := a.cb
  rcases hat with ⟨hh, rfl⟩ | ⟨hh, rfl⟩
  · have hse : setI ss id a.c hcb = (19, ss) := by unfold setI; rw [if_neg (by rw [hh]; decide)]
    refine go_Rz1 ?_
    refine sl_call rfl rfl (by kernel_rfl) rfl (by exact sub_) (set_ok (K := blk g15 23 (bytes id.l) :: blk g14 50 a.cells :: oS B ss.length d ss :: K) (A := A) (c := c) (lim := most) id hcb hs (by omega)) ?_
    rintro ⟨A1, c1⟩ -
    rw [hse]
    dsimp only
    refine go_Rz1 ?_
    exact hend ⟨ss.length, A1, c1, B, d, ss⟩ ⟨rfl, hs, hm⟩ (by exact has_) (by exact sub_)
  · obtain ⟨s, hs1, hs2⟩ := hasI_pos hs hh
    have hlt := (List.getElem?_eq_some_iff.1 hs1).1
    have hg2 : getI ss id = s := by unfold getI; rw [hs1]; rfl
    have hse : setI ss id a.c hcb = (0, ss.set (posI ss id) (setC s a.c hcb)) := by unfold setI; rw [if_pos hh, hg2]
    refine sc_form (e := 33) (size := 18) (A := B) (m := ss.length) (c := d) (xs := rows Seen.cells ss) (by exact at_) (by omega) ?_
    rintro g0 rfl
    refine go_Rz1 ?_
    refine sl_sto2 rfl (at2 _ _ _) (by exact pick_) rfl rfl (by kernel_rfl) (by omega) ?_
    rw [rows_set Seen.len hs1 (setC_set s hcb) (by decide)]
    refine go_Rz1 ?_
    refine sl_call rfl rfl (by kernel_rfl) rfl (by exact sub_) (set_ok (K := blk g15 23 (bytes id.l) :: blk g14 50 a.cells :: oS (some ⟨g0, 0, none⟩) ss.length d (ss.set (posI ss id) (setC s a.c hcb)) :: K) (A := A) (c := c) (lim := most) id hcb hs (by omega)) ?_
    rintro ⟨A1, c1⟩ -
    rw [hse]
    dsimp only
    have hset : Srt (ss.set (posI ss id) (setC s a.c hcb)) := srt_set hs hs1 rfl
    have hl : (ss.set (posI ss id) (setC s a.c hcb)).length = ss.length := List.length_set
    generalize ss.set (posI ss id) (setC s a.c hcb) = ss' at hset hl ⊢
    dsimp only [ixo]
    rw [hl]
    refine go_Rz1 ?_
    exact hend ⟨ss.length, A1, c1, some ⟨g0, 0, none⟩, d, ss'⟩ ⟨hl.symm, hset, by dsimp only; omega⟩ (by exact has_) (by exact sub_)
set_option maxRecDepth 100000 in
set_option maxHeartbeats 8000000 in
theorem pGet (hn : n = ss.length) (hs : Srt ss) (hm : (ss.length : Int) ≤ most) (hm2 : most ≤ 256) (hat : AtR ss id i) (hN : NoP Q') (hend : Ends 249 Q' .normal (rE vf vt v42 v43 v44 x most) (rH x most K) (rR most)) :
    SC Try.prog (cAt [false, false, false, false, false, false, false, true, false, true, true, false, false, true, true, false, false, false, false, false, false, true, false, true, false, false, false, true] (fb Try.f6)) Q' 249 (rB vf vt v42 v43 v44 x most B n d g14 g15 t i) (rL x most A n c B d g14 g15 ss a id K) := by
  dsimp only [rB, rL]
  subst hn
  refine go_Rz1 ?_
  refine sl_call rfl rfl (by kernel_rfl) rfl (by exact sub_) (get_ok (K := blk g15 23 (bytes id.l) :: blk g14 50 a.cells :: oS B ss.length d ss :: K) (A := A) (c := c) (lim := most) id hs (by omega)) ?_
  rintro _ -
  rcases hat with ⟨hh, rfl⟩ | ⟨hh, rfl⟩
  · rw [show gotI ss id = seen0 by unfold gotI; rw [if_neg (by rw [hh]; decide)], hh]
    refine go_Rz1 ?_
    refine sl_alloc rfl rfl rfl ?_; intro g21
    refine go_Rz1 ?_
    ((refine sq_region (by kernel_rfl) (by kernel_rfl) ?_; (repeat refine rq_Rz1 ?_); refine sq_end ?_))
    refine go_Rz1 ?_
    exact hend ⟨ss.length, A, c, B, d, ss⟩ ⟨rfl, hs, hm⟩ (by exact has_) (by exact sub_)
  · obtain ⟨s, hs1, hs2⟩ := hasI_pos hs hh
    have hlt := (List.getElem?_eq_some_iff.1 hs1).1
    have hg2 : gotI ss id = s := by unfold gotI getI; rw [if_pos hh, hs1]; rfl
    have hmid := rows_mid Seen.len hs1
    rw [hg2, hh]
    refine sl_form (e := 33) (size := 18) (A := B) (m := ss.length) (c := d) (xs := rows Seen.cells ss) (by exact at_) (by omega) ?_
    rintro g0 rfl
    refine go_Rz1 ?_
    refine sl_alloc rfl rfl rfl ?_; intro g21
    refine go_Rz1 ?_
    ((refine sq_region (by kernel_rfl) (by kernel_rfl) ?_; (repeat refine rq_Rz1 ?_); refine sq_end ?_))
    refine go_Rz1 ?_
    exact hend ⟨ss.length, A, c, some ⟨g0, 0, none⟩, d, ss⟩ ⟨rfl, hs, hm⟩ (by exact has_) (by exact sub_)
end
end Go.Proofs.Ytlfmpjojdhfflaa
/- ReplayPlays: Drop and Add. -/
namespace Go.Proofs.Ytlfmpjojdhfflaa
open Go.RowKit
attribute [local irreducible] Go.Calls Go.Exit.then Go.Exit.inBlock Go.bodyPost Go.Code.wp Go.wpList
theorem sobz_ {φ ψ : Prop} (k : ψ) (h : Hide ψ → φ := by (intro k; (first | refine sc_seq ?_ | refine sc_region ?_ | refine sl_nil ?_ | refine se_seq ?_ | refine sc_cond rfl (by constructor) ?_ | refine sc_skip ?_ | refine se_blk (by first | exact .n | exact .h | exact .m rfl | exact .r | exact .p) ?_ | refine sc_exit ?_ | refine se_pass (by constructor) ?_ | refine sc_ret ?_); exact k.out)) : φ := h ⟨k⟩
structure Lg where
  j : Nat
  C : Option Addr
  e : Nat
def keepL (ss : List Seen) (t : Int) (j : Nat) : List Seen := (ss.take j).filter fun s => !tooOld t s
theorem keep_le (ss : List Seen) (t : Int) (j : Nat) : (keepL ss t j).length ≤ ss.length := by
  refine Nat.le_trans (List.length_filter_le _ _) ?_
  rw [List.length_take]
  exact Nat.min_le_right _ _
theorem addI_2 {most : Int} {ss : List Seen} {s : Seen} (hs : Srt ss) (hm : (ss.length : Int) ≤ most) : Srt (addI most ss s).2 ∧ ((addI most ss s).2.length : Int) ≤ most := by
  unfold addI
  split
  · exact ⟨hs, hm⟩
  · split
    · exact ⟨hs, hm⟩
    · rename_i h2
      split
      · exact ⟨hs, hm⟩
      · refine ⟨srt_ins hs (by simpa using h2), ?_⟩
        show ((insAt ss s).length : Int) ≤ most
        rw [insAt_len]
        omega
theorem nth_Rz2 {φ : Prop} (h : φ := by (first | rfl | first | with_reducible assumption | exact Ac.n0 _ | exact Ac.n18 _ | exact Ac.n19 _ | exact Ac.n20 _ | exact Ac.n1 _ | exact Seen.nt _ | exact Seen.nc _)) : φ := h
theorem mid_Rz2 {φ : Prop} (h : φ := by (first | first | with_reducible assumption | exact Seen.mid _ | exact Ac.mid _ | exact Mid.all | exact Mid.head)) : φ := h
theorem sz_Rz2 {φ : Prop} (h : φ := by (first | rfl | (first | (simp only [Seen.len, bytes_length, Id.len, Ac.len]; rfl) | simp only [Seen.len, bytes_length, Id.len, Ac.len]; first | done | fail))) : φ := h
theorem one_Rz2 {φ : Prop} (h : φ := by (first | assumption | exact first | exact Seen.one _ | exact one_bytes _ | (simp only [List.mem_cons, List.not_mem_nil, or_false, forall_eq_or_imp, forall_eq]; decide) | exact one_bytes _)) : φ := h
theorem set_Rz2 {φ : Prop} (h : φ := by (first | (fail) | ((repeat (first | exact SetAt.here | apply SetAt.there)); first | done | fail))) : φ := h
theorem cl_Rz2 {φ : Prop} (h : φ := by first | rfl | exact .t | exact .f | exact .t (by omega) | exact .f (by omega) | exact .u | exact .i (by (first | exact .t (by omega) | exact .f (by omega) | exact .u | exact .i (by omega) | exact .v (by omega) | exact .b (by omega) | exact .w | rfl | omega)) | exact .v (by omega) | exact .b (by omega) | exact .q (by omega) | exact .w | exact .b (by exact at_) rfl (by exact nth_Rz2) | exact .w (by exact at_) rfl rfl (by exact sz_Rz2) | exact .s (by exact at_) (by exact mid_Rz2) rfl rfl (by exact sz_Rz2) | exact .z rfl rfl ⟨by kernel_rfl⟩ | exact .b rfl rfl ⟨by kernel_rfl⟩ | exact .a rfl rfl ⟨by kernel_rfl⟩ | exact .o rfl | exact .s | exact .n | exact .p rfl | exact .q rfl | exact .c rfl | exact .d rfl | exact .n rfl rfl (by omega) | exact .a rfl rfl (by omega) | exact .p rfl rfl (by omega) (by omega) | exact .y rfl rfl (by omega) (by omega) | exact .o (by exact at_) (by omega) rfl (by exact nth_Rz2) | exact .m (by exact at_) (by omega) (by exact mid_Rz2) rfl rfl (by exact sz_Rz2) | exact .mlen (by exact at_) rfl | exact .t (by exact at_) rfl rfl (by first | exact True.intro | rfl) (by assumption) | exact .f (by exact at_) rfl rfl (by first | exact True.intro | rfl) (by assumption) rfl | exact .t1 (by exact at_) rfl rfl (by first | exact True.intro | rfl) (by assumption) | exact .f1 (by exact at_) rfl rfl (by first | exact True.intro | rfl) (by assumption) rfl | exact .r rfl rfl (by omega) (by omega) (by exact nth_Rz2) rfl | exact .s rfl (by omega) (by assumption) | exact at_ | assumption | exact .r rfl rfl | exact .h rfl rfl rfl (by omega) | exact .l rfl rfl rfl (by omega) (by omega) | exact .g rfl rfl rfl rfl (by omega) (by omega) | exact .h rfl rfl (toN_ (by omega)) (by omega) | exact .l rfl rfl (toN_ (by omega)) (by omega) (by omega) | exact .g rfl rfl (toN_ (by omega)) (toN_ (by omega)) (by omega) (by omega) | exact .o (by decide) | exact .f (by decide) | exact .n (by omega) (by first | decide | (show _ ≤ ((64 : Nat) : Int); omega)) | (constructor; (repeat (first | exact .t (by omega) | exact .f (by omega) | exact .u | exact .i (by omega) | exact .v (by omega) | exact .b (by omega) | exact .w | rfl | omega)); first | done | fail) | omega | (show _ ≤ ((64 : Nat) : Int); omega)) : φ := h
theorem pv_Rz2 {φ : Prop} (h : φ := by constructor; (repeat exact cl_Rz2); first | done | fail) : φ := h
theorem su_Rz2 {φ ψ : Prop} (k : ψ) (h : Hide ψ → φ := by (intro k; (first | refine sl_pu (PuI.sep (by exact pv_Rz2)) rfl ?_ | refine sl_yes rfl rfl ?_ | refine sl_no rfl rfl rfl ?_ | refine sl_off rfl rfl rfl ?_ | (fail)); exact k.out)) : φ := h ⟨k⟩
theorem rq_Rz2 {φ ψ : Prop} (k : ψ) (h : Hide ψ → φ := by (intro k; (first | refine wq_pu (PuI.sep (by exact pv_Rz2)) rfl ?_ | refine wq_yes rfl rfl ?_ | refine wq_no rfl rfl rfl ?_ | refine wq_off rfl rfl rfl ?_ | (fail)); exact k.out)) : φ := h ⟨k⟩
theorem sto_Rz2 {φ ψ : Prop} (k : ψ) (h : Hide ψ → φ := by (intro k; (first | refine sl_store rfl (by exact pick_) rfl rfl (by kernel_rfl) (by exact set_Rz2) ?_ | refine sl_store_whole rfl (by exact pick_) rfl (by exact sz_Rz2) (by exact sz_Rz2) (by exact one_Rz2) ?_); exact k.out)) : φ := h ⟨k⟩
theorem go_Rz2 {φ ψ : Prop} (k : ψ) (h : Hide ψ → φ := by (intro k; (repeat (first | refine su_Rz2 ?_ | refine so_ ?_ | refine sto_Rz2 ?_)); exact k.out)) : φ := h ⟨k⟩
section
variable {K : List Fa} {vf vt v42 v43 v44 : Value} {x c n d g14 g15 : Nat} {most t i : Int} {A B : Option Addr} {ss : List Seen} {a : Ac} {id : Id} {Q' : Exit → Act → World → Prop}
set_option maxRecDepth 100000 in
set_option maxHeartbeats 8000000 in
theorem pDrop (hn : n = ss.length) (hs : Srt ss) (hm : (ss.length : Int) ≤ most) (hm2 : most ≤ 256) (ht : 0 ≤ t ∧ t ≤ 18446744073709551615) (hend : Ends 249 Q' .normal (rE vf vt v42 v43 v44 x most) (rH x most K) (rR most)) :
    SC Try.prog (cAt [false, false, false, false, false, false, false, true, false, true, true, false, false, true, true, false, false, false, false, false, false, true, false, true, false, false, false, false, false, true] (fb Try.f6)) Q' 249 (rB vf vt v42 v43 v44 x most B n d g14 g15 t i) (rL x most A n c B d g14 g15 ss a id K) := by
  dsimp only [rB, rL]
  subst hn
  refine go_Rz2 ?_
  refine sc_bjoin (fun p : Lg => [(2, vf), (3, vt), (9, .pointer (some ⟨x, 0, none⟩)), (10, .int .i64 most), (11, .slice B ss.length d), (12, .func (.func 21) #[] #[]), (16, .int .u64 t), (23, .slice p.C (ss.filter fun s => !tooOld t s).length p.e), (42, v42), (43, v43), (44, v44)]) (fun p => oS p.C (ss.filter fun s => !tooOld t s).length p.e (ss.filter fun s => !tooOld t s) :: ixb x A ss.length c most :: oS A ss.length c ss :: oS B ss.length d ss :: K) (fun _ => True) ?_ ?_
  · refine sc_for (fun p : Lg => [(2, vf), (3, vt), (9, .pointer (some ⟨x, 0, none⟩)), (10, .int .i64 most), (11, .slice B ss.length d), (12, .func (.func 21) #[] #[]), (16, .int .u64 t), (23, .slice p.C (keepL ss t p.j).length p.e), (42, v42), (43, v43), (44, v44), (156, .slice B ss.length d), (157, .int .i64 ss.length), (158, .int .i64 p.j)]) (fun p => oS p.C (keepL ss t p.j).length p.e (keepL ss t p.j) :: ixb x A ss.length c most :: oS A ss.length c ss :: oS B ss.length d ss :: K) (fun p => p.j ≤ ss.length) (fun p => ss.length - p.j) ⟨0, none, 0⟩ (by exact has_) (Sub.own_nil (by exact sub_)) (Nat.zero_le _) ?_
    rintro ⟨j, C, e⟩ hj
    dsimp only at hj ⊢
    by_cases hlt : j < ss.length
    case neg =>
      obtain rfl : j = ss.length := by omega
      rw [show keepL ss t ss.length = ss.filter fun s => !tooOld t s by unfold keepL; rw [List.take_length]]
      refine go_Rz2 ?_
      exact se_mid ⟨ss.length, C, e⟩ (by exact has_) (by exact sub_) trivial
    have hs1 : ss[j]? = some ss[j] := List.getElem?_eq_getElem hlt
    have htk : ss.take (j + 1) = ss.take j ++ [ss[j]] := List.take_succ_eq_append_getElem hlt
    have hmid := rows_mid Seen.len hs1
    have hkl := keep_le ss t j
    generalize ss[j] = s at hs1 htk hmid
    have htb := s.tb
    refine sc_form (e := 33) (size := 18) (A := B) (m := ss.length) (c := d) (xs := rows Seen.cells ss) (by exact at_) (by omega) ?_
    rintro g0 rfl
    by_cases hto : s.t < t
    · have hnew : keepL ss t (j + 1) = keepL ss t j := by
        unfold keepL
        rw [htk, List.filter_append]
        simp [hto]
      refine go_Rz2 ?_
      refine sl_alloc rfl rfl rfl ?_; intro g25
      refine go_Rz2 ?_
      exact se_round ⟨j + 1, C, e⟩ (by dsimp only; rw [hnew]; exact has_) (by dsimp only; rw [hnew]; exact sub_) hlt (by dsimp only; omega)
    · have hnew : keepL ss t (j + 1) = keepL ss t j ++ [s] := by
        unfold keepL
        rw [htk, List.filter_append]
        simp [hto]
      refine go_Rz2 ?_
      refine sl_alloc rfl rfl rfl ?_; intro g25
      refine go_Rz2 ?_
      refine sl_build (size := 18) (e := 33) (cells := s.cells) rfl (fun W => build_seen s W) (by rw [s.len]) (by decide) rfl ?_
      intro gb
      refine sl_app (A := C) (k := (keepL ss t j).length) (c := e) rfl (by exact pick_) rfl (Vw.of_own (e := 33) (A := some ⟨gb, 0, none⟩) (c := 1) (by exact at_)) s.one rfl Try.infoSeen (by decide) (by decide) rfl (by unfold maxLen; omega) (by omega) ?_
      intro C2 e2
      rw [show rows Seen.cells (keepL ss t j) ++ s.cells = rows Seen.cells (keepL ss t (j + 1)) by rw [hnew]; simp [rows], show (keepL ss t j).length + 1 = (keepL ss t (j + 1)).length by rw [hnew, List.length_append]; rfl]
      refine go_Rz2 ?_
      exact se_round ⟨j + 1, C2, e2⟩ (by exact has_) (by exact sub_) hlt (by dsimp only; omega)
  rintro ⟨j, C, e⟩ -
  dsimp only
  have hfl := List.length_filter_le (fun s => !tooOld t s) ss
  have hsf := srt_filter hs (fun s => !tooOld t s)
  refine go_Rz2 ?_
  refine sl_call rfl rfl (by kernel_rfl) rfl (by exact sub_) (drop_ok (K := oS C (ss.filter fun s => !tooOld t s).length e (ss.filter fun s => !tooOld t s) :: K) (A := A) (c := c) (lim := most) (ss := ss) (b := t) (by omega)) ?_
  rintro ⟨A1, c1⟩ -
  dsimp only
  generalize (ss.filter fun s => !tooOld t s) = ss' at hfl hsf ⊢
  refine go_Rz2 ?_
  exact hend ⟨ss'.length, A1, c1, C, e, ss'⟩ ⟨rfl, hsf, by dsimp only; omega⟩ (by exact has_) (by exact sub_)
set_option maxRecDepth 100000 in
set_option maxHeartbeats 8000000 in
theorem pAdd (hn : n = ss.length) (hs : Srt ss) (hm : (ss.length : Int) ≤ most) (hm2 : most ≤ 256) (ht : 0 ≤ t ∧ t ≤ 18446744073709551615) (hat : AtR ss id i) (hend : Ends 249 Q' .normal (rE vf vt v42 v43 v44 x most) (rH x most K) (rR most)) :
    SC Try.prog (cAt [false, false, false, false, false, false, false, true, false, true, true, false, false, true, true, false, false, false, false, false, false, true, false, true, false, false, false, false, false, false] (fb Try.f6)) Q' 249 (rB vf vt v42 v43 v44 x most B n d g14 g15 t i) (rL x most A n c B d g14 g15 ss a id K) := by
  dsimp only [rB, rL]
  subst hn
  obtain ⟨s, hsd⟩ : ∃ s : Seen, s = ⟨id, t, a.c, ht, a.cb⟩ := ⟨_, rfl⟩
  have e1 : s.id = id := by rw [hsd]
  have e2 : s.t = t := by rw [hsd]
  have e3 : s.c = a.c := by rw [hsd]
  clear hsd
  subst e1 e2
  refine go_Rz2 ?_
  rw [← e3]
  refine sl_pu (pu_build (v := s.v) rfl (fun W => build_s s W)) rfl ?_
  refine sl_alloc rfl rfl rfl ?_; intro g26
  repeat (first | refine su_Rz2 ?_ | refine sto_Rz2 ?_ | refine sobz_ ?_)
  refine sc_block ?_
  have h2 := addI_2 (s := s) hs hm
  refine sc_bjoin (fun q : Rq => [(2, vf), (3, vt), (9, .pointer (some ⟨x, 0, none⟩)), (10, .int .i64 most), (11, .slice q.B q.n q.d), (12, .func (.func 21) #[] #[]), (26, .pointer (some ⟨g26, 0, none⟩)), (27, .int .i64 (addI most ss s).1), (42, v42), (43, v43), (44, v44)]) (fun q => oS q.B q.n q.d q.ss :: blk g26 33 s.cells :: ixb x A ss.length c most :: oS A ss.length c ss :: K) (fun q => q.n = q.ss.length ∧ q.ss = (addI most ss s).2) ?_ ?_
  · clear h2
    by_cases hto : 1099511627776 < s.t
    · rw [show addI most ss s = (6, ss) by unfold addI; rw [if_pos hto]]
      refine go_Rz2 ?_
      exact se_mid ⟨ss.length, A, c, B, d, ss⟩ (by exact has_) (by exact sub_) ⟨rfl, rfl⟩
    rcases hat with ⟨hh, rfl⟩ | ⟨hh, rfl⟩
    · by_cases hfu : most ≤ ss.length
      · rw [show addI most ss s = (18, ss) by unfold addI; rw [if_neg hto, if_neg (by rw [hh]; decide), if_pos hfu]]
        refine go_Rz2 ?_
        exact se_mid ⟨ss.length, A, c, B, d, ss⟩ (by exact has_) (by exact sub_) ⟨rfl, rfl⟩
      · rw [show addI most ss s = (0, insAt ss s) by unfold addI; rw [if_neg hto, if_neg (by rw [hh]; decide), if_neg hfu]]
        refine go_Rz2 ?_
        refine sl_call rfl rfl (by kernel_rfl) rfl Sub.refl (lawInsert_ok (A := B) (c := d) (ss := ss) s 21 (fun u v => lessI u.id.l v.id.l) (by kernel_rfl) byId1_ok (Vw.of_own (c := d) (e := 33) (by exact at_)) (fun w hw => oS_len (A := B) (ss := ss) hw (by exact at_)) (by omega)) ?_
        rintro ⟨B2, d2⟩ -
        dsimp only
        rw [show insB (fun u v => lessI u.id.l v.id.l) ss s = insAt ss s from rfl]
        refine go_Rz2 ?_
        exact se_mid ⟨ss.length + 1, A, c, B2, d2, insAt ss s⟩ (by exact has_) (by exact sub_) ⟨(insAt_len ss s).symm, rfl⟩
    · rw [show addI most ss s = (14, ss) by unfold addI; rw [if_neg hto, if_pos hh]]
      refine go_Rz2 ?_
      exact se_mid ⟨ss.length, A, c, B, d, ss⟩ (by exact has_) (by exact sub_) ⟨rfl, rfl⟩
  rintro ⟨n1, A0, c0, B1, d1, ss1⟩ ⟨hn1, hss1⟩
  dsimp only at hn1 hss1 ⊢
  refine go_Rz2 ?_
  refine sl_call rfl rfl (by kernel_rfl) rfl (by exact sub_) (add_ok (K := oS B1 n1 d1 ss1 :: K) (A := A) (c := c) (lim := most) s hs (by omega)) ?_
  rintro ⟨A1, c1⟩ -
  rw [← hss1]
  rw [← hss1] at h2
  subst hn1
  generalize (addI most ss s).1 = w1
  dsimp only
  refine go_Rz2 ?_
  exact hend ⟨ss1.length, A1, c1, B1, d1, ss1⟩ ⟨rfl, h2.1, h2.2⟩ (by exact has_) (by exact sub_)
end
end Go.Proofs.Ytlfmpjojdhfflaa
/- ReplayPlays: one call, whatever it is. -/
namespace Go.Proofs.Ytlfmpjojdhfflaa
open Go.RowKit
attribute [local irreducible] Go.Calls Go.Exit.then Go.Exit.inBlock Go.bodyPost Go.Code.wp Go.wpList
def idS (x : Int) : List Int := List.replicate 15 0 ++ [x % 12]
theorem idS_ok (x : Int) : IsBytes (idS x) := by
  intro y hy
  rcases List.mem_append.1 hy with h | h
  · obtain ⟨_, rfl⟩ := List.mem_replicate.1 h
    decide
  · rw [List.mem_singleton] at h
    subst h
    omega
def idN (x : Int) : Id := ⟨idS x, rfl, idS_ok x⟩
structure Ig where
  id : Id
  t : Int
theorem nth_Rz3 {φ : Prop} (h : φ := by (first | rfl | first | with_reducible assumption | exact Ac.n0 _ | exact Ac.n18 _ | exact Ac.n19 _ | exact Ac.n20 _ | exact Ac.n1 _ | exact Seen.nt _ | exact Seen.nc _)) : φ := h
theorem mid_Rz3 {φ : Prop} (h : φ := by (first | first | with_reducible assumption | exact Seen.mid _ | exact Ac.mid _ | exact Mid.all | exact Mid.head)) : φ := h
theorem sz_Rz3 {φ : Prop} (h : φ := by (first | rfl | (first | (simp only [Seen.len, bytes_length, Id.len, Ac.len]; rfl) | simp only [Seen.len, bytes_length, Id.len, Ac.len]; first | done | fail))) : φ := h
theorem one_Rz3 {φ : Prop} (h : φ := by (first | assumption | exact first | exact Seen.one _ | exact Ac.one _ | exact one_bytes _ | (simp only [List.mem_cons, List.not_mem_nil, or_false, forall_eq_or_imp, forall_eq]; decide) | exact one_bytes _)) : φ := h
theorem set_Rz3 {φ : Prop} (h : φ := by (first | (fail) | ((repeat (first | exact SetAt.here | apply SetAt.there)); first | done | fail))) : φ := h
theorem cl_Rz3 {φ : Prop} (h : φ := by first | rfl | exact .t | exact .f | exact .t (by omega) | exact .f (by omega) | exact .u | exact .i (by (first | exact .t (by omega) | exact .f (by omega) | exact .u | exact .i (by omega) | exact .v (by omega) | exact .b (by omega) | exact .w | rfl | omega)) | exact .v (by omega) | exact .b (by omega) | exact .q (by omega) | exact .w | exact .b (by exact at_) rfl (by exact nth_Rz3) | exact .w (by exact at_) rfl rfl (by exact sz_Rz3) | exact .s (by exact at_) (by exact mid_Rz3) rfl rfl (by exact sz_Rz3) | exact .z rfl rfl ⟨by kernel_rfl⟩ | exact .b rfl rfl ⟨by kernel_rfl⟩ | exact .a rfl rfl ⟨by kernel_rfl⟩ | exact .o rfl | exact .s | exact .n | exact .p rfl | exact .q rfl | exact .c rfl | exact .d rfl | exact .n rfl rfl (by omega) | exact .a rfl rfl (by omega) | exact .p rfl rfl (by omega) (by omega) | exact .y rfl rfl (by omega) (by omega) | exact .o (by exact at_) (by omega) rfl (by exact nth_Rz3) | exact .m (by exact at_) (by omega) (by exact mid_Rz3) rfl rfl (by exact sz_Rz3) | exact .mlen (by exact at_) rfl | exact .t (by exact at_) rfl rfl (by first | exact True.intro | rfl) (by assumption) | exact .f (by exact at_) rfl rfl (by first | exact True.intro | rfl) (by assumption) rfl | exact .t1 (by exact at_) rfl rfl (by first | exact True.intro | rfl) (by assumption) | exact .f1 (by exact at_) rfl rfl (by first | exact True.intro | rfl) (by assumption) rfl | exact .r rfl rfl (by omega) (by omega) (by exact nth_Rz3) rfl | exact .s rfl (by omega) (by assumption) | exact at_ | assumption | exact .r rfl rfl | exact .h rfl rfl rfl (by omega) | exact .l rfl rfl rfl (by omega) (by omega) | exact .g rfl rfl rfl rfl (by omega) (by omega) | exact .h rfl rfl (toN_ (by omega)) (by omega) | exact .l rfl rfl (toN_ (by omega)) (by omega) (by omega) | exact .g rfl rfl (toN_ (by omega)) (toN_ (by omega)) (by omega) (by omega) | exact .o (by decide) | exact .f (by decide) | exact .n (by omega) (by first | decide | (show _ ≤ ((64 : Nat) : Int); omega)) | (constructor; (repeat (first | exact .t (by omega) | exact .f (by omega) | exact .u | exact .i (by omega) | exact .v (by omega) | exact .b (by omega) | exact .w | rfl | omega)); first | done | fail) | omega | (show _ ≤ ((64 : Nat) : Int); omega)) : φ := h
theorem pv_Rz3 {φ : Prop} (h : φ := by constructor; (repeat exact cl_Rz3); first | done | fail) : φ := h
theorem su_Rz3 {φ ψ : Prop} (k : ψ) (h : Hide ψ → φ := by (intro k; (first | refine sl_pu (PuI.sep (by exact pv_Rz3)) rfl ?_ | refine sl_yes rfl rfl ?_ | refine sl_no rfl rfl rfl ?_ | refine sl_off rfl rfl rfl ?_ | (fail)); exact k.out)) : φ := h ⟨k⟩
theorem rq_Rz3 {φ ψ : Prop} (k : ψ) (h : Hide ψ → φ := by (intro k; (first | refine wq_pu (PuI.sep (by exact pv_Rz3)) rfl ?_ | refine wq_yes rfl rfl ?_ | refine wq_no rfl rfl rfl ?_ | refine wq_off rfl rfl rfl ?_ | (fail)); exact k.out)) : φ := h ⟨k⟩
theorem sto_Rz3 {φ ψ : Prop} (k : ψ) (h : Hide ψ → φ := by (intro k; (first | refine sl_store rfl (by exact pick_) rfl rfl (by kernel_rfl) (by exact set_Rz3) ?_ | refine sl_store_whole rfl (by exact pick_) rfl (by exact sz_Rz3) (by exact sz_Rz3) (by exact one_Rz3) ?_); exact k.out)) : φ := h ⟨k⟩
theorem go_Rz3 {φ ψ : Prop} (k : ψ) (h : Hide ψ → φ := by (intro k; (repeat (first | refine su_Rz3 ?_ | refine so_ ?_ | refine sto_Rz3 ?_)); exact k.out)) : φ := h ⟨k⟩
section
variable {K : List Fa} {vf vt v42 v43 v44 : Value} {x c n d g14 g15 : Nat} {most t i : Int} {A B : Option Addr} {ss : List Seen} {a : Ac} {id : Id} {Q' : Exit → Act → World → Prop}
set_option maxRecDepth 100000 in
set_option maxHeartbeats 8000000 in
theorem pTail (q : Rq) (hq : rR most q) (hm2 : 0 ≤ most ∧ most ≤ 256) (hend : Ends 249 Q' .normal (rE vf vt v42 v43 v44 x most) (rH x most K) (rR most)) :
    SC Try.prog (cAt [false, false, false, false, false, false, false, true, false, true, true, false, false, true, true, false, false, false, false, false, false, false] (fb Try.f6)) Q' 249 (rE vf vt v42 v43 v44 x most q) (rH x most K q) := by
  obtain ⟨n, A, c, B, d, ss⟩ := q
  obtain ⟨hn, hs, hm⟩ := hq
  dsimp only [rE, rH] at hn hs hm ⊢
  subst hn
  refine go_Rz3 ?_
  refine sl_call rfl rfl (by kernel_rfl) rfl (by exact sub_) (list_ok (K := oS B ss.length d ss :: K) (A := A) (c := c) (lim := most) (ss := ss) (by omega)) ?_
  rintro ⟨A1, c1⟩ -
  dsimp only
  refine go_Rz3 ?_
  refine sl_call rfl rfl (by kernel_rfl) rfl Sub.refl (same_ok (A := A1) (B := B) (c := c1) (d := d) (xs := ss) (ys := ss) (Vw.of_own (e := 33) (c := c1) (by exact at_)) (Vw.of_own (e := 33) (c := d) (by exact at_)) (by omega) (by omega)) ?_
  rintro _ -
  rw [decide_eq_true rfl]
  refine go_Rz3 ?_
  refine sl_call rfl rfl (by kernel_rfl) rfl (by exact sub_) (len_ok (K := oS A ss.length c ss :: oS B ss.length d ss :: K) (A := A) (c := c) (lim := most) (n := ss.length)) ?_
  rintro _ -
  refine go_Rz3 ?_
  refine sl_call rfl rfl (by kernel_rfl) rfl (by exact sub_) (room_ok (K := oS A ss.length c ss :: oS B ss.length d ss :: K) (A := A) (c := c) (lim := most) (n := ss.length) hm2 (by omega)) ?_
  rintro _ -
  refine go_Rz3 ?_
  exact hend ⟨ss.length, A, c, B, d, ss⟩ ⟨rfl, hs, hm⟩ (by exact has_) (by exact sub_)
set_option maxRecDepth 100000 in
set_option maxHeartbeats 8000000 in
/-- Where the id is. -/
theorem pAt (hn : n = ss.length) (hs : Srt ss) (hl : ss.length ≤ 256) (hend : Ends 249 Q' .normal (fun j : Int => rB vf vt v42 v43 v44 x most B n d g14 g15 t j) (fun _ => rL x most A n c B d g14 g15 ss a id K) (fun j => AtR ss id j)) :
    SC Try.prog (cAt [false, false, false, false, false, false, false, true, false, true, true, false, false, true, true, false, false, false, false, false, true, false, true] (fb Try.f6)) (Exit.inBlock 2 Q') 249 ((64, .slice B n d) :: (65, .int .i64 n) :: (66, .int .i64 0) :: rB vf vt v42 v43 v44 x most B n d g14 g15 t (-1)) (rL x most A n c B d g14 g15 ss a id K) := by
  subst hn
  refine sc_for (fun p : Nat × Int => (64, .slice B ss.length d) :: (65, .int .i64 ss.length) :: (66, .int .i64 p.1) :: rB vf vt v42 v43 v44 x most B ss.length d g14 g15 t p.2) (fun _ => rL x most A ss.length c B d g14 g15 ss a id K) (fun p => p.1 ≤ ss.length ∧ ((p.2 = -1 ∧ ∀ k s, k < p.1 → ss[k]? = some s → s.id ≠ id) ∨ ∃ k s, p.2 = (k : Nat) ∧ k < p.1 ∧ ss[k]? = some s ∧ s.id = id)) (fun p => ss.length - p.1) (0, -1) (by exact has_) (by exact sub_) ⟨Nat.zero_le _, .inl ⟨rfl, fun k s h => absurd h (Nat.not_lt_zero _)⟩⟩ ?_
  rintro ⟨j, j2⟩ ⟨hj, hR⟩
  dsimp only [rB, rL] at hj hR ⊢
  by_cases hlt : j < ss.length
  case neg =>
    obtain rfl : j = ss.length := by omega
    have hA : AtR ss id j2 := by
      rcases hR with ⟨rfl, h⟩ | ⟨k, s, rfl, hk, h1, h2⟩
      · exact .inl ⟨hasI_no fun k s hk => h k s (List.getElem?_eq_some_iff.1 hk).1 hk, rfl⟩
      · obtain ⟨h3, h4⟩ := hasI_at2 hs h1 h2
        exact .inr ⟨h3, by rw [h4]⟩
    clear hR
    refine go_Rz3 ?_
    exact hend j2 hA (by exact has_) (by exact sub_)
  have hs1 : ss[j]? = some ss[j] := List.getElem?_eq_getElem hlt
  have hmid := rows_mid Seen.len hs1
  generalize ss[j] = s at hs1 hmid
  refine sc_form (e := 33) (size := 18) (A := B) (m := ss.length) (c := d) (xs := rows Seen.cells ss) (by exact at_) (by omega) ?_
  rintro g0 rfl
  have hR2 := hR
  clear hR
  refine go_Rz3 ?_
  refine sl_alloc rfl rfl rfl ?_; intro g19
  refine go_Rz3 ?_
  refine sl_pu (pu_eqlb rfl rfl rfl rfl (by kernel_rfl) (by kernel_rfl) s.id.len id.len s.id.ok id.ok) rfl ?_
  by_cases he : s.id.l = id.l
  · rw [decide_eq_true he]
    refine go_Rz3 ?_
    exact se_round (j + 1, (j : Int)) (by exact has_) (by exact sub_) ⟨hlt, .inr ⟨j, s, rfl, Nat.lt_succ_self _, hs1, Id.ext_ he⟩⟩ (by dsimp only; omega)
  · rw [decide_eq_false he]
    refine go_Rz3 ?_
    refine se_round (j + 1, j2) (by exact has_) (by exact sub_) ⟨hlt, ?_⟩ (by dsimp only; omega)
    rcases hR2 with ⟨rfl, h⟩ | ⟨k, u, rfl, hk, h1, h2⟩
    · refine .inl ⟨rfl, fun k u hk hu => ?_⟩
      dsimp only at hk
      rcases Nat.lt_or_ge k j with h3 | h3
      · exact h k u h3 hu
      · obtain rfl : k = j := by omega
        rw [hs1] at hu
        injection hu with hu
        subst hu
        exact fun e => he (by rw [e])
    · exact .inr ⟨k, u, rfl, by dsimp only; omega, h1, h2⟩
end
end Go.Proofs.Ytlfmpjojdhfflaa
/- ReplayPlays: one call, whatever it is: joined. -/
namespace Go.Proofs.Ytlfmpjojdhfflaa
open Go.RowKit
attribute [local irreducible] Go.Calls Go.Exit.then Go.Exit.inBlock Go.bodyPost Go.Code.wp Go.wpList
/-- A piece that stands as a block's body with its own block's way out. -/
theorem sc_bpart1 {P : Program} {Q : Exit → Act → World → Prop} {n : Nat} {l : Env} {L : List Fa} {x y : Code} {α : Type} {E : α → Env} {H : α → List Fa} {R : α → Prop} {id : Nat} (hp : ∀ Q', Ends n Q' .normal E H R → SC P x (Exit.inBlock id Q') n l L) (hy : ∀ p, R p → SC P y Q n (E p) (H p)) : SC P x (Exit.inBlock id (Exit.then (fun a w => y.wp P Q a w) Q)) n l L :=
  hp _ fun p _ _ hR hl hs => se_mono (se_seq (hy p hR)) hl hs
theorem nth_Rz4 {φ : Prop} (h : φ := by (first | rfl | first | with_reducible assumption | exact Ac.n0 _ | exact Ac.n18 _ | exact Ac.n19 _ | exact Ac.n20 _ | exact Ac.n1 _ | exact Seen.nt _ | exact Seen.nc _)) : φ := h
theorem mid_Rz4 {φ : Prop} (h : φ := by (first | first | with_reducible assumption | exact Seen.mid _ | exact Ac.mid _ | exact Mid.all | exact Mid.head)) : φ := h
theorem sz_Rz4 {φ : Prop} (h : φ := by (first | rfl | (first | (simp only [Seen.len, bytes_length, Id.len, Ac.len]; rfl) | simp only [Seen.len, bytes_length, Id.len, Ac.len]; first | done | fail))) : φ := h
theorem one_Rz4 {φ : Prop} (h : φ := by (first | assumption | exact first | exact Seen.one _ | exact Ac.one _ | exact one_bytes _ | (simp only [List.mem_cons, List.not_mem_nil, or_false, forall_eq_or_imp, forall_eq]; decide) | exact one_bytes _)) : φ := h
theorem set_Rz4 {φ : Prop} (h : φ := by (first | (fail) | ((repeat (first | exact SetAt.here | apply SetAt.there)); first | done | fail))) : φ := h
theorem cl_Rz4 {φ : Prop} (h : φ := by first | rfl | exact .t | exact .f | exact .t (by omega) | exact .f (by omega) | exact .u | exact .i (by (first | exact .t (by omega) | exact .f (by omega) | exact .u | exact .i (by omega) | exact .v (by omega) | exact .b (by omega) | exact .w | rfl | omega)) | exact .v (by omega) | exact .b (by omega) | exact .q (by omega) | exact .w | exact .b (by exact at_) rfl (by exact nth_Rz4) | exact .w (by exact at_) rfl rfl (by exact sz_Rz4) | exact .s (by exact at_) (by exact mid_Rz4) rfl rfl (by exact sz_Rz4) | exact .z rfl rfl ⟨by kernel_rfl⟩ | exact .b rfl rfl ⟨by kernel_rfl⟩ | exact .a rfl rfl ⟨by kernel_rfl⟩ | exact .o rfl | exact .s | exact .n | exact .p rfl | exact .q rfl | exact .c rfl | exact .d rfl | exact .n rfl rfl (by omega) | exact .a rfl rfl (by omega) | exact .p rfl rfl (by omega) (by omega) | exact .y rfl rfl (by omega) (by omega) | exact .o (by exact at_) (by omega) rfl (by exact nth_Rz4) | exact .m (by exact at_) (by omega) (by exact mid_Rz4) rfl rfl (by exact sz_Rz4) | exact .mlen (by exact at_) rfl | exact .t (by exact at_) rfl rfl (by first | exact True.intro | rfl) (by assumption) | exact .f (by exact at_) rfl rfl (by first | exact True.intro | rfl) (by assumption) rfl | exact .t1 (by exact at_) rfl rfl (by first | exact True.intro | rfl) (by assumption) | exact .f1 (by exact at_) rfl rfl (by first | exact True.intro | rfl) (by assumption) rfl | exact .r rfl rfl (by omega) (by omega) (by exact nth_Rz4) rfl | exact .s rfl (by omega) (by assumption) | exact at_ | assumption | exact .r rfl rfl | exact .h rfl rfl rfl (by omega) | exact .l rfl rfl rfl (by omega) (by omega) | exact .g rfl rfl rfl rfl (by omega) (by omega) | exact .h rfl rfl (toN_ (by omega)) (by omega) | exact .l rfl rfl (toN_ (by omega)) (by omega) (by omega) | exact .g rfl rfl (toN_ (by omega)) (toN_ (by omega)) (by omega) (by omega) | exact .o (by decide) | exact .f (by decide) | exact .n (by omega) (by first | decide | (show _ ≤ ((64 : Nat) : Int); omega)) | (constructor; (repeat (first | exact .t (by omega) | exact .f (by omega) | exact .u | exact .i (by omega) | exact .v (by omega) | exact .b (by omega) | exact .w | rfl | omega)); first | done | fail) | omega | (show _ ≤ ((64 : Nat) : Int); omega)) : φ := h
theorem pv_Rz4 {φ : Prop} (h : φ := by constructor; (repeat exact cl_Rz4); first | done | fail) : φ := h
theorem su_Rz4 {φ ψ : Prop} (k : ψ) (h : Hide ψ → φ := by (intro k; (first | refine sl_pu (PuI.sep (by exact pv_Rz4)) rfl ?_ | refine sl_yes rfl rfl ?_ | refine sl_no rfl rfl rfl ?_ | refine sl_off rfl rfl rfl ?_ | (fail)); exact k.out)) : φ := h ⟨k⟩
theorem rq_Rz4 {φ ψ : Prop} (k : ψ) (h : Hide ψ → φ := by (intro k; (first | refine wq_pu (PuI.sep (by exact pv_Rz4)) rfl ?_ | refine wq_yes rfl rfl ?_ | refine wq_no rfl rfl rfl ?_ | refine wq_off rfl rfl rfl ?_ | (fail)); exact k.out)) : φ := h ⟨k⟩
theorem sto_Rz4 {φ ψ : Prop} (k : ψ) (h : Hide ψ → φ := by (intro k; (first | refine sl_store rfl (by exact pick_) rfl rfl (by kernel_rfl) (by exact set_Rz4) ?_ | refine sl_store_whole rfl (by exact pick_) rfl (by exact sz_Rz4) (by exact sz_Rz4) (by exact one_Rz4) ?_); exact k.out)) : φ := h ⟨k⟩
theorem go_Rz4 {φ ψ : Prop} (k : ψ) (h : Hide ψ → φ := by (intro k; (repeat (first | refine su_Rz4 ?_ | refine so_ ?_ | refine sto_Rz4 ?_)); exact k.out)) : φ := h ⟨k⟩
section
variable {K : List Fa} {vf vt v42 v43 v44 : Value} {x c n d g14 : Nat} {most : Int} {A B : Option Addr} {ss : List Seen} {a : Ac} {Q' : Exit → Act → World → Prop}
set_option maxRecDepth 100000 in
set_option maxHeartbeats 16000000 in
theorem pRound (hn : n = ss.length) (hs : Srt ss) (hm : (ss.length : Int) ≤ most) (hm2 : 0 ≤ most ∧ most ≤ 256) (hN : NoP Q') (hend : Ends 249 Q' .normal (rE vf vt v42 v43 v44 x most) (rH x most K) (rR most)) :
    SC Try.prog (cAt [false, false, false, false, false, false, false, true, false, true, true, false, false, true, true, false, false] (fb Try.f6)) Q' 249 ((14, .pointer (some ⟨g14, 0, none⟩)) :: rE vf vt v42 v43 v44 x most ⟨n, A, c, B, d, ss⟩) (blk g14 50 a.cells :: rH x most K ⟨n, A, c, B, d, ss⟩) := by
  dsimp only [rE, rH]
  have hbb := a.bb
  have htb := a.tb
  have hkb := a.kb
  have hid : nth a.cells 1 = some (.int .u8 a.b) := a.n1
  refine sc_seq ?_
  refine sd_drawn (fun W => AllP W [blk g14 50 a.cells]) (fun _ => true) (by kernel_rfl) 10 rfl ?_
  refine sd_yes2 0 rfl (by exact gd_) (by kernel_rfl) (by kernel_rfl) (by (repeat (first | assumption | exact nop_body | refine nop_then ?_ | refine nop_block ?_)); first | done | fail) (PuI.all (by exact pv_Rz4)) rfl (fun w hw => all_ hw) ?_
  refine sd_yes2 1 rfl (by exact gd_) (by kernel_rfl) (by kernel_rfl) (by (repeat (first | assumption | exact nop_body | refine nop_then ?_ | refine nop_block ?_)); first | done | fail) (PuI.all (by exact pv_Rz4)) rfl (fun w hw => all_ hw) ?_
  refine sd_yes2 2 rfl (by exact gd_) (by kernel_rfl) (by kernel_rfl) (by (repeat (first | assumption | exact nop_body | refine nop_then ?_ | refine nop_block ?_)); first | done | fail) (PuI.all (by exact pv_Rz4)) rfl (fun w hw => all_ hw) ?_
  refine sd_yes2 3 rfl (by exact gd_) (by kernel_rfl) (by kernel_rfl) (by (repeat (first | assumption | exact nop_body | refine nop_then ?_ | refine nop_block ?_)); first | done | fail) (pu_build (v := .agg (bytes (idS a.b)).toArray) rfl (fun W => by kernel_rfl)) rfl (fun w hw => all_ hw) ?_
  refine sd_yes2 4 rfl (by exact gd_) (by kernel_rfl) (by kernel_rfl) (by (repeat (first | assumption | exact nop_body | refine nop_then ?_ | refine nop_block ?_)); first | done | fail) (PuI.all (by exact pv_Rz4)) rfl (fun w hw => all_ hw) ?_
  refine sd_yes2 5 rfl (by exact gd_) (by kernel_rfl) (by kernel_rfl) (by (repeat (first | assumption | exact nop_body | refine nop_then ?_ | refine nop_block ?_)); first | done | fail) (PuI.all (by exact pv_Rz4)) rfl (fun w hw => all_ hw) ?_
  refine sd_yes2 6 rfl (by exact gd_) (by kernel_rfl) (by kernel_rfl) (by (repeat (first | assumption | exact nop_body | refine nop_then ?_ | refine nop_block ?_)); first | done | fail) (PuI.all (by exact pv_Rz4)) rfl (fun w hw => all_ hw) ?_
  refine sd_one 7 (by kernel_rfl) (sa_sl 7 rfl ?_)
  refine sl_alloc rfl rfl rfl ?_
  intro g15
  refine sl_nil ?_
  refine se_sd (fun _ w hw => all_ hw) ?_
  refine sd_one 8 (by kernel_rfl) (sa_sl 8 rfl ?_)
  refine sto_Rz4 ?_
  refine sl_nil ?_
  refine se_sd (fun _ w hw => all_ hw) ?_
  refine sd_yes2 9 rfl (by exact gd_) (by kernel_rfl) (by kernel_rfl) (by (repeat (first | assumption | exact nop_body | refine nop_then ?_ | refine nop_block ?_)); first | done | fail) (PuI.all (by exact pv_Rz4)) rfl (fun w hw => all_ hw) ?_
  refine sd_done (by kernel_rfl) ?_
  refine go_Rz4 ?_
  refine sc_join (fun q : Ig => [(2, vf), (3, vt), (9, .pointer (some ⟨x, 0, none⟩)), (10, .int .i64 most), (11, .slice B n d), (12, .func (.func 21) #[] #[]), (14, .pointer (some ⟨g14, 0, none⟩)), (15, .pointer (some ⟨g15, 0, none⟩)), (16, .int .u64 q.t), (42, v42), (43, v43), (44, v44)]) (fun q => rL x most A n c B d g14 g15 ss a q.id K) (fun q => 0 ≤ q.t ∧ q.t ≤ 18446744073709551615) ?_ ?_
  · cases hr : a.r with
    | false =>
      refine go_Rz4 ?_
      exact se_mid ⟨idN a.b, a.t % 50⟩ (by exact has_) (by exact sub_) (by dsimp only; omega)
    | true =>
      refine sc_cond rfl (by constructor) ?_
      refine sd_drawn (fun W => AllP W [blk g14 50 a.cells]) (fun _ => true) (by kernel_rfl) 6 rfl ?_
      refine sd_yes2 0 rfl (by exact gd_) (by kernel_rfl) (by kernel_rfl) (by (repeat (first | assumption | exact nop_body | refine nop_then ?_ | refine nop_block ?_)); first | done | fail) (PuI.all (by exact pv_Rz4)) rfl (fun w hw => all_ hw) ?_
      refine sd_yes2 1 rfl (by exact gd_) (by kernel_rfl) (by kernel_rfl) (by (repeat (first | assumption | exact nop_body | refine nop_then ?_ | refine nop_block ?_)); first | done | fail) (PuI.all (by exact pv_Rz4)) rfl (fun w hw => all_ hw) ?_
      refine sd_yes2 2 rfl (by exact gd_) (by kernel_rfl) (by kernel_rfl) (by (repeat (first | assumption | exact nop_body | refine nop_then ?_ | refine nop_block ?_)); first | done | fail) (PuI.all (by exact pv_Rz4)) rfl (fun w hw => all_ hw) ?_
      refine sd_yes2 3 rfl (by exact gd_) (by kernel_rfl) (by kernel_rfl) (by (repeat (first | assumption | exact nop_body | refine nop_then ?_ | refine nop_block ?_)); first | done | fail) (PuI.all (by exact pv_Rz4)) rfl (fun w hw => all_ hw) ?_
      refine sd_one 4 (by kernel_rfl) (sa_sl 4 rfl ?_)
      refine sto_Rz4 ?_
      refine sl_nil ?_
      refine se_sd (fun _ w hw => all_ hw) ?_
      refine sd_yes2 5 rfl (by exact gd_) (by kernel_rfl) (by kernel_rfl) (by (repeat (first | assumption | exact nop_body | refine nop_then ?_ | refine nop_block ?_)); first | done | fail) (PuI.all (by exact pv_Rz4)) rfl (fun w hw => all_ hw) ?_
      refine sd_done (by kernel_rfl) ?_
      refine go_Rz4 ?_
      exact se_mid ⟨a.a, a.t⟩ (by exact has_) (by exact sub_) htb
  rintro ⟨id, t⟩ ht
  dsimp only at ht ⊢
  repeat (first | refine su_Rz4 ?_ | refine sobz_ ?_)
  refine sc_block ?_
  refine sc_bpart1 (E := fun j : Int => rB vf vt v42 v43 v44 x most B n d g14 g15 t j) (H := fun _ => rL x most A n c B d g14 g15 ss a id K) (R := fun j => AtR ss id j) (fun Q1 hend1 => sc_env _ (by exact has_) (pAt hn hs (by omega) hend1)) ?_
  rintro i hat
  dsimp only [rB, rL]
  repeat (first | refine su_Rz4 ?_ | refine sobz_ ?_)
  refine sc_block ?_
  refine sc_bpart (E := rE vf vt v42 v43 v44 x most) (H := rH x most K) (R := rR most) (fun Q1 hN1 hend1 => ?_) (by (repeat (first | assumption | exact nop_body | refine nop_then ?_ | refine nop_block ?_)); first | done | fail) (fun q hq => pTail q hq hm2 hend)
  by_cases k4 : a.k % 7 = 4
  · skip
    refine sc_seq ?_
    refine sc_region ?_
    repeat refine su_Rz4 ?_
    refine sl_nil ?_
    refine se_seq ?_
    refine sc_cond rfl (by constructor) ?_
    exact sc_env _ (by exact has_) (sc_sub (by exact sub_) (pSet hn hs hm hm2.2 hat hN1 hend1))
  by_cases k5 : a.k % 7 = 5
  · skip
    refine sc_seq ?_
    refine sc_region ?_
    repeat refine su_Rz4 ?_
    refine sl_nil ?_
    refine se_seq ?_
    refine sc_cond rfl (by constructor) ?_
    refine sc_seq ?_
    refine sc_region ?_
    repeat refine su_Rz4 ?_
    refine sl_nil ?_
    refine se_seq ?_
    refine sc_cond rfl (by constructor) ?_
    exact sc_env _ (by exact has_) (sc_sub (by exact sub_) (pGet hn hs hm hm2.2 hat hN1 hend1))
  by_cases k6 : a.k % 7 = 6
  · skip
    refine sc_seq ?_
    refine sc_region ?_
    repeat refine su_Rz4 ?_
    refine sl_nil ?_
    refine se_seq ?_
    refine sc_cond rfl (by constructor) ?_
    refine sc_seq ?_
    refine sc_region ?_
    repeat refine su_Rz4 ?_
    refine sl_nil ?_
    refine se_seq ?_
    refine sc_cond rfl (by constructor) ?_
    refine sc_seq ?_
    refine sc_region ?_
    repeat refine su_Rz4 ?_
    refine sl_nil ?_
    refine se_seq ?_
    refine sc_cond rfl (by constructor) ?_
    exact sc_env _ (by exact has_) (sc_sub (by exact sub_) (pDrop (i := i) hn hs hm hm2.2 ht hend1))
  refine sc_seq ?_
  refine sc_region ?_
  repeat refine su_Rz4 ?_
  refine sl_nil ?_
  refine se_seq ?_
  refine sc_cond rfl (by constructor) ?_
  refine sc_seq ?_
  refine sc_region ?_
  repeat refine su_Rz4 ?_
  refine sl_nil ?_
  refine se_seq ?_
  refine sc_cond rfl (by constructor) ?_
  refine sc_seq ?_
  refine sc_region ?_
  repeat refine su_Rz4 ?_
  refine sl_nil ?_
  refine se_seq ?_
  refine sc_cond rfl (by constructor) ?_
  exact sc_env _ (by exact has_) (sc_sub (by exact sub_) (pAdd hn hs hm hm2.2 ht hat hend1))
end
end Go.Proofs.Ytlfmpjojdhfflaa
