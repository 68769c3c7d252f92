/- Several texts of one claim, one behind the other. -/
import Derived.Test.YtocaabnbmcpjmaaGreatB26
import Derived.Test.YtocaabnbmcpjmaaGreatB05
import Derived.Test.YtocaabnbmcpjmaaGreatB18
import Derived.Test.YtocaabnbmcpjmaaGreatB24
set_option linter.unusedVariables false
set_option linter.unusedSimpArgs false
set_option maxRecDepth 100000
set_option maxHeartbeats 16000000
namespace Go.Proofs.YtocaabnbmcpjmaaGreat
variable {φ ψ : Prop}
section
open Go.RowKit Go.MapKept
attribute [local irreducible] Go.Calls Go.Exit.then Go.Exit.inBlock Go.bodyPost Go.Code.wp Go.wpList takeL recordL hashL recL allL decR ofId addV xorI gotB gotF Ax.C
section
def idQ (x : Int) : Id := ⟨[x % 10, 1, 0, 0, 0, 0, 0, 0, 0, 0, 0, 0, 0, 0, 0, 0], rfl, fun y hy => by
 simp only [List.mem_cons, List.not_mem_nil, or_false] at hy
 rcases hy with rfl | rfl | rfl | rfl | rfl | rfl | rfl | rfl | rfl | rfl | rfl | rfl | rfl | rfl | rfl | rfl <;> omega⟩
theorem build_idq (x : Int) (W : World) : (Instr.build 47 #[(0, .int .u8 (x % 10)), (1, .int .u8 1)]).run Tryz.prog W = .ok (.agg (bytes (idQ x).l).toArray) W := by kernel_rfl
namespace pVkd
theorem nthx_ (h : φ := by first | exact Ax.n0 _ | exact Ax.n1 _ | exact Ax.n2 _ | rfl) : φ := h
theorem szx_ (h : φ := by ((try simp only [bytes_length, Id.len]); (first | done | rfl); first | done | fail)) : φ := h
theorem onex_ (h : φ := by first | exact one_bytes _ | exact Ax.one _) : φ := h
end pVkd
open pVkd
section
variable {t : Ta} {r : Rl} {lim : Int} {K : List Fa} {z : PS} {g9 g10 gd md na cq g18 : Nat} {QA : Option Addr} {x : Ax} {Q' : Exit → Act → World → Prop}
theorem pRound (T : TR_ t r lim) (hre : rErr r t = 0) (hli : min (max lim 0) 256 = lim) (hz : PC t r lim K z z.Ms) (hr : RowOk z) (hcb : z.cb ≤ 13000) (hlm : z.lm ≤ 999998) (hx : AxOk K x) (hbl : x.b.length ≤ 100) (hob : x.o.length ≤ 40) (hN : NoP Q')
  (hend : ∀ {l : Env} {L : List Fa} (z' : PS), PC t r lim K z' z'.Ms → RowOk z' → z'.i = z.i ∧ z'.cb ≤ z.cb + 170 ∧ z'.lm ≤ z.lm + 1 → Has l (pE g9 g10 gd na cq lim QA z') → Sub L (pH t r lim g9 g10 gd md z' K) → SE Q' .normal 351 l L) :
  SC Tryz.prog (cAt [false, false, false, false, false, false, false, false, false, true, false, true, true, false, false, true, true, false, false] (fb Tryz.f5)) Q' 351 ((18, .pointer (some ⟨g18, 0, none⟩)) :: pE g9 g10 gd na cq lim QA z) (blk g18 99 x.C :: pH t r lim g9 g10 gd md z K) := by
 obtain ⟨X, M0, hX, hm0, hv0⟩ := hz.last
 have hlen : z.Ms.length = X.length + 1 := by rw [hX]; simp
 have hnth := row_last hr hX
 have hga := hz.ga T
 have hmn := hm0.n
 have hgn := hga.n
 have hl1 := T.l1
 have hcl := hz.cl
 have hel := hz.len
 have hrl := cells_len (z.ls t)
 rw [List.length_map] at hrl
 have hkd := hx.kd
 have hib := hx.ib
 have htm := hx.tm
 refine go_ ?_; refine sl_pu (pu_ldr (rt_view (e := 89) (r := z.rw) (k := z.Ms.length) at_ hr.ok) (by omega) rfl rfl (by rw [show ((z.Ms.length : Int) - 1).toNat * 1 = X.length by omega]; exact hnth)) rfl ?_; refine go_ ?_; refine slc_ rfl rfl sub_ (pcopied' (K := blk g18 99 x.C :: blk g9 34 t.c :: blk g10 38 r.c :: blk z.rw.g 89 z.rw.cur :: pJ t r lim gd md z (star z.pl :: K)) (X := X) (Y := []) (M := M0) (t := t) (r := r) (lim := lim) hX (by omega)) ?_; rintro M hM
 have hm := hM.hm hm0
 have hv := hM.mv hv0
 refine go_ ?_; refine sc_join (α := Nat) (fun g20 => (18, .pointer (some ⟨g18, 0, none⟩)) :: (19, .pointer (some ⟨M.g, 0, none⟩)) :: (20, .pointer (some ⟨g20, 0, none⟩)) :: (21, .int .u64 (x.tm % 40)) :: pE g9 g10 gd na cq lim QA z) (fun g20 => kH t r lim g9 g10 gd md z g18 g20 x (idQ x.ib) M K) (fun _ => True) ?_ ?_
 ·refine dr_ [blk g18 99 x.C] 11 ?_; refine y2_ 0 1 ?_; refine wy_ 2 ?_; refine wu_ 3 rfl (pu_build rfl (build_idq x.ib)) ?_; refine y4_ 4 5 6 7 ?_; refine w1_ 8 ?_; refine al_ ?_; intro g20; refine v1_ 9 ?_; refine sl_store_whole rfl pick_ rfl (by rfl) (by rfl) (one_bytes _) ?_; refine vy_ 10 ?_; refine wx_ ?_; exact se_mid g20 has_ sub_ trivial
 rintro g20 -; refine sc_mid (α := Unit) (fun _ => pK g9 g10 gd na cq lim QA z g18 M.g g20 (x.tm % 40)) (fun _ => kH t r lim g9 g10 gd md z g18 g20 x (idQ x.ib) M K) (fun _ => True) ?_ ?_
 ·refine go_ ?_; exact se_mid () has_ sub_ trivial
 rintro _ -; refine sc_seq ?_; refine sc_mid (α := Unit) (fun _ => (104, .int .u8 (x.kd % 12)) :: pK g9 g10 gd na cq lim QA z g18 M.g g20 (x.tm % 40)) (fun _ => kH t r lim g9 g10 gd md z g18 g20 x (idQ x.ib) M K) (fun _ => True) ?_ ?_
 ·refine go_ ?_; exact se_mid () has_ sub_ trivial
 rintro _ -; refine sc_block ?_; refine pKinds T hre hli hz hr hcb hlm hm hv hx hbl hob (by omega) (by omega) (nop_block (nop_then hN)) (fun z' M' hz' hr' hi' hE' hL' => ?_) (fun z' v19 e nt hz' hr' hi' hen hE' hL' => ?_)
 ·refine se_block (se_seq (sc_env _ hE' (sc_sub hL' ?_)))
  refine pTailA T hz' hr' (by omega) (fun z2 h1 h2 h3 h4 h5 => hend z2 h1 h2 ?_ h4 h5)
  omega
 ·refine se_block (se_seq (sc_env _ hE' (sc_sub hL' ?_)))
  exact pTailB T hz' hr' (by omega) hen (fun h4 h5 => hend z' hz' hr' hi' h4 h5)
end
end
end
section
open Go.RowKit
section
def LitP (e : TypeId) (g : Nat) (cs : List Value) (w : World) : Prop := w.heap[g]? = some (.cells cs.toArray e (cs.length, cs.length + 1))
def lit (e : TypeId) (g : Nat) (cs : List Value) : Fa := ⟨LitP e g cs, fun k => k = g, fun h e => by rw [e]; exact (Array.getElem?_eq_some_iff.1 h).1, fun h hF hn => (hF.block g (Array.getElem?_eq_some_iff.1 h).1 (hn g rfl)).trans h⟩
theorem lit_P {e : TypeId} {g : Nat} {cs : List Value} {w : World} : (lit e g cs).P w = LitP e g cs w := rfl
theorem lit_F {e : TypeId} {g k : Nat} {cs : List Value} : (lit e g cs).F k = (k = g) := rfl
attribute [irreducible] lit
section
variable {P : Program} {ops : Array Oper} {Q : Exit → Act → World → Prop} {n : Nat} {l : Env} {L L' : List Fa} {rest : List Oper} {d : Tmp} {ty t e : TypeId} {pos : String} {after : Array Edge} {x : Operand} {g k : Nat} {cs : List Value}
theorem lit_vw (h : At (lit e g cs) L) : Vw L (fun w => Reads w 1 (some ⟨g, 0, none⟩) cs.length cs) := fun w hw => by
 have h1 : LitP e g cs w := lit_P ▸ hw.at h
 unfold LitP at h1
 refine ⟨(Nat.mul_one _).symm, fun _ => ⟨_, rfl, fun j v hv => ?_⟩⟩
 rw [add_none, Nat.zero_add]
 simp only [World.cell?, h1]
 simpa using hv
theorem sl_mark (hx : ev l x = some (.slice (some ⟨g, 0, none⟩) k k)) (hp : Pick (own e 1 (some ⟨g, 0, none⟩) k k cs) L L') (ht : P.underlying t = some (.slice e)) (he : P.underlying e = some (.int .u8)) (hd : Nat.blt d n = true)
  (h : SL P ops Q rest n ((d, .slice (some ⟨g, 0, none⟩) k k) :: l) (lit e g cs :: L')) : SL P ops Q (⟨some d, .convert t t x, ty, pos, after, none⟩ :: rest) n l L := sl_of fun w hw => by
 have h2 := hw.pick hp
 have hO : w.ownsRow 0 e 1 (.slice (some ⟨g, 0, none⟩) k k) k cs := by
  have := h2.hd
  unfold own at this
  exact this
 obtain ⟨cur, hB, _, _, hcs, htk, hxl⟩ := own_open hO
 rw [Nat.mul_one] at hcs htk hxl
 have hcur : cur = cs.toArray := by
  apply Array.ext'
  rw [List.toList_toArray, ← htk, List.take_of_length_le (by simp [hcs])]
 subst hcur
 unfold Blk at hB
 have hg : g < w.heap.size := (Array.getElem?_eq_some_iff.1 hB).1
 have hsh : w.shape? g = some (e, cs.length) := by
  unfold World.shape?
  rw [hB]
  simp
 refine wl_run (v := .slice (some ⟨g, 0, none⟩) k k) (w' := w.freeze ⟨g, cs.length, none⟩ 1) ?_ hd (h.to ?_)
 ·unfold Ru
  intro a _ _ _ _ hs
  simp only [execOp, hs.ev hx]
  simp [convert, run_underlying ht, run_underlying he, markStringish, hsh]
 ·refine h2.step (S := fun j => j = g) ⟨rfl, rfl, rfl, ?_, fun j hj hn => ?_⟩ (fun j _ e => by rw [own_F]; exact congrArg some e.symm) ?_ (fun j hj => .inl (by rw [lit_F] at hj; rw [own_F]; exact congrArg some hj.symm))
  ·simp [World.freeze]
  ·have : g ≠ j := fun e => hn e.symm
   simp [World.freeze, Array.getElem?_modify, this]
  ·rw [lit_P]
   unfold LitP World.freeze
   simp [Array.getElem?_modify, hB]
end
end
end
section
open Go.RowKit Go.MapKept
attribute [local irreducible] Go.Calls Go.Exit.then Go.Exit.inBlock Go.bodyPost Go.Code.wp Go.wpList takeL recordL hashL recL allL decR
section
def sk0 : Sk := ⟨0, 0, 0, 0, 0, 0, 0, 0, by decide, by decide, by decide, by decide, by decide, by decide, by decide, by decide⟩
def ta0 : Ta := ⟨1 + 0 % 5, 1 + 0 % 2, sBt (1 + 0 % 5) 0, sLn (1 + 0 % 5) 0, sWt (1 + 0 % 5) 0 0, sCh (1 + 0 % 5) 0, 1 + 0 % 3, tagS (0 % 3)⟩
theorem sk0_tc : sk0.tc = ta0.c := rfl
theorem idW_ok : IsBytes (1 :: List.replicate 15 0) := fun x hx => by
 rcases List.mem_cons.1 hx with e | e
 ·omega
 ·rw [List.eq_of_mem_replicate e]; omega
def idW : Id := ⟨1 :: List.replicate 15 0, rfl, idW_ok⟩
abbrev lsA : List (List Int) := [5 :: rcLife 1]
abbrev lsB : List (List Int) := [5 :: rcLife 1, 1 :: rcAcc idW 5 [] [120]]
def iN (p : JO) (_ : Nat) (_ : Nat) (q : StM) : Prop := q.gj = p.gj ∧ q.ss = [] ∧ q.fs = [] ∧ q.ws = [] ∧ q.sd = [] ∧ q.life = 0
def iC (p : JO) (_ : Nat) (j : Nat) (q : StM) : Prop := q.gj = p.gj ∧ (j = 0 → q.ss = [] ∧ q.ws = [] ∧ q.life = 0) ∧ (j = 1 → q.ss = [] ∧ q.ws = [] ∧ q.life = 1) ∧ (j = 2 → q.life = 1 ∧ ∃ x, q.ws = [x] ∧ x.id = idW ∧ x.t = 5 ∧ x.p = [] ∧ x.s = [120])
theorem lsB_len : ∀ x ∈ lsB, x.length ≤ 40 := by decide
theorem lsB_b : ∀ x ∈ lsB, IsBytes x := by unfold IsBytes; decide
theorem lsB_c : cellsA lsB = 2 := by decide
theorem ta0_err {r : Rl} (h1 : 1 ≤ r.w ∧ r.w ≤ 1099511627776) (h2 : 1 ≤ r.mn ∧ r.mn ≤ r.mx ∧ r.mx ≤ 256) : rErr r ta0 = 0 := by
 unfold rErr
 rw [if_neg (by decide), if_neg (by omega), if_neg (by omega)]
theorem iN_acc {q : StM} {p : JO} {g j : Nat} (h : iN p g j q) : accE ⟨10, 1, 5⟩ 9 { q with life := q.life + 1 } idW 5 0 1 = 0 := by
 obtain ⟨h1, h2, h3, h4, h5, h6⟩ := h
 unfold accE
 dsimp only; rw [h2, h3]
 decide
namespace pSkv
theorem nthx_ (h : φ := by first | rfl | exact rpC_n16 | exact rpC_n17 | exact rpC_n18 | exact stC9_n9) : φ := h
theorem midx_ (h : φ := by first | exact rpC_id | exact stC9_mid | exact stC9_ci | exact Mid.all) : φ := h
theorem szx_ (h : φ := by ((try simp only [rpC_len, bytes_length, Id.len, Seen.len]); (first | done | rfl); first | done | fail)) : φ := h
theorem onex_ (h : φ := by first | exact one_bytes _ | exact rpC_one rfl rfl | exact Ta.one _ | exact Rl.one _) : φ := h
theorem setx_ (h : φ := by first | exact rpC_set16 | exact rpC_set17 | exact rpC_set18) : φ := h
end pSkv
open pSkv
abbrev rlA : Rl := ⟨10, 1, 5⟩
theorem hop1 {gd md : Nat} {K0 : List Fa} : Fn Tryz.prog 9 #[.pointer (some ⟨gd, 0, none⟩), .agg ta0.c.toArray, .agg rlA.c.toArray, .int .i64 9] (dB gd md 10000 :: dM md [] 0 :: dS [] :: K0)
  (Ret (orP (fun p => p.xs = [] ∧ p.fs = [] ∧ p.ck = 0) (fun _ => False) iN []) orV (orH ta0 rlA 9 10000 gd md [] K0)) :=
 open_ok (σ := 0) (ls := []) (Kp := KpN) (limit := 9) (ta0_err (by decide) (by decide)) (by decide) (by decide) (by decide) jopen_new
  (fun p hp => ⟨.inl ⟨rfl, hp.2.1, hp.2.2, rfl⟩, by rw [hp.1]; rfl, fun h => absurd hp.1 h⟩)
  (fun p g q _ h1 h2 h3 h4 h5 h6 => ⟨h1, h2, h3, h4, h5, h6⟩)
  (fun p g j x q K' hp hx => by rw [hp.1] at hx; cases hx)
  (fun p g q h => ⟨h.1, by rw [h.2.2.2.2.2]; decide, by rw [h.2.2.2.2.2]; decide⟩)
theorem hop2 {gd md ckd : Nat} {f : DF} {K0 : List Fa} (hf : JFl lsB (cellsA lsB * 64) f) : Fn Tryz.prog 9 #[.pointer (some ⟨gd, 0, none⟩), .agg ta0.c.toArray, .agg rlA.c.toArray, .int .i64 9] (dB gd md 10000 :: dM md [f] ckd :: dS [f] :: K0)
  (Ret (orP (JcP lsB) (fun _ => False) iC lsB) orV (orH ta0 rlA 9 10000 gd md lsB K0)) := by
 obtain ⟨h1, h2, h3, h4⟩ := hf
 have hc := lsB_c
 refine open_ok (σ := 0) (ls := lsB) (Kp := KpC) (limit := 9) (ta0_err (by decide) (by decide)) (by rw [hc]; decide) (by rw [hc]; decide) (by decide)
  (jopen_cut (ls := lsB) (r := 2) (mm := (allL lsB).length) h1 (by rw [h2, List.take_length]) (Nat.le_refl _) h3 ⟨Nat.le_refl _, by rw [allL_len]; exact Nat.le_refl _, fun h => absurd h (by decide)⟩ (fun x hx => by have := lsB_len x hx; omega) lsB_b (by rw [hc]; decide))
  (fun p hp => ⟨hp.2.2, by rw [← hp.1, List.length_map], fun _ => kpc_row p⟩)
  (fun p g q _ h1 h2 h3 h4 h5 h6 => ⟨h1, fun _ => ⟨h2, h4, h6⟩, fun e => (by cases e), fun e => (by cases e)⟩)
  (fun p g j x q K' hp hx hK' hI => ?_)
  (fun p g q h => ⟨h.1, by rw [(h.2.2.2 rfl).1]; decide, by rw [(h.2.2.2 rfl).1]; decide⟩)
 have hm : lsB[j]? = some x.l := by rw [← hp.1, List.getElem?_map, hx]; rfl
 have hlx := lsB_len _ (List.mem_of_getElem? hm)
 have hrd := kpc_rd hp hx (by omega)
 obtain ⟨i1, i2, i3, i4⟩ := hI
 have hj : j = 0 ∨ j = 1 := by
  have := (List.getElem?_eq_some_iff.1 hm).1
  have h2 : lsB.length = 2 := rfl
  omega
 rcases hj with rfl | rfl
 ·obtain ⟨j1, j2, j3⟩ := i2 rfl
  have hxl : x.l = 5 :: rcLife 1 := by injection hm with e; exact e.symm
  rw [hxl] at hrd
  rw [show x.v = .slice x.A (5 :: rcLife 1).length x.c by rw [← hxl]; rfl]
  refine (again_life (n := 1) (by decide) (by decide) hK' hrd).say fun z w hz hw => ⟨z, ⟨fun _ => ?_, fun hz1 => ?_⟩, rfl, hw⟩
  ·rw [hz]; exact ⟨i1, fun e => (by cases e), fun _ => ⟨j1, j2, rfl⟩, fun e => (by cases e)⟩
  ·rw [hz] at hz1
   exact hz1 rfl
 ·obtain ⟨j1, j2, j3⟩ := i3 rfl
  have hxl : x.l = 1 :: rcAcc idW 5 [] [120] := by injection hm with e; exact e.symm
  rw [hxl] at hrd
  rw [show x.v = .slice x.A (1 :: rcAcc idW 5 [] [120]).length x.c by rw [← hxl]; rfl]
  have haI : addI (min (max 9 0) 256) q.ss ⟨idW, 5, 30, by decide, by decide⟩ = (0, [⟨idW, 5, 30, by decide, by decide⟩]) := by rw [j1]; rfl
  refine (again_acc (by decide) (by decide) (by decide) (by decide) hK' hrd (by rw [j1]; exact srt_nil) (by rw [j1]; decide) (fun _ => by rw [j2]; rfl)).say fun z w hz hw => ?_
  obtain ⟨A1, c1, pA, pc, sA, sc, rfl⟩ := hz
  refine ⟨_, ⟨fun _ => ⟨i1, fun e => (by cases e), fun e => (by cases e), fun _ => ⟨j3, ⟨idW, 5, pA, pc, [], sA, sc, [120], q.cw⟩, ?_, rfl, rfl, rfl, rfl⟩⟩, fun hz1 => ?_⟩, rfl, hw⟩
  ·dsimp only [StM.acc]
   rw [haI, j2]
   rfl
  ·rw [haI] at hz1
   exact hz1 rfl
theorem awake21 {K : List Fa} :
  Fn Tryz.prog 6 #[] K (Ret (fun _ : Unit => True) (fun _ => .bool true) (fun _ => K)) := by
 refine fe_ Tryz.func6 Tryz.ntmps6 [] ?_; refine go_ ?_; refine slc_ rfl rfl Sub.refl newD_ok ?_; rintro ⟨gd, md⟩ -; dsimp only; rw [show limL 10000 = 10000 by rfl]; refine go_ ?_; refine sl_pu (pu_build (v := .agg sk0.cells.toArray) rfl (fun W => by kernel_rfl)) rfl ?_; refine go_ ?_; refine slc_ rfl rfl Sub.refl (stask_ok sk0) ?_; rintro _ -; rw [sk0_tc]; refine go_ ?_; refine sl_pu (pu_build (v := .agg rlA.c.toArray) rfl (fun W => by kernel_rfl)) rfl ?_; refine go_ ?_; refine al_ ?_; intro g2; refine al_ ?_; intro g3; refine go_ ?_; refine slc_ rfl rfl sub_ (hop1 (gd := gd) (md := md) (K0 := blk g2 34 ta0.c :: blk g3 38 rlA.c :: K)) ?_
 rintro (p | ⟨g, q, f, ck⟩) hp
 ·exact hp.2.elim
 obtain ⟨p, q0, hp1, hI, hq, hF⟩ := hp
 dsimp only at hq hF
 have hacc := iN_acc hI
 rw [← hq] at hacc
 obtain ⟨i1, i2, i3, i4, i5, i6⟩ := hI
 have hlf : q.life = 1 := by rw [hq, i6]; rfl
 have hss : q.ss = [] := by rw [hq]; exact i2
 have hws : q.ws = [] := by rw [hq]; exact i4
 rw [i6] at hF
 dsimp only [orV, orH]
 rw [hlf]; refine go_ ?_; refine sl_pu (pu_build (v := idW.v) rfl (fun W => by kernel_rfl)) rfl ?_; refine go_ ?_; refine sl_build (size := 1) (e := 5) (cells := bytes [120]) rfl (fun W => by kernel_rfl) rfl (by decide) rfl ?_; intro g4; refine go_ ?_; refine sl_mark rfl pick_ rfl rfl rfl ?_; refine go_ ?_; refine sl_pu (pu_build (v := .agg (rpC idW 5 (.slice none 0 0) (.slice (some ⟨g4, 0, none⟩) 1 1)).toArray) rfl (fun W => by kernel_rfl)) rfl ?_; refine go_ ?_
 have hsa := sAccept_ok (K := lit 5 g4 (bytes [120]) :: blk g2 34 ta0.c :: blk g3 38 rlA.c :: K) (g := g) (gd := gd) (md := md) (ckd := ck) (t := ta0) (r := rlA) (lim := 9) (limd := 10000) (q := q) (ls := lsA) (fs := [f]) (id := idW) (tm := 5) (pA := none) (sA := some ⟨g4, 0, none⟩) (p := []) (s := [120]) (pc := 0) (sc := 1)
  (by decide) (by decide) (by decide) (by rw [hss]; exact srt_nil) (by rw [hss]; decide) (fun _ => by rw [hws]; rfl) (fun w _ => Reads.nil_ _) (lit_vw at_) (fun _ => ⟨.inr ⟨f, rfl, hF⟩, lsB_b _ (by decide), by decide, by decide, by decide, by decide⟩)
 rw [show accE rlA 9 q idW 5 ([] : List Int).length [(120 : Int)].length = 0 from hacc] at hsa
 refine slc_ rfl rfl sub_ hsa ?_
 clear hsa
 rintro (_ | ⟨q2, f2, ck2⟩) hz
 ·exact (hz rfl).elim
 obtain ⟨-, hF2, A1, c1, pA, pc, sA, sc, hq2⟩ := hz
 dsimp only at hF2 hq2
 dsimp only [saH]
 have hfl2 : f2.l.length = 128 := by rw [hF2.2.1, allL_len]; decide
 refine go_ ?_; refine slc_ rfl rfl sub_ (ssync_ok (g := g) (gj := q2.gj) (gi := q2.gi) (gb := q2.gb) (mw := q2.mw) (ms := q2.ms) (gd := gd) (md := md) (ckd := ck2) (t := ta0) (life := q2.life) (lim := 10000) (K := blk g2 34 ta0.c :: blk g3 38 rlA.c :: K) hF2 (by omega)) ?_; rintro f3 hF3
 have hfl3 : f3.l.length = 128 := by rw [hF3.2.1, allL_len]; decide
 have hsy3 : f3.sy = 128 := by have h1 := hF3.2.2.1; have h2 := hF3.2.2.2; omega
 refine go_ ?_; refine slc_ rfl rfl sub_ (crash_one (K := blk g2 34 ta0.c :: blk g3 38 rlA.c :: K) (g := gd) (m := md) (ck := ck2) (lim := 10000) (keep := 0) (f := f3) hF3.2.2.1 (by omega)) ?_; rintro f4 ⟨hs4, hl4, hy4⟩
 have hcr := crN_le (keep := 0) hF3.2.2.1
 have hcr2 : crN 0 f3.l f3.sy = 128 := by omega
 rw [hcr2] at hl4 hy4
 have hF4 : JFl lsB (cellsA lsB * 64) f4 := ⟨hs4.trans hF3.1, by rw [hl4, List.take_of_length_le (by omega)]; exact hF3.2.1, by rw [hy4, hl4, List.take_of_length_le (by omega)]; omega, by rw [hy4, lsB_c]; decide⟩
 refine go_ ?_; refine slc_ rfl rfl sub_ (hop2 (gd := gd) (md := md) (ckd := ck2) (f := f4) (K0 := blk g2 34 ta0.c :: blk g3 38 rlA.c :: K) hF4) ?_
 rintro (p5 | ⟨g5, q5, f5, ck5⟩) hp5
 ·exact hp5.2.elim
 obtain ⟨p5, q6, hp6, hI6, hq6, hF6⟩ := hp5
 dsimp only at hq6 hF6
 obtain ⟨k1, -, -, k4⟩ := hI6
 obtain ⟨k5, x, k6, k7, k8, k9, k10⟩ := k4 rfl
 have hw5 : q5.ws = [x] := by rw [hq6]; exact k6
 have hl5 : q5.life = 2 := by rw [hq6, k5]; rfl
 dsimp only [orV, orH]
 refine go_ ?_; refine sl_pu (pu_build (v := idW.v) rfl (fun W => by kernel_rfl)) rfl ?_; refine go_ ?_
 have hwz := sWaits_yes (K := jC q5.gj gd sj (cellsA (lsB ++ [5 :: rcLife q5.life])) :: dB gd md 10000 :: dM md [f5] ck5 :: dS [f5] :: blk g2 34 ta0.c :: blk g3 38 rlA.c :: K) (g := g5) (t := ta0) (r := rlA) (lim := 9) (q := q5) (x := x) (by rw [hw5]; exact List.mem_singleton.2 rfl) (by rw [k9]; decide) (by rw [k10]; decide)
 rw [k7, k8, k9, k10] at hwz
 refine slc_ rfl rfl sub_ hwz ?_
 clear hwz
 rintro ⟨⟨A5, c5⟩, ⟨A6, c6⟩⟩ -; dsimp only; refine go_ ?_; refine al_ ?_; intro g6; refine go_ ?_; refine slc_ rfl rfl sub_ (sLife_ok (g := g5) (gd := gd) (t := ta0) (r := rlA) (lim := 9) (q := q5) (n := cellsA (lsB ++ [5 :: rcLife q5.life])) (s := sj) (K := blk g6 49 (rpC idW 5 (.slice A5 ([] : List Int).length c5) (.slice A6 [(120 : Int)].length c6)) :: u8o A5 c5 [] :: u8o A6 c6 [120] :: jC q5.gj gd sj (cellsA (lsB ++ [5 :: rcLife q5.life])) :: dB gd md 10000 :: dM md [f5] ck5 :: dS [f5] :: blk g2 34 ta0.c :: blk g3 38 rlA.c :: K) at_) ?_; rintro _ -; rw [hl5]; refine go_ ?_; refine sl_pu (pu_strv (Vw.of_own (A := A6) (c := c6) (e := 5) at_) rfl rfl rfl rfl) rfl ?_; refine go_ ?_; exact r1_ ()
end
attribute [local irreducible] ofId addV xorI gotB gotF Ax.C
section
def PS.first (y : OpR) (rw' : RwT) (M : Md) : PS := ⟨0, y.g, y.q, y.f, y.ck, rw', [M], [], [Evt.life 1], 1, 1, 84, 1⟩
theorem PC.first {t : Ta} {r : Rl} {lim : Int} {K : List Fa} {y : OpR} {rw' : RwT} {M : Md} (T : TR_ t r lim) (hy : OevP t r [] y) (hM : M.ss = [] ∧ M.ws = [] ∧ M.sd = [] ∧ M.fs = []) : PC t r lim K (PS.first y rw' M) [M] := by
 obtain ⟨y1, y2, y3⟩ := hy
 obtain ⟨m1, m2, m3, m4⟩ := hM
 have hcan : (Evt.life 1).can t r lim (runE t r []) := ⟨rfl, by decide⟩
 have hby := Evt.by_ok T hcan
 refine ⟨(show CanE t r lim [] from fun j e h => by cases h).snoc hcan, y1, y2, fun j h1 h2 => ?_, by simp, rfl, fun j M' hj => ?_, fun M' hM' => ?_, y3, ?_, by show (1 : Int) ≤ ((1 : Nat) : Int); decide⟩
 ·have h1' : 1 ≤ j := h1
  show (runE t r ([Evt.life 1].take j)).2 = 1
  rw [List.take_of_length_le (by simp; omega)]
  rfl
 ·obtain rfl : j = 0 := by have := (List.getElem?_eq_some_iff.1 hj).1; simp at this; exact this
  cases hj
  show Hd M.ss M.ws (M.sd.map Stx.pr) M.fs Ab.no
  rw [m1, m2, m3, m4]; exact Hd.no
 ·rw [List.mem_singleton.1 hM']; exact ⟨fun w hw => (by rw [m2] at hw; cases hw), fun w hw => (by rw [m2] at hw; cases hw), fun b hb => (by rw [m4] at hb; cases hb)⟩
 ·show cellsA ([] ++ [(Evt.life 1).by_ t]) ≤ 84
  rw [cellsA_snoc]
  have h1 := many_4000 hby.2
  have h2 : cellsA ([] : List (List Int)) = 0 := rfl
  omega
theorem se_envS {Q : Exit → Act → World → Prop} {e : Exit} {n : Nat} {l l' : Env} {L : List Fa} (hl : Has l l') (h : SE Q e n l' L) : SE Q e n l L := by
 unfold SE at h ⊢
 exact fun w hw => WE.mk fun a hs => WE.get (h w hw) (hs.sub hl.sub)
theorem smR_okS {a b c : Int} {s : Sk} (ha : 0 ≤ a ∧ a ≤ 255) (hb : 0 ≤ b ∧ b ≤ 255) (hc : 0 ≤ c ∧ c ≤ 255) : rErr (smR a b c) s.ta = 0 ∧ 0 < (smR a b c).w ∧ 0 < (smR a b c).mx ∧ (smR a b c).mx ≤ 256 := by
 have hw : (smR a b c).w = 1 + a % 12 := rfl
 have hn : (smR a b c).mn = 1 + b % 4 := rfl
 have hx : (smR a b c).mx = 1 + b % 4 + c % 6 := rfl
 refine ⟨?_, by omega, by omega, by omega⟩
 unfold rErr
 rw [if_neg (by simp [s.ta_ok]), if_neg (by omega), if_neg (by omega)]
theorem Sk.ta_fl (s : Sk) : s.ta.fl = 1 ∨ s.ta.fl = 2 := by
 have h : s.ta.fl = 1 + s.f % 2 := rfl
 have := s.hf
 omega
namespace pVke
theorem nthx_ (h : φ := by first | exact Ax.n0 _ | exact Ax.n3 _ | exact Ax.n4 _ | rfl) : φ := h
theorem midx_ (h : φ := by first | exact Ta.mid _ | exact Rl.mid _ | exact Mid.all) : φ := h
theorem szx_ (h : φ := by ((try simp only [Ax.len]); (first | done | rfl); first | done | fail)) : φ := h
theorem onex_ (h : φ := by first | exact Sk.one _ | exact Ta.one _ | exact Rl.one _ | exact one_bytes _ | exact Ax.one _) : φ := h
end pVke
open pVke
theorem o1_Vke (k : ψ) (h : Hide ψ → φ := by (intro k; refine slc_ rfl rfl sub_ (stask_ok s) ?_; exact k.out)) : φ := h ⟨k⟩
theorem o2_Vke (k : ψ) (h : Hide ψ → φ := by (intro k; refine slc_ rfl rfl sub_ (smrules_ok ha hb hc) ?_; exact k.out)) : φ := h ⟨k⟩
theorem o3_Vke (k : ψ) (h : Hide ψ → φ := by (intro k; refine sl_store_whole rfl pick_ rfl (by rfl) (by rfl) (Ta.one _) ?_; exact k.out)) : φ := h ⟨k⟩
theorem o4_Vke (k : ψ) (h : Hide ψ → φ := by (intro k; refine sl_store_whole rfl pick_ rfl (by rfl) (by rfl) (Rl.one _) ?_; exact k.out)) : φ := h ⟨k⟩
theorem o5_Vke (h : φ := by exact se_mid (g7, g8) has_ sub_ trivial) : φ := h
theorem e1_Vke (h : φ := by (refine v1_ 6 ?_; refine o3_Vke ?_; refine v1_ 7 ?_; refine o4_Vke ?_; refine vx_ ?_; exact o5_Vke)) : φ := h
theorem e2_Vke (h : φ := by (refine v1_ 3 ?_; refine o2_Vke ?_; rintro _ -; rw [hr]; exact e1_Vke)) : φ := h
theorem storeplays_walk {K : List Fa} {s : Sk} {a b c m : Int} {QA : Option Addr} {cq : Nat} {xs : List Ax} (ha : 0 ≤ a ∧ a ≤ 255) (hb : 0 ≤ b ∧ b ≤ 255) (hc : 0 ≤ c ∧ c ≤ 255) (hm : 0 ≤ m ∧ m ≤ 255) (hq : Vw K (fun w => Reads w 7 QA xs.length (rows Ax.C xs))) (hl : xs.length ≤ maxLen) (hx : ∀ x ∈ xs, AxOk K x ∧ x.b.length ≤ maxLen ∧ x.o.length ≤ maxLen) :
  Fn Tryz.prog 5 #[.agg s.cells.toArray, .agg (sm19C a b c).toArray, .int .u8 m, .slice QA xs.length cq] K (Ret (fun _ : Unit => True) (fun _ => .bool true) (fun _ => K)) := by
 refine fe_ Tryz.func5 Tryz.ntmps5 [(0, .agg s.cells.toArray), (1, .agg (sm19C a b c).toArray), (2, .int .u8 m), (3, .slice QA xs.length cq)] ?_
 unfold maxLen at hl hx
 refine go_ ?_; refine bx_ ?_; intro g1; refine go_ ?_; refine bx_ ?_; intro g2; refine go_ ?_; refine slc_ rfl rfl sub_ awake21 ?_; rintro _ -; refine go_ ?_
 obtain ⟨hr0, hrw, hmn, hmx⟩ := smR_okS (s := s) ha hb hc
 obtain ⟨r, hr⟩ : ∃ q, smR a b c = q := ⟨_, rfl⟩
 rw [hr] at hr0 hrw hmn hmx
 have hfl := s.ta_fl
 obtain ⟨t, hts⟩ : ∃ q, s.ta = q := ⟨_, rfl⟩
 have ht : t.err = 0 := by rw [← hts]; exact s.ta_ok
 rw [hts] at hr0 hfl
 obtain ⟨lim, hlim⟩ : ∃ q, 1 + m % 30 = q := ⟨_, rfl⟩
 have hl1 : 1 ≤ lim ∧ lim ≤ 30 := by omega
 have hli : min (max lim 0) 256 = lim := by omega
 have T : TR_ t r lim := ⟨ht, by omega, hmx, hfl, by omega, by omega⟩
 refine sc_join (α := Nat × Nat) (fun q => [(2, .int .u8 m), (3, .slice QA xs.length cq), (9, .pointer (some ⟨q.1, 0, none⟩)), (10, .pointer (some ⟨q.2, 0, none⟩))]) (fun q => blk q.1 34 t.c :: blk q.2 38 r.c :: K) (fun _ => True) ?_ ?_
 ·refine dr_ [blk g1 25 s.cells, blk g2 87 (sm19C a b c)] 8 ?_; refine y2_ 0 2 ?_; refine w3_ 1 4 5 ?_ ?_ ?_
  ·refine o1_Vke ?_; rintro _ -; rw [← Sk.ta_c, hts]; refine wn_ ?_; refine w3_ 3 4 5 ?_ ?_ ?_
   ·refine o2_Vke ?_; rintro _ -; rw [hr]; refine v2_ 4 5 ?_ ?_
    ·refine al_ ?_; intro g7; refine v1_ 5 ?_; refine al_ ?_; intro g8; exact e1_Vke
    ·refine al_ ?_; intro g8; refine v1_ 4 ?_; refine al_ ?_; intro g7; exact e1_Vke
   ·refine al_ ?_; intro g7; refine v2_ 3 5 ?_ ?_
    ·refine o2_Vke ?_; rintro _ -; rw [hr]; refine v1_ 5 ?_; refine al_ ?_; intro g8; exact e1_Vke
    ·refine al_ ?_; intro g8; exact e2_Vke
   ·refine al_ ?_; intro g8; refine v2_ 3 4 ?_ ?_
    ·refine o2_Vke ?_; rintro _ -; rw [hr]; refine v1_ 4 ?_; refine al_ ?_; intro g7; exact e1_Vke
    ·refine al_ ?_; intro g7; exact e2_Vke
  ·refine al_ ?_; intro g7; refine v2_ 1 5 ?_ ?_
   ·refine o1_Vke ?_; rintro _ -; rw [← Sk.ta_c, hts]; refine v2_ 3 5 ?_ ?_
    ·refine o2_Vke ?_; rintro _ -; rw [hr]; refine v1_ 5 ?_; refine al_ ?_; intro g8; exact e1_Vke
    ·refine al_ ?_; intro g8; exact e2_Vke
   ·refine al_ ?_; intro g8; refine v1_ 1 ?_; refine o1_Vke ?_; rintro _ -; rw [← Sk.ta_c, hts]; exact e2_Vke
  ·refine al_ ?_; intro g8; refine v2_ 1 4 ?_ ?_
   ·refine o1_Vke ?_; rintro _ -; rw [← Sk.ta_c, hts]; refine v2_ 3 4 ?_ ?_
    ·refine o2_Vke ?_; rintro _ -; rw [hr]; refine v1_ 4 ?_; refine al_ ?_; intro g7; exact e1_Vke
    ·refine al_ ?_; intro g7; exact e2_Vke
   ·refine al_ ?_; intro g7; refine v1_ 1 ?_; refine o1_Vke ?_; rintro _ -; rw [← Sk.ta_c, hts]; exact e2_Vke
 rintro ⟨g9, g10⟩ -; dsimp only; refine go_ ?_; rw [hlim]; refine slc_ rfl rfl sub_ newD_ok ?_; rintro ⟨gd, md⟩ -; dsimp only; rw [show limL 1048576 = 1048576 by rfl]; refine go_ ?_
 have hopen := open_first (K0 := blk g9 34 t.c :: blk g10 38 r.c :: K) (gd := gd) (md := md) (limd := 1048576) (t := t) (r := r) (limit := lim) (by rw [hli]; exact T) hr0 rfl
 rw [hli] at hopen
 refine slc_ rfl rfl sub_ hopen ?_; rintro y hy
 unfold OevH
 obtain ⟨nc, hnc⟩ : ∃ nc, nc = cellsA (([] ++ [Evt.life ((runE t r []).2 + 1)]).map (Evt.by_ t)) := ⟨_, rfl⟩
 rw [← hnc]; refine go_ ?_; refine sl_pu (pu_build (v := .agg (mdC t r lim (.slice none 0 0) none none none).toArray) rfl (fun W => by kernel_rfl)) rfl ?_; refine bx_ ?_; intro g63; refine go_ ?_; refine slc_ rfl rfl sub_ (mcopied_new (K := sF y.g t r lim y.q (jC y.q.gj gd sj nc :: dB gd md 1048576 :: dM md [y.f] y.ck :: dS [y.f] :: blk g9 34 t.c :: blk g10 38 r.c :: K)) (g := g63) (t := t) (r := r) (lim := lim)) ?_; rintro M hM; refine go_ ?_; refine sl_build (size := 1) (e := 89) (cells := [.pointer (some ⟨M.g, 0, none⟩)]) rfl (fun W => by kernel_rfl) rfl (by decide) rfl ?_; intro gb; refine sl_own_blk (e := 89) (g := gb) (k := 1) (c := 1) (xs := [.pointer (some ⟨M.g, 0, none⟩)]) pick_ ?_
 intro r' hr1 hr2 hr3 hr4 hr5
 rw [show Value.slice (some ⟨gb, 0, none⟩) 1 1 = r'.v 1 by rw [← hr1, ← hr2, ← hr3]]; refine go_ ?_
 have hpc0 : PC t r lim K (PS.first y r' M) [M] := PC.first T hy hM
 have hrow0 : RowOk (PS.first y r' M) := ⟨hr4, hr5⟩
 have hnc' : nc = cellsA ([Evt.life 1].map (Evt.by_ t)) := hnc
 subst hnc'
 refine sc_ent (L' := pH t r lim g9 g10 gd md (PS.first y r' M) K) (fun w hw => ?_) ?_
 ·have h1 : Sep w (mdF t r lim M (blk r'.g 89 r'.cur :: sF y.g t r lim y.q (jC y.q.gj gd sj (cellsA ([Evt.life 1].map (Evt.by_ t))) :: dB gd md 1048576 :: dM md [y.f] y.ck :: dS [y.f] :: blk g9 34 t.c :: blk g10 38 r.c :: K))) := hw.sub sub_
  have h2 := (mds_one w h1).sub (sub_star0 Sub.refl)
  refine h2.sub ?_
  unfold PS.first
  exact sub_
 refine sc_bjoin (α := PS) (fun z => [(10, .pointer (some ⟨g10, 0, none⟩)), (13, .pointer (some ⟨z.gu, 0, none⟩))]) (fun z => pH t r lim g9 g10 gd md z K) (fun _ => True) ?_ ?_
 ·refine sc_for (α := PS) (fun z => pE g9 g10 gd xs.length cq lim QA z) (fun z => pH t r lim g9 g10 gd md z K) (fun z => PC t r lim K z z.Ms ∧ RowOk z ∧ z.i ≤ xs.length ∧ z.i ≤ 61 ∧ z.cb ≤ 84 + 170 * z.i ∧ z.lm ≤ 1 + z.i) (fun z => xs.length - z.i) (PS.first y r' M) (by unfold PS.first; exact has_) Sub.refl ⟨hpc0, hrow0, Nat.zero_le _, show 0 ≤ 61 by decide, show 84 ≤ 84 + 170 * 0 by decide, show 1 ≤ 1 + 0 by decide⟩ ?_; rintro z ⟨hz, hrow, hi, hi61, hcb, hlm⟩
  by_cases hlt : z.i < xs.length
  case neg =>
   refine go_ ?_; exact se_mid z has_ sub_ trivial
  refine sc_know (vw_form (L := pH t r lim g9 g10 gd md z K) (hq.mono sub_) (by omega)) ?_; rintro ⟨gq, rfl⟩
  obtain ⟨x, hxi⟩ : ∃ x, xs[z.i]? = some x := ⟨_, List.getElem?_eq_getElem hlt⟩
  obtain ⟨hxo, hbl, hol⟩ := hx x (List.mem_of_getElem? hxi)
  refine go_ ?_; refine sl_pu (pu_ldrs (hq.mono sub_) (by omega) rfl (rows_mid Ax.len hxi) rfl rfl (by rw [Ax.len]; rfl)) rfl ?_; refine al_ ?_; intro g18
  repeat refine su_ ?_
  refine sl_store_whole rfl pick_ rfl (by rw [Ax.len]; rfl) (by rw [Ax.len]; rfl) (Ax.one _) ?_; refine sl_nil ?_; refine se_seq ?_; refine sc_mid (α := Unit) (fun _ => (18, .pointer (some ⟨g18, 0, none⟩)) :: pE g9 g10 gd xs.length cq lim (some gq) z) (fun _ => blk g18 99 x.C :: pH t r lim g9 g10 gd md z K) (fun _ => z.i ≤ 60 ∧ x.b.length ≤ 100 ∧ x.o.length ≤ 40) ?_ ?_
  ·by_cases h1 : 60 < z.i
   ·refine go_ ?_; exact se_mid z has_ sub_ trivial
   by_cases h2 : 100 < x.b.length
   ·refine go_ ?_; exact se_mid z has_ sub_ trivial
   by_cases h3 : 40 < x.o.length
   ·refine go_ ?_; exact se_mid z has_ sub_ trivial
   refine go_ ?_; exact se_mid () has_ sub_ ⟨by omega, by omega, by omega⟩
  rintro _ ⟨k1, k2, k3⟩; refine pRound T hr0 hli hz hrow (by omega) (by omega) hxo k2 k3 nop_ (fun {l L} z' hz' hr' hi' hE hL => ?_); refine se_envS hE (se_subK hL ?_)
  obtain ⟨e1, e2, e3⟩ := hi'
  refine go_ ?_; exact se_round { z' with i := z'.i + 1 } has_ sub_ ⟨⟨hz'.can, hz'.hq, hz'.ql, hz'.lf, hz'.ne, hz'.k0, hz'.ms, hz'.mv, hz'.jf, hz'.cl, hz'.lb⟩, ⟨hr'.ok, hr'.xs⟩, by show z'.i + 1 ≤ _; omega, by show z'.i + 1 ≤ _; omega, by show z'.cb ≤ 84 + 170 * (z'.i + 1); omega, by show z'.lm ≤ 1 + (z'.i + 1); omega⟩ (by show xs.length - (z'.i + 1) < _; omega)
 rintro z -; refine sc_seq ?_; refine dr_ [blk g10 38 r.c] 5 ?_; refine y2_ 0 2 ?_; refine w1_ 1 ?_; refine slc_ rfl rfl sub_ (sRules_ok (K := blk g10 38 r.c :: K) (g := z.gu) (t := t) (r := r) (lim := lim) (q := z.q)) ?_; rintro _ -; refine wn_ ?_; refine wu_ 3 rfl (pu_eqr rfl rfl) ?_; refine wy_ 4 ?_; refine wx_ ?_
 skip
 refine go_ ?_; exact r1_ ()
end
end
section
open Go.RowKit Go.ChangeShapes Go.WideShapes Go.Deep
section
variable {H : Type} {enc : TypeId × Value → H} {w : World} {base : Nat} {spare : Nat → Bool} {held : Bool} {fuel : Nat} {cs : List Value} {x : DataW H × List MemPlace}
theorem list2vS {cs : List Value} (h : cs.length = 2) : ∃ a b, cs = [a, b] := match cs, h with
 | [a, b], _ => ⟨a, b, rfl⟩
theorem open_elS (h : DataW.trod enc Tryz.prog w base spare held fuel 102 cs = some x) : ∃ v : Int, cs = eC v ∧ El v := by
 obtain ⟨xs, m, _, _, hl, hx, hi⟩ := DataW.trod_array Tryz.underlying102 h
 have hl' : cs.length = 2 := hl.trans (by kernel_rfl)
 have hc : Tryz.prog.cellsOf 36 = 1 := by kernel_rfl
 have hone : ∀ i, i < 2 → ∃ z : Int, cs[i]? = some (.int .u64 z) ∧ 0 ≤ z ∧ z ≤ 18446744073709551615 := by
  intro i hin
  have h1 := hi i hin
  rw [hc, Nat.mul_one, List.getElem?_eq_getElem (by omega)] at h1
  obtain ⟨z, h2, _, h3⟩ := DataW.trod_int Tryz.underlying36 h1
  have h4 : 0 ≤ z ∧ z ≤ 18446744073709551615 := by simpa [Lit.wf, IntKind.min, IntKind.max, IntKind.signed, IntKind.bits] using h3
  refine ⟨z, ?_, h4⟩
  have h5 : ((cs.drop i).take 1)[0]? = some (.int .u64 z) := by rw [h2]; rfl
  simpa using h5
 obtain ⟨a, ha, ha2⟩ := hone 0 (by decide)
 obtain ⟨b, hb, hb2⟩ := hone 1 (by decide)
 obtain ⟨u1, u2, hcs⟩ : ∃ u1 u2, cs = [u1, u2] := by
  exact list2vS hl'
 rw [hcs] at ha hb
 have e1 : u1 = .int .u64 a := by simpa using ha
 have e2 : u2 = .int .u64 b := by simpa using hb
 obtain ⟨v, hv, he⟩ := el_of (a := a) (b := b) (by unfold In64; omega) (by unfold In64; omega)
 exact ⟨v, by rw [hcs, e1, e2, ← he], hv⟩
def ElsV (w : World) (v : Value) : Prop := ∃ (A : Option Addr) (c : Nat) (l : List Int), v = .slice A l.length c ∧ Reads w 2 A l.length (rows eC l) ∧ Els l ∧ l.length ≤ maxLen
theorem open_els1 (h : DataW.trod enc Tryz.prog w base spare held fuel 55 cs = some x) : ∃ v, cs = [v] ∧ ElsV w v := by
 obtain ⟨A, n, c, l, hcs, hl, hr, hk, hc, hm⟩ := open_rows (X := Int) 2 eC El Tryz.underlying55 (by kernel_rfl) (fun _ _ _ h => open_elS h) h
 subst hl; exact ⟨_, hcs, A, c, l, rfl, hr, fun v hv => (hk v hv).1, by omega⟩
def ByV (w : World) (v : Value) : Prop := ∃ (A : Option Addr) (c : Nat) (l : List Int), v = .slice A l.length c ∧ Reads w 1 A l.length (bytes l) ∧ IsBytes l ∧ l.length ≤ maxLen
theorem open_by1 (h : DataW.trod enc Tryz.prog w base spare held fuel 27 cs = some x) : ∃ v, cs = [v] ∧ ByV w v := by
 obtain ⟨v, bs, hcs, A, n, c, rfl, hr, hb, hc, hm⟩ := open_bytes Tryz.underlying27 Tryz.underlying5 (by kernel_rfl) h
 obtain rfl : bs.length = n := by have := hr.1; rw [bytes_length] at this; omega
 exact ⟨_, hcs, A, c, bs, rfl, hr, hb, by omega⟩
theorem open_acts (h : DataW.trod enc Tryz.prog w base spare held fuel 99 cs = some x) : ∃ (z0 : Int) (z1 : Int) (z2 : Int) (z3 : Value) (z4 : Value) (z5 : Int) (z6 : Int), cs = [Value.int .u8 z0] ++ ([Value.int .u8 z1] ++ ([Value.int .u8 z2] ++ ([z3] ++ ([z4] ++ ([Value.int .u8 z5] ++ ([Value.int .u16 z6] ++ [])))))) ∧ (0 ≤ z0 ∧ z0 ≤ 255) ∧ (0 ≤ z1 ∧ z1 ≤ 255) ∧ (0 ≤ z2 ∧ z2 ≤ 255) ∧ (ByV w z3) ∧ (ElsV w z4) ∧ (0 ≤ z5 ∧ z5 ≤ 255) ∧ (0 ≤ z6 ∧ z6 ≤ 65535) := by
 obtain ⟨hl, m, hf⟩ := open_struct Tryz.underlying99 h
 have hl' : cs.length = 7 := hl.trans (by kernel_rfl)
 have n0 : Tryz.prog.cellsOf 5 = 1 := by kernel_rfl
 have n1 : Tryz.prog.cellsOf 5 = 1 := by kernel_rfl
 have n2 : Tryz.prog.cellsOf 5 = 1 := by kernel_rfl
 have n3 : Tryz.prog.cellsOf 27 = 1 := by kernel_rfl
 have n4 : Tryz.prog.cellsOf 55 = 1 := by kernel_rfl
 have n5 : Tryz.prog.cellsOf 5 = 1 := by kernel_rfl
 have n6 : Tryz.prog.cellsOf 97 = 1 := by kernel_rfl
 obtain ⟨y0, e0⟩ := hf 0 _ rfl
 have f0 : DataW.trod enc Tryz.prog w base spare held m 5 ((cs.drop 0).take (Tryz.prog.cellsOf 5)) = some y0 := e0
 rw [n0] at f0
 obtain ⟨y1, e1⟩ := hf 1 _ rfl
 have f1 : DataW.trod enc Tryz.prog w base spare held m 5 ((cs.drop 1).take (Tryz.prog.cellsOf 5)) = some y1 := e1
 rw [n1] at f1
 obtain ⟨y2, e2⟩ := hf 2 _ rfl
 have f2 : DataW.trod enc Tryz.prog w base spare held m 5 ((cs.drop 2).take (Tryz.prog.cellsOf 5)) = some y2 := e2
 rw [n2] at f2
 obtain ⟨y3, e3⟩ := hf 3 _ rfl
 have f3 : DataW.trod enc Tryz.prog w base spare held m 27 ((cs.drop 3).take (Tryz.prog.cellsOf 27)) = some y3 := e3
 rw [n3] at f3
 obtain ⟨y4, e4⟩ := hf 4 _ rfl
 have f4 : DataW.trod enc Tryz.prog w base spare held m 55 ((cs.drop 4).take (Tryz.prog.cellsOf 55)) = some y4 := e4
 rw [n4] at f4
 obtain ⟨y5, e5⟩ := hf 5 _ rfl
 have f5 : DataW.trod enc Tryz.prog w base spare held m 5 ((cs.drop 5).take (Tryz.prog.cellsOf 5)) = some y5 := e5
 rw [n5] at f5
 obtain ⟨y6, e6⟩ := hf 6 _ rfl
 have f6 : DataW.trod enc Tryz.prog w base spare held m 97 ((cs.drop 6).take (Tryz.prog.cellsOf 97)) = some y6 := e6
 rw [n6] at f6
 obtain ⟨z0, g0, _, u0⟩ := DataW.trod_int Tryz.underlying5 f0
 have b0 : 0 ≤ z0 ∧ z0 ≤ 255 := by simpa [Lit.wf, IntKind.min, IntKind.max, IntKind.signed, IntKind.bits] using u0
 obtain ⟨z1, g1, _, u1⟩ := DataW.trod_int Tryz.underlying5 f1
 have b1 : 0 ≤ z1 ∧ z1 ≤ 255 := by simpa [Lit.wf, IntKind.min, IntKind.max, IntKind.signed, IntKind.bits] using u1
 obtain ⟨z2, g2, _, u2⟩ := DataW.trod_int Tryz.underlying5 f2
 have b2 : 0 ≤ z2 ∧ z2 ≤ 255 := by simpa [Lit.wf, IntKind.min, IntKind.max, IntKind.signed, IntKind.bits] using u2
 obtain ⟨z3, g3, b3⟩ := open_by1 f3
 obtain ⟨z4, g4, b4⟩ := open_els1 f4
 obtain ⟨z5, g5, _, u5⟩ := DataW.trod_int Tryz.underlying5 f5
 have b5 : 0 ≤ z5 ∧ z5 ≤ 255 := by simpa [Lit.wf, IntKind.min, IntKind.max, IntKind.signed, IntKind.bits] using u5
 obtain ⟨z6, g6, _, u6⟩ := DataW.trod_int Tryz.underlying97 f6
 have b6 : 0 ≤ z6 ∧ z6 ≤ 65535 := by simpa [Lit.wf, IntKind.min, IntKind.max, IntKind.signed, IntKind.bits] using u6
 have hp : cs = (cs.drop 0).take 1 ++ ((cs.drop 1).take 1 ++ ((cs.drop 2).take 1 ++ ((cs.drop 3).take 1 ++ ((cs.drop 4).take 1 ++ ((cs.drop 5).take 1 ++ ((cs.drop 6).take 1 ++ [])))))) := by
  rw [← piece_end hl', ← piece 6 1 7 rfl, ← piece 5 1 6 rfl, ← piece 4 1 5 rfl, ← piece 3 1 4 rfl, ← piece 2 1 3 rfl, ← piece 1 1 2 rfl, ← piece 0 1 1 rfl, List.drop_zero]
 rw [g0, g1, g2, g3, g4, g5, g6] at hp
 exact ⟨z0, z1, z2, z3, z4, z5, z6, hp, b0, b1, b2, b3, b4, b5, b6⟩
def Ax.okW (w : World) (a : Ax) : Prop := (0 ≤ a.kd ∧ a.kd ≤ 255) ∧ (0 ≤ a.ib ∧ a.ib ≤ 255) ∧ (0 ≤ a.tm ∧ a.tm ≤ 255) ∧ (Reads w 1 a.bA a.b.length (bytes a.b) ∧ IsBytes a.b ∧ a.b.length ≤ maxLen) ∧ (Reads w 2 a.oA a.o.length (rows eC a.o) ∧ Els a.o ∧ a.o.length ≤ maxLen) ∧ (0 ≤ a.co ∧ a.co ≤ 255) ∧ (0 ≤ a.kp ∧ a.kp ≤ 65535)
instance : Inhabited Ax := ⟨⟨0, 0, 0, none, 0, [], none, 0, [], 0, 0⟩⟩
theorem open_ax (h : DataW.trod enc Tryz.prog w base spare held fuel 99 cs = some x) : ∃ a : Ax, cs = a.C ∧ a.okW w := by
 obtain ⟨z0, z1, z2, z3, z4, z5, z6, hcs, b0, b1, b2, ⟨bA, bc, b, rfl, r1⟩, ⟨oA, oc, o, rfl, r2⟩, b5, b6⟩ := open_acts h
 exact ⟨⟨z0, z1, z2, bA, bc, b, oA, oc, o, z5, z6⟩, hcs, b0, b1, b2, r1, r2, b5, b6⟩
def AxsV (w : World) (v : Value) : Prop := ∃ (R : Option Addr) (c : Nat) (xs : List Ax), v = .slice R xs.length c ∧ Reads w 7 R xs.length (rows Ax.C xs) ∧ (∀ a ∈ xs, a.okW w) ∧ xs.length ≤ maxLen
theorem open_axs {v : Value} (h : DataW.trod enc Tryz.prog w base spare held fuel 88 v.cells.toList = some x) (hv : ∃ A n c, v = .slice A n c) : AxsV w v := by
 obtain ⟨A0, n0, c0, rfl⟩ := hv
 obtain ⟨A, n, c, xs, hcs, hl, hr, hk, hc, hm⟩ := open_rows (X := Ax) 7 Ax.C (fun b => b.okW w) Tryz.underlying88 (by kernel_rfl) (fun _ _ _ h => open_ax h) h
 subst hl
 have hcs' : Value.slice A0 n0 c0 = .slice A xs.length c := by simpa [Value.cells] using hcs
 exact ⟨A, c, xs, hcs', hr, fun x hx => (hk x hx).1, by omega⟩
end
theorem StorePlays_v (v0 v1 v3 : Value) (m : Int) (W : World) (o0 : SkV W v0) (o1 : Sm19V W v1) (hm : 0 ≤ m ∧ m ≤ 255) (o3 : AxsV W v3) : Calls Tryz.prog 5 #[v0, v1, .int .u8 m, v3] W fun e w' => e = .returned (.bool true) ∧ Fr Nil W w' := by
 obtain ⟨s, rfl⟩ := o0
 obtain ⟨a, b, c, rfl, ha, hb, hc⟩ := o1
 obtain ⟨R, cq, xs, rfl, h1, h2, h3⟩ := o3
 refine Fn.top (storeplays_walk ha hb hc hm (Vw.of_old .here h1) h3 (fun x hx => ?_))
 obtain ⟨b0, b1, b2, ⟨r1, r2, r3⟩, ⟨r4, r5, r6⟩, b5, b6⟩ := h2 x hx
 exact ⟨⟨b0, b1, b2, Vw.of_old .here r1, r2, Vw.of_old .here r4, r5, b5, b6⟩, r3, r6⟩
end
end Go.Proofs.YtocaabnbmcpjmaaGreat
