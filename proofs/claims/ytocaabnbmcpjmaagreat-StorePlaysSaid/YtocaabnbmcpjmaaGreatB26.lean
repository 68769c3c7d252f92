/- Several texts of one claim, one behind the other. -/
import Derived.Test.YtocaabnbmcpjmaaGreatB25
import Derived.Test.YtocaabnbmcpjmaaGreatB05
set_option linter.unusedVariables false
set_option linter.unusedSimpArgs false
set_option maxRecDepth 100000
set_option maxHeartbeats 16000000
namespace Go.Proofs.YtocaabnbmcpjmaaGreat
variable {φ ψ : Prop}
section
open Go.RowKit Go.MapKept
attribute [local irreducible] Go.Calls Go.Exit.then Go.Exit.inBlock Go.bodyPost Go.Code.wp Go.wpList takeL recordL hashL recL allL decR ofId addV xorI gotB gotF Ax.C
section
theorem fake_file {ls : List (List Int)} {x : List Int} {σ : Nat} {f : DF} (h : JFl ls σ f) : JFl (ls ++ [x]) σ { f with l := allL (ls ++ [x]) } := by
 obtain ⟨h1, h2, h3, h4⟩ := h
 refine ⟨h1, rfl, ?_, h4⟩
 show f.sy ≤ (allL (ls ++ [x])).length
 rw [allL_len, cellsA_snoc]
 rw [h2, allL_len] at h3
 omega
theorem mv_nil {K : List Fa} {M : Md} {A : Option Addr} {c : Nat} {sn : Seen} {id : Id} {tm : Int} {bn : Nat} (hv : MV K M) : MV K (M.acc A c sn ⟨id, tm, none, 0, [], none, 0, [], bn⟩) := by
 refine ⟨fun w hw => ?_, fun w hw => ?_, hv.b⟩
 ·rcases List.mem_append.1 hw with h | h
  ·exact hv.p w h
  ·rw [List.mem_singleton.1 h]; exact fun w hw => ⟨rfl, fun h => absurd h (Nat.lt_irrefl 0)⟩
 ·rcases List.mem_append.1 hw with h | h
  ·exact hv.s w h
  ·rw [List.mem_singleton.1 h]; exact fun w hw => ⟨rfl, fun h => absurd h (Nat.lt_irrefl 0)⟩
namespace pVk8
theorem nthx_ (h : φ := by first | exact Ax.n5 _ | exact Ax.n4 _ | exact Ax.n3 _ | rfl) : φ := h
theorem midx_ (h : φ := by first | exact rpC_id | exact Mid.all) : φ := h
theorem szx_ (h : φ := by ((try simp only [rpC_len, bytes_length, Id.len, eC_len]); (first | done | rfl); first | done | fail)) : φ := h
theorem onex_ (h : φ := by first | exact one_bytes _ | exact rpC_one rfl rfl | exact Ax.one _) : φ := h
end pVk8
open pVk8
section
variable {t : Ta} {r : Rl} {lim now : Int} {K : List Fa} {z : PS} {g9 g10 gd md na cq g18 g20 : Nat} {QA : Option Addr} {x : Ax} {id : Id} {M : Md} {Q' : Exit → Act → World → Prop}
theorem pRef (T : TR_ t r lim) (hz : PC t r lim K z z.Ms) (hr : RowOk z) (hcb : z.cb ≤ 13000) (hm : Hm M (runE t r z.rs).1) (hv : MV (star z.pl :: K) M) (hx : AxOk K x) (hnow : 0 ≤ now ∧ now ≤ 39) (hN : NoP Q')
  (hA : ∀ {l : Env} {L : List Fa} (z' : PS) (M' : Md), PC t r lim K z' (z'.Ms ++ [M']) → RowOk z' → z'.i = z.i ∧ z'.cb ≤ z.cb + 170 ∧ z'.lm = z.lm → Has l (pM g9 g10 gd na cq lim QA z' (.pointer (some ⟨M'.g, 0, none⟩)) 0 1) → Sub L (mdF t r lim M' (pH t r lim g9 g10 gd md z' K)) → SE Q' .normal 351 l L)
  (hB : ∀ {l : Env} {L : List Fa} (z' : PS) (v19 : Value) (e nt : Int), PC t r lim K z' z'.Ms → RowOk z' → z'.i = z.i ∧ z'.cb ≤ z.cb + 170 ∧ z'.lm ≤ z.lm + 1 → (e ≠ 0 ∨ nt ≠ 1) → Has l (pM g9 g10 gd na cq lim QA z' v19 e nt) → Sub L (pH t r lim g9 g10 gd md z' K) → SE Q' .normal 351 l L) :
  SC Tryz.prog (cAt [false, false, false, false, false, false, false, false, false, true, false, true, true, false, false, true, true, false, false, false, false, false, true, false, true, false, false, false, false, false, true] (fb Tryz.f5)) Q' 351 (pK g9 g10 gd na cq lim QA z g18 M.g g20 now) (kH t r lim g9 g10 gd md z g18 g20 x id M K) := by
 have hga := hz.ga T
 have hmn := hm.n
 have hgn := hga.n
 have hl1 := T.l1
 have hcl := hz.cl
 have hcl' : cellsA (z.rs.map (Evt.by_ t)) ≤ 14000 := by have : cellsA (z.rs.map (Evt.by_ t)) ≤ z.cb := hcl; omega
 have hel := hz.len
 have hrl := cells_len (z.ls t)
 rw [List.length_map] at hrl
 have hco := hx.co
 obtain ⟨c, hcx⟩ : ∃ c, x.co % 34 = c := ⟨_, rfl⟩
 have hc : 0 ≤ c ∧ c ≤ 255 := by omega
 refine go_ ?_; rw [hcx]
 by_cases he : refA r lim (runE t r z.rs).1 id now c = 0
 case neg =>
  have hno := sRefuse_no (K := blk g18 99 x.C :: blk g20 47 (bytes id.l) :: mdF t r lim M (blk g9 34 t.c :: blk g10 38 r.c :: blk z.rw.g 89 z.rw.cur :: mds t r lim z.Ms :: star z.pl :: K)) (g := z.gu) (gd := gd) (md := md) (ckd := z.ck) (q := z.q) (rs := z.rs) (f := z.f) (id := id) (tm := now) T hz.hq hga ⟨hnow.1, by omega⟩ hc he
  refine slc_ rfl rfl sub_ hno ?_; rintro _ -
  by_cases hbad : c ≤ 0 ∨ c = 30 ∨ 31 < c
  ·have hrf : refA r lim (runE t r z.rs).1 id now c = 10 := by unfold refA; rw [if_pos hbad]
   rw [hrf]
   by_cases h1 : c < 1
   ·refine go_ ?_; exact hB z _ 10 1 hz hr ⟨rfl, by omega, by omega⟩ (.inl (by decide)) has_ sub_
   by_cases h3 : 31 < c
   ·refine go_ ?_; exact hB z _ 10 1 hz hr ⟨rfl, by omega, by omega⟩ (.inl (by decide)) has_ sub_
   have h2 : c = 30 := by omega
   refine go_ ?_; exact hB z _ 10 1 hz hr ⟨rfl, by omega, by omega⟩ (.inl (by decide)) has_ sub_
  ·have h1 : ¬ c < 1 := by omega
   have h2 : ¬ 31 < c := by omega
   have h3 : c ≠ 30 := by omega
   have hrf : refA r lim (runE t r z.rs).1 id now c = accA r lim (runE t r z.rs).1 id now := by unfold refA; rw [if_neg hbad]
   rw [hrf] at he ⊢
   have hmno := fun K' => maccept_no (K := K') (t := t) (r := r) (lim := lim) (M := M) (id := id) (tm := now) (P := .slice none 0 0) (S := .slice none 0 0) rfl rfl T.w ⟨hnow.1, by omega⟩ (by omega) (by rw [maccE_A hm]; exact he)
   rw [maccE_A hm] at hmno
   refine go_ ?_; refine sl_pu (pu_build rfl (build_rp2 id now)) rfl ?_; refine go_ ?_; refine slc_ rfl rfl sub_ (hmno (blk g18 99 x.C :: blk g20 47 (bytes id.l) :: pJ t r lim gd md z (blk g9 34 t.c :: blk g10 38 r.c :: blk z.rw.g 89 z.rw.cur :: mds t r lim z.Ms :: star z.pl :: K))) ?_; rintro _ -; refine go_ ?_; exact hB z _ _ 1 hz hr ⟨rfl, by omega, by omega⟩ (.inl he) has_ sub_
 have hbad : ¬ (c ≤ 0 ∨ c = 30 ∨ 31 < c) := fun h => by unfold refA at he; rw [if_pos h] at he; cases he
 have hac : accA r lim (runE t r z.rs).1 id now = 0 := by unfold refA at he; rwa [if_neg hbad] at he
 have h1 : ¬ c < 1 := by omega
 have h2 : ¬ 31 < c := by omega
 have h3 : c ≠ 30 := by omega
 obtain ⟨hcan1, hcan2, href⟩ := sRefuse_yes (K := blk g18 99 x.C :: blk g20 47 (bytes id.l) :: mdF t r lim M (blk g9 34 t.c :: blk g10 38 r.c :: blk z.rw.g 89 z.rw.cur :: mds t r lim z.Ms :: star z.pl :: K)) (g := z.gu) (gd := gd) (md := md) (ckd := z.ck) (q := z.q) (rs := z.rs) (f := z.f) (id := id) (tm := now) (c := c) T hz.hq hga ⟨hnow.1, by omega⟩ hc he hz.jf hcl'
 have hse := hcan1.1
 have hnl := hcan1.2.1
 refine slc_ rfl rfl sub_ href ?_; rintro y hy; refine go_ ?_; refine sl_pu (pu_build rfl (build_rp2 id now)) rfl ?_; refine go_ ?_; refine slc_ rfl rfl sub_ (maccept_ok (K := blk g18 99 x.C :: blk g20 47 (bytes id.l) :: stH t r lim z.gu gd md (z.rs ++ [.acc id now [] []] ++ [.rej id c]) (blk g9 34 t.c :: blk g10 38 r.c :: blk z.rw.g 89 z.rw.cur :: mds t r lim z.Ms :: star z.pl :: K) y) (t := t) (r := r) (lim := lim) (M := M) (id := id) (tm := now) (pA := none) (pc := 0) (p := []) (sA := none) (sc := 0) (s := []) T.w ⟨hnow.1, by omega⟩ ⟨hnow.1, by omega⟩ (by omega) (by rw [maccE_A hm]; exact hac) (kf_none' (hm.wnone (hga.nowait hse).1))) ?_; rintro ⟨A3, c3⟩ -; dsimp only
 obtain ⟨M1, hM1⟩ : ∃ M1, M1 = M.acc A3 c3 ⟨id, now, 30, ⟨hnow.1, by omega⟩, by decide⟩ ⟨id, now, none, 0, [], none, 0, [], M.cw⟩ := ⟨_, rfl⟩
 rw [← hM1]
 have hg1 : M1.g = M.g := by rw [hM1]; rfl
 have hm1 : Hm M1 ((Evt.acc id now [] []).go t r (runE t r z.rs)).1 := by rw [hM1]; exact hm.acc hse (hga.nowait hse).1 rfl rfl
 have hv1 : MV (star z.pl :: K) M1 := by rw [hM1]; exact mv_nil hv
 have hn1 : M1.ss.length ≤ 1000 := by rw [hM1]; show (M.ss ++ [_]).length ≤ 1000; rw [List.length_append, List.length_singleton]; omega
 rw [← hg1]; refine go_ ?_; refine slc_ rfl rfl sub_ (mcopied_ok (K := blk g18 99 x.C :: blk g20 47 (bytes id.l) :: stH t r lim z.gu gd md (z.rs ++ [.acc id now [] []] ++ [.rej id c]) (blk g9 34 t.c :: blk g10 38 r.c :: blk z.rw.g 89 z.rw.cur :: mds t r lim z.Ms :: star z.pl :: K) y) (t := t) (r := r) (lim := lim) (M := M1) hn1) ?_; rintro Mc hMc; refine go_ ?_; refine sl_build (size := 1) (e := 89) (cells := [.pointer (some ⟨Mc.g, 0, none⟩)]) rfl (fun W => by kernel_rfl) rfl (by decide) rfl ?_; intro gb; refine sl_appT (r := z.rw) (k := z.Ms.length) (v := .pointer (some ⟨Mc.g, 0, none⟩)) rfl hr.ok pick_ rfl (Vw.of_own (A := some ⟨gb, 0, none⟩) (c := 1) (e := 89) at_) rfl rfl infoPt (by decide) rfl (by unfold maxLen; omega) (by omega) ?_
 intro r' hr1 hr2
 refine go_ ?_
 obtain ⟨hn, -⟩ | ⟨X, s, Y, hX, hsi, hp, -⟩ := hm_pos (id := id) hm1
 ·have : ((Evt.acc id now [] []).go t r (runE t r z.rs)).1.seen id = some (now, 30) := updI_self
  rw [this] at hn
  cases hn
 have hw1 : (((Evt.acc id now [] []).go t r (runE t r z.rs)).1.wait id).isSome = true := by
  have : ((Evt.acc id now [] []).go t r (runE t r z.rs)).1.wait id = some (now, [], []) := updI_self
  rw [this]
  rfl
 have hre : mrejE M1.ws id c = 0 := by
  rw [mrejE_A hm1]
  unfold rejA
  rw [if_pos hw1, if_neg hbad]
 refine slc_ rfl rfl sub_ (mreject_ok (K := mdF t r lim Mc (blk g18 99 x.C :: blk g20 47 (bytes id.l) :: stH t r lim z.gu gd md (z.rs ++ [.acc id now [] []] ++ [.rej id c]) (blk g9 34 t.c :: blk g10 38 r.c :: blk r'.g 89 r'.cur :: mds t r lim z.Ms :: star z.pl :: K) y)) (t := t) (r := r) (lim := lim) (c := c) (M := M1) (id := id) (X := X) (s := s) (Y := Y) (hc := ⟨by omega, by omega⟩) hn1 hre hX hp) ?_; rintro _ -; refine go_ ?_
 obtain ⟨M2, hM2⟩ : ∃ M2 : Md, M2 = { M1 with ss := X ++ setC s c ⟨by omega, by omega⟩ :: Y, ws := wdel M1.ws id } := ⟨_, rfl⟩
 have hm2 : Hm M2 ((Evt.rej id c).go t r ((Evt.acc id now [] []).go t r (runE t r z.rs))).1 := by rw [hM2]; exact hm1.rej hX hsi hw1
 have hv2 : MV (star z.pl :: K) M2 := by
  rw [hM2]; exact ⟨fun u hu => hv1.p u (List.mem_of_mem_eraseP hu), fun u hu => hv1.s u (List.mem_of_mem_eraseP hu), hv1.b⟩
 have hac1 := hz.hq.acc (A1 := none) (c1 := 0) (ht := ⟨hnow.1, by omega⟩) (w := ⟨id, now, none, 0, [], none, 0, [], z.q.cw⟩) hse (hga.nowait hse).1 hnl (by omega) rfl rfl
 have hp1 := hz.step (M := Mc) (pl' := z.pl) (y := ⟨z.q.acc lim ⟨id, now, 30, ⟨hnow.1, by omega⟩, by decide⟩ none 0 ⟨id, now, none, 0, [], none, 0, [], z.q.cw⟩, { z.f with l := allL (z.ls t ++ [(Evt.acc id now [] []).by_ t]) }, 0⟩) T hcan1 (fun a => rfl) ⟨hac1.2, rfl, by rw [map_snoc_by]; exact fake_file hz.jf⟩ (hMc.hm hm1) (fun φ h => h) (hMc.mv hv1)
 have hp2 := hp1.step (M := M2) (pl' := z.pl) (y := y) T hcan2 (fun a => rfl) ⟨hy.hq, hy.ql, by
   have h9 := hy.jf
   have hk := hz.k0
   have hne : 0 < z.Ms.length := List.length_pos_iff.2 hz.ne
   dsimp only
   rw [List.take_append_of_le_length (by omega)]
   exact h9⟩ (by
     dsimp only
     rw [runE_snoc]
     exact hm2) (fun φ h => h) hv2
 have hrow : RowOk { z with q := y.q, f := y.f, ck := y.ck, rw := r', Ms := z.Ms ++ [Mc], rs := z.rs ++ [.acc id now [] []] ++ [.rej id c], cb := z.cb + 84 + 84 } :=
  ⟨by show r'.ok (z.Ms ++ [Mc]).length; rw [List.length_append]; exact hr1, by show r'.xs (z.Ms ++ [Mc]).length = _; rw [List.length_append, List.length_singleton, hr2, hr.xs]; simp⟩
 rw [show z.Ms.length + 1 = (z.Ms ++ [Mc]).length by simp]; refine se_ent (L' := mds t r lim (z.Ms ++ [Mc]) :: mdF t r lim M2 (stH t r lim z.gu gd md (z.rs ++ [.acc id now [] []] ++ [.rej id c]) (blk g9 34 t.c :: blk g10 38 r.c :: blk r'.g 89 r'.cur :: star z.pl :: K) y)) ?_ ?_
 ·intro w hw
  have h9 : Sep w (mdF t r lim Mc (mds t r lim (z.Ms ++ []) :: mdF t r lim M2 (stH t r lim z.gu gd md (z.rs ++ [.acc id now [] []] ++ [.rej id c]) (blk g9 34 t.c :: blk g10 38 r.c :: blk r'.g 89 r'.cur :: star z.pl :: K) y))) := hw.sub (by rw [List.append_nil, hM2]; exact sub_)
  exact mds_in (X := z.Ms) (Y := []) w h9
 exact hA { z with q := y.q, f := y.f, ck := y.ck, rw := r', Ms := z.Ms ++ [Mc], rs := z.rs ++ [.acc id now [] []] ++ [.rej id c], cb := z.cb + 84 + 84 } M2 ⟨hp2.can, hp2.hq, hp2.ql, hp2.lf, hp2.ne, hp2.k0, hp2.ms, hp2.mv, hp2.jf, hp2.cl, hp2.lb⟩ hrow ⟨rfl, by show z.cb + 84 + 84 ≤ _; omega, rfl⟩ (by rw [hM2]; exact has_) sub_
end
end
section
theorem pu_fieldS {P : Program} {C : World → Prop} {n : Nat} {l : Env} {ty t : TypeId} {x : Operand} {cs : List Value} {v : Value} {i : Nat} {fs : List Field} {f : Field} (hx : ev l x = some (.agg cs.toArray)) (ht : P.underlying t = some (.struct fs.toArray)) (hf : fs[i]? = some f) (hp : ∀ W, (part f.type cs.toArray f.offset).run P W = .ok v W) : Pu P C n l (.field t x i) ty v := by
 unfold Pu
 intro a _ _ _ _ W hs _
 simp only [execOp, hs.ev hx]
 simp [Instr.field, run_underlying ht, hf, asAgg, hp W]
section
variable {t : Ta} {r : Rl} {lim st : Int} {K : List Fa} {g gd md σ ckd : Nat} {q : StM} {rs : List Evt} {f : DF} {v : List Int × Int × Id × Bool}
theorem sClose_yes (T : TR_ t r lim) (hq : Hq q (runE t r rs).1) (hg : GA t r lim (runE t r rs).1) (hv : (runE t r rs).1.win st = some v) (hcl : v.2.2.2 = false) (h0 : 0 ≤ st) (he : closeA r (runE t r rs).1 st = 0) (hJ : JFl (rs.map (Evt.by_ t)) σ f) (hc : cellsA (rs.map (Evt.by_ t)) ≤ 14000) :
  (Evt.shut st).can t r lim (runE t r rs) ∧ Fn Tryz.prog 14 #[.pointer (some ⟨g, 0, none⟩), .int .u64 st] (sF g t r lim q (jC q.gj gd sj (cellsA (rs.map (Evt.by_ t))) :: dB gd md 1048576 :: dM md [f] ckd :: dS [f] :: K))
   (Ret (fun z : StR × Option Addr × Nat => StP t r rs (.shut st) σ q z.1) (fun z => .tuple #[.agg (tc z.2.1 v.1.length z.2.2 v.2.1 v.2.2.1).toArray, .int .i64 0]) (fun z => eo z.2.1 v.1.length z.2.2 v.1 :: stH t r lim g gd md (rs ++ [.shut st]) K z.1)) := by
 have hcan : (Evt.shut st).can t r lim (runE t r rs) := ⟨h0, he⟩
 obtain ⟨b, hf, hbm, hbs, h1, h2, h3, h4⟩ := hq.hd.bsome hv
 obtain ⟨X, Y, hX⟩ := List.append_of_mem hbm
 have hb := hq.fsok hg b hbm
 have hol := t.out_le T.te
 refine ⟨hcan, ?_⟩
 have hs := sClose_new (K := K) (g := g) (gd := gd) (md := md) (σ := σ) (ckd := ckd) (t := t) (r := r) (lim := lim) (limd := 1048576) (s := st) (q := q) (ls := rs.map (Evt.by_ t)) (fs := [f]) T.w h0 hX (by rw [← hX]; exact hf) (by rw [h4]; exact hcl) (by rw [← hX, hq.hd.close]; exact he) (by omega) hJ.st (by omega) (by omega) (by decide)
 rw [h1, h2, h3] at hs
 refine hs.say fun z w hz hw => ⟨(⟨q.shutd X Y b, z.f, z.ck⟩, z.A, z.c), ⟨?_, rfl, ?_⟩, rfl, ?_⟩
 ·have := hq.shut hX
  rw [hbs] at this
  exact this
 ·rw [map_snoc_by]; exact hz
 ·dsimp only
  unfold stH
  rw [map_snoc_by]; exact hw
theorem sClose_again (T : TR_ t r lim) (hq : Hq q (runE t r rs).1) (hg : GA t r lim (runE t r rs).1) (hv : (runE t r rs).1.win st = some v) (hcl : v.2.2.2 = true) (h0 : 0 ≤ st) :
  Fn Tryz.prog 14 #[.pointer (some ⟨g, 0, none⟩), .int .u64 st] (sF g t r lim q K)
   (Ret (fun _ : Option Addr × Nat => True) (fun z => .tuple #[.agg (tc z.1 v.1.length z.2 v.2.1 v.2.2.1).toArray, .int .i64 0]) (fun z => eo z.1 v.1.length z.2 v.1 :: sF g t r lim q K)) := by
 obtain ⟨b, hf, hbm, hbs, h1, h2, h3, h4⟩ := hq.hd.bsome hv
 obtain ⟨X, Y, hX⟩ := List.append_of_mem hbm
 have hb := hq.fsok hg b hbm
 have hol := t.out_le T.te
 obtain ⟨-, -, -, -, k5⟩ := hg.b1 _ _ hv
 obtain ⟨k6, k7, k8⟩ := k5 hcl
 have he : closeA r (runE t r rs).1 st = 0 := by
  unfold closeA
  rw [if_neg (by omega), hv]; exact if_neg (by omega)
 have hs := sClose_old (K := K) (g := g) (t := t) (r := r) (lim := lim) (s := st) (q := q) T.w h0 hX (by rw [← hX]; exact hf) (by rw [h4]; exact hcl) (by rw [← hX, hq.hd.close]; exact he) (by omega)
 rw [h1, h2, h3] at hs
 exact hs
theorem sClose_err (T : TR_ t r lim) (hq : Hq q (runE t r rs).1) (hg : GA t r lim (runE t r rs).1) (hcl : ∀ v, (runE t r rs).1.win st = some v → v.2.2.2 = false) (h0 : 0 ≤ st ∧ st ≤ 18446744073709551615) (he : closeA r (runE t r rs).1 st ≠ 0) :
  Fn Tryz.prog 14 #[.pointer (some ⟨g, 0, none⟩), .int .u64 st] (sF g t r lim q K) (Ret (fun _ : Unit => True) (fun _ => .tuple #[.agg tz.toArray, .int .i64 (closeA r (runE t r rs).1 st)]) (fun _ => sF g t r lim q K)) := by
 have hE := hq.hd.close r st
 have hol := t.out_le T.te
 have hs := sClose_no (K := K) (g := g) (t := t) (r := r) (lim := lim) (s := st) (q := q) T.w h0 (fun b hb => by have := (hq.fsok hg b hb).2.1; omega) (by rw [hE]; exact he) (fun b hb => by
   obtain ⟨h1, h2⟩ := bfind_some hb
   have h3 := hq.hd.bof h1
   rw [h2] at h3
   exact hcl _ h3)
 rw [hE] at hs
 exact hs
end
theorem st_small {r : Rl} {now : Int} (hw : 0 ≤ r.w) (h : 0 ≤ now ∧ now ≤ 39) : 0 ≤ stN r.w now ∧ stN r.w now ≤ 39 := by
 have := stN_le hw h.1
 omega
namespace pVk9
theorem nthx_ (h : φ := by first | exact bkC_n0 | exact bkC_n1 | exact bkC_n2 | exact bkC_n19' | exact Ax.n5 _ | exact Ax.n4 _ | exact Ax.n3 _ | rfl) : φ := h
theorem midx_ (h : φ := by first | exact mdC_t | exact mdC_r | exact bkC_mid | exact tc_mid | exact Mid.all) : φ := h
theorem szx_ (h : φ := by ((try simp only [rpC_len, bytes_length, Id.len, eC_len, bkC_len tc_len, tc_len]); (first | done | rfl); first | done | fail)) : φ := h
theorem onex_ (h : φ := by first | exact one_bytes _ | exact rpC_one rfl rfl | exact Ax.one _ | exact bkC_one tc_one | exact tc_one) : φ := h
end pVk9
open pVk9
section
variable {t : Ta} {r : Rl} {lim now st : Int} {K : List Fa} {z : PS} {g9 g10 gd md na cq g18 g20 : Nat} {QA : Option Addr} {x : Ax} {id : Id} {M : Md} {Q' : Exit → Act → World → Prop}
theorem o1_Vk9 (h : φ := by exact hB z _ _ 1 hz hr ⟨rfl, by omega, by omega⟩ (.inl hne) has_ sub_) : φ := h
theorem e1_Vk9 (h : φ := by (refine wy_ 13 ?_; refine wx_ ?_; refine go_ ?_; exact o1_Vk9)) : φ := h
theorem pCloB (T : TR_ t r lim) (hz : PC t r lim K z z.Ms) (hr : RowOk z) (hcb : z.cb ≤ 13000) (hm : Hm M (runE t r z.rs).1) (hv : MV (star z.pl :: K) M) (hst : 0 ≤ st ∧ st ≤ 39) (hN : NoP Q')
  (hA : ∀ {l : Env} {L : List Fa} (z' : PS) (M' : Md), PC t r lim K z' (z'.Ms ++ [M']) → RowOk z' → z'.i = z.i ∧ z'.cb ≤ z.cb + 170 ∧ z'.lm = z.lm → Has l (pM g9 g10 gd na cq lim QA z' (.pointer (some ⟨M'.g, 0, none⟩)) 0 1) → Sub L (mdF t r lim M' (pH t r lim g9 g10 gd md z' K)) → SE Q' .normal 351 l L)
  (hB : ∀ {l : Env} {L : List Fa} (z' : PS) (v19 : Value) (e nt : Int), PC t r lim K z' z'.Ms → RowOk z' → z'.i = z.i ∧ z'.cb ≤ z.cb + 170 ∧ z'.lm ≤ z.lm + 1 → (e ≠ 0 ∨ nt ≠ 1) → Has l (pM g9 g10 gd na cq lim QA z' v19 e nt) → Sub L (pH t r lim g9 g10 gd md z' K) → SE Q' .normal 351 l L) :
  SC Tryz.prog (cAt [false, false, false, false, false, false, false, false, false, true, false, true, true, false, false, true, true, false, false, false, false, false, true, false, true, false, false, false, false, false, false, false, true, false, false] (fb Tryz.f5)) Q' 351 ((29, .int .u64 st) :: (19, .pointer (some ⟨M.g, 0, none⟩)) :: (24, .int .i64 1) :: pE g9 g10 gd na cq lim QA z) (mdF t r lim M (pH t r lim g9 g10 gd md z K)) := by
 have hga := hz.ga T
 have hol := t.out_le T.te
 have hcl := hz.cl
 have hcl' : cellsA (z.rs.map (Evt.by_ t)) ≤ 14000 := by have : cellsA (z.rs.map (Evt.by_ t)) ≤ z.cb := hcl; omega
 have hE := hm.close r st
 cases hw : (runE t r z.rs).1.win st with
 | none =>
  have hbn : bfind M.fs st = none := kf_none' (hm.bnone hw)
  have hno := bno hbn
  have hne : closeA r (runE t r z.rs).1 st ≠ 0 := fun h => by
   obtain ⟨-, -, b, hb, -⟩ := closeA_0 h
   rw [hw] at hb
   cases hb
  have hclo := sClose_err (K := jC z.q.gj gd sj (cellsA (z.rs.map (Evt.by_ t))) :: dB gd md 1048576 :: dM md [z.f] z.ck :: dS [z.f] :: mdF t r lim M (blk g9 34 t.c :: blk g10 38 r.c :: blk z.rw.g 89 z.rw.cur :: mds t r lim z.Ms :: star z.pl :: K)) (g := z.gu) (st := st) T hz.hq hga (fun v hv => by rw [hw] at hv; cases hv) ⟨hst.1, by omega⟩ hne
  have hms := fun K' => mshut_no (K := K') (t := t) (r := r) (lim := lim) (s := st) (M := M) T.w ⟨hst.1, by omega⟩ (fun b hb => by rw [hbn] at hb; cases hb) (by rw [hE]; exact hne)
  rw [hE] at hms
  refine go_ ?_; refine slc_ rfl rfl sub_ hclo ?_; rintro _ -; refine go_ ?_; refine al_ ?_; intro g30; refine new_tc ?_; refine go_ ?_; refine al_ ?_; intro g32; refine go_ ?_; refine slc_ rfl rfl sub_ (hms (blk g30 58 tz :: blk g32 70 bzL :: pJ t r lim gd md z (blk g9 34 t.c :: blk g10 38 r.c :: blk z.rw.g 89 z.rw.cur :: mds t r lim z.Ms :: star z.pl :: K))) ?_; rintro _ -; refine go_ ?_; refine dr_ [] 14 ?_; refine y2_ 0 1 ?_; refine wy_ 2 ?_
  first | refine wy_ 4 ?_ | refine wo_ 4 ?_ | refine wp_ 4 ?_
  first | refine wy_ 5 ?_ | refine wo_ 5 ?_ | refine wp_ 5 ?_
  first | refine wy_ 6 ?_ | refine wo_ 6 ?_ | refine wp_ 6 ?_
  first | refine wy_ 7 ?_ | refine wo_ 7 ?_ | refine wp_ 7 ?_
  first | refine wy_ 8 ?_ | refine wo_ 8 ?_ | refine wp_ 8 ?_
  refine w2_ 3 9 ?_ ?_
  ·refine sl_no rfl rfl rfl ?_; refine v1_ 9 ?_; refine sl_no rfl rfl rfl ?_; refine v1_ 10 ?_; refine sl_no rfl rfl rfl ?_; refine v1_ 11 ?_; refine sl_no rfl rfl rfl ?_; refine wn_ ?_
   first | refine wy_ 12 ?_ | refine wo_ 12 ?_ | refine wp_ 12 ?_
   exact e1_Vk9
  ·refine sl_no rfl rfl rfl ?_; refine v2_ 3 10 ?_ ?_
   ·refine sl_no rfl rfl rfl ?_; refine v1_ 10 ?_; refine sl_no rfl rfl rfl ?_; refine v1_ 11 ?_; refine sl_no rfl rfl rfl ?_; refine wn_ ?_
    first | refine wy_ 12 ?_ | refine wo_ 12 ?_ | refine wp_ 12 ?_
    exact e1_Vk9
   ·refine sl_no rfl rfl rfl ?_; refine v1_ 3 ?_; refine sl_no rfl rfl rfl ?_; refine v1_ 11 ?_; refine sl_no rfl rfl rfl ?_; refine wn_ ?_
    first | refine wy_ 12 ?_ | refine wo_ 12 ?_ | refine wp_ 12 ?_
    exact e1_Vk9
 | some v =>
  obtain ⟨b, hbf, hbm, hbs, b1, b2, b3, b4⟩ := hm.bsome hw
  have hg := bget hbm
  rw [hbs] at hg
  have hvl : v.1.length ≤ 1000000 := by have := (hga.b1 _ _ hw).1; omega
  have hsm : v.1 = b.l ∧ v.2.1 = b.m ∧ v.2.2.1.l = b.k.l := ⟨b1.symm, b2.symm, by rw [b3]⟩
  cases hcv : v.2.2.2 with
  | true =>
   rw [hcv] at b4
   rw [b4] at hg
   have hclo := sClose_again (K := jC z.q.gj gd sj (cellsA (z.rs.map (Evt.by_ t))) :: dB gd md 1048576 :: dM md [z.f] z.ck :: dS [z.f] :: mdF t r lim M (blk g9 34 t.c :: blk g10 38 r.c :: blk z.rw.g 89 z.rw.cur :: mds t r lim z.Ms :: star z.pl :: K)) (g := z.gu) (st := st) T hz.hq hga hw hcv hst.1
   have hms := fun K' => mshut_old (K := K') (t := t) (r := r) (lim := lim) (s := st) (M := M) hbf b4
   refine go_ ?_; refine slc_ rfl rfl sub_ hclo ?_; rintro ⟨A1, c1⟩ -; dsimp only; refine go_ ?_; refine al_ ?_; intro g30; refine new_tc ?_; refine go_ ?_; refine al_ ?_; intro g32; refine go_ ?_; refine slc_ rfl rfl sub_ (hms (blk g30 58 (tc A1 v.1.length c1 v.2.1 v.2.2.1) :: blk g32 70 (bkC st (tc b.A b.l.length b.c b.m b.k) true) :: eo A1 v.1.length c1 v.1 :: pJ t r lim gd md z (blk g9 34 t.c :: blk g10 38 r.c :: blk z.rw.g 89 z.rw.cur :: mds t r lim z.Ms :: star z.pl :: K))) ?_; rintro _ -; refine go_ ?_; refine dr_ [blk g30 58 (tc A1 v.1.length c1 v.2.1 v.2.2.1), mdB t r lim M] 14 ?_; refine y2_ 0 1 ?_; refine wy_ 2 ?_
   first | refine wy_ 3 ?_ | refine wo_ 3 ?_ | refine wp_ 3 ?_
   first | refine wy_ 4 ?_ | refine wo_ 4 ?_ | refine wp_ 4 ?_
   first | refine wy_ 5 ?_ | refine wo_ 5 ?_ | refine wp_ 5 ?_
   first | refine wy_ 6 ?_ | refine wo_ 6 ?_ | refine wp_ 6 ?_
   first | refine wy_ 7 ?_ | refine wo_ 7 ?_ | refine wp_ 7 ?_
   first | refine wy_ 8 ?_ | refine wo_ 8 ?_ | refine wp_ 8 ?_
   refine w1_ 9 ?_; refine sl_yes rfl rfl ?_
   repeat refine su_ ?_
   refine v1_ 10 ?_; refine sl_yes rfl rfl ?_; refine sl_pu (pu_fieldS (cs := bkC st (tc b.A b.l.length b.c b.m b.k) true) rfl rfl rfl (fun W => run_part_mid (cl := tc b.A b.l.length b.c b.m b.k) rfl rfl (by rw [tc_len]; rfl) bkC_mid)) rfl ?_; refine v1_ 11 ?_; refine sl_yes rfl rfl ?_; refine slc_ rfl rfl Sub.refl (tsame_ex (n := v.1.length) (n' := b.l.length) (xs := v.1) (ys := b.l) (Vw.of_own (e := 102) (A := A1) (c := c1) at_) ((hv.b b hbm).mono sub_) hvl) ?_; rintro _ -; rw [decide_eq_true hsm]; refine wn_ ?_
   first | refine wy_ 12 ?_ | refine wo_ 12 ?_ | refine wp_ 12 ?_
   refine wy_ 13 ?_; refine wx_ ?_; refine go_ ?_; exact hB z _ 0 0 hz hr ⟨rfl, by omega, by omega⟩ (.inr (by decide)) has_ sub_
  | false =>
   rw [hcv] at b4
   rw [b4] at hg
   by_cases hne : closeA r (runE t r z.rs).1 st ≠ 0
   ·have hclo := sClose_err (K := jC z.q.gj gd sj (cellsA (z.rs.map (Evt.by_ t))) :: dB gd md 1048576 :: dM md [z.f] z.ck :: dS [z.f] :: mdF t r lim M (blk g9 34 t.c :: blk g10 38 r.c :: blk z.rw.g 89 z.rw.cur :: mds t r lim z.Ms :: star z.pl :: K)) (g := z.gu) (st := st) T hz.hq hga (fun v' hv' => by rw [hw] at hv'; cases hv'; exact hcv) ⟨hst.1, by omega⟩ hne
    have hms := fun K' => mshut_no (K := K') (t := t) (r := r) (lim := lim) (s := st) (M := M) T.w ⟨hst.1, by omega⟩ (fun b' hb' => by rw [hbf] at hb'; cases hb'; exact b4) (by rw [hE]; exact hne)
    rw [hE] at hms
    refine go_ ?_; refine slc_ rfl rfl sub_ hclo ?_; rintro _ -; refine go_ ?_; refine al_ ?_; intro g30; refine new_tc ?_; refine go_ ?_; refine al_ ?_; intro g32; refine go_ ?_; refine slc_ rfl rfl sub_ (hms (blk g30 58 tz :: blk g32 70 (bkC st (tc b.A b.l.length b.c b.m b.k) false) :: pJ t r lim gd md z (blk g9 34 t.c :: blk g10 38 r.c :: blk z.rw.g 89 z.rw.cur :: mds t r lim z.Ms :: star z.pl :: K))) ?_; rintro _ -; refine go_ ?_; refine dr_ [] 14 ?_; refine y2_ 0 1 ?_; refine wy_ 2 ?_
    first | refine wy_ 4 ?_ | refine wo_ 4 ?_ | refine wp_ 4 ?_
    first | refine wy_ 5 ?_ | refine wo_ 5 ?_ | refine wp_ 5 ?_
    first | refine wy_ 6 ?_ | refine wo_ 6 ?_ | refine wp_ 6 ?_
    first | refine wy_ 7 ?_ | refine wo_ 7 ?_ | refine wp_ 7 ?_
    first | refine wy_ 8 ?_ | refine wo_ 8 ?_ | refine wp_ 8 ?_
    refine w2_ 3 9 ?_ ?_
    ·refine sl_no rfl rfl rfl ?_; refine v1_ 9 ?_; refine sl_no rfl rfl rfl ?_; refine v1_ 10 ?_; refine sl_no rfl rfl rfl ?_; refine v1_ 11 ?_; refine sl_no rfl rfl rfl ?_; refine wn_ ?_
     first | refine wy_ 12 ?_ | refine wo_ 12 ?_ | refine wp_ 12 ?_
     exact e1_Vk9
    ·refine sl_no rfl rfl rfl ?_; refine v2_ 3 10 ?_ ?_
     ·refine sl_no rfl rfl rfl ?_; refine v1_ 10 ?_; refine sl_no rfl rfl rfl ?_; refine v1_ 11 ?_; refine sl_no rfl rfl rfl ?_; refine wn_ ?_
      first | refine wy_ 12 ?_ | refine wo_ 12 ?_ | refine wp_ 12 ?_
      exact e1_Vk9
     ·refine sl_no rfl rfl rfl ?_; refine v1_ 3 ?_; refine sl_no rfl rfl rfl ?_; refine v1_ 11 ?_; refine sl_no rfl rfl rfl ?_; refine wn_ ?_
      first | refine wy_ 12 ?_ | refine wo_ 12 ?_ | refine wp_ 12 ?_
      exact e1_Vk9
   have he : closeA r (runE t r z.rs).1 st = 0 := Decidable.byContradiction hne
   obtain ⟨X, Y, hX⟩ := List.append_of_mem hbm
   obtain ⟨hcan, hclo⟩ := sClose_yes (K := mdF t r lim M (blk g9 34 t.c :: blk g10 38 r.c :: blk z.rw.g 89 z.rw.cur :: mds t r lim z.Ms :: star z.pl :: K)) (g := z.gu) (gd := gd) (md := md) (ckd := z.ck) (st := st) T hz.hq hga hw hcv hst.1 he hz.jf hcl'
   have hms := fun K' => mshut_new (K := K') (t := t) (r := r) (lim := lim) (s := st) (M := M) T.w ⟨hst.1, by omega⟩ hX hbf b4 (by rw [hE]; exact he)
   refine go_ ?_; refine slc_ rfl rfl sub_ hclo ?_; rintro ⟨y, A1, c1⟩ hy
   dsimp only at hy ⊢
   refine go_ ?_; refine al_ ?_; intro g30; refine new_tc ?_; refine go_ ?_; refine al_ ?_; intro g32; refine go_ ?_; refine slc_ rfl rfl sub_ (hms (blk g30 58 (tc A1 v.1.length c1 v.2.1 v.2.2.1) :: blk g32 70 (bkC st (tc b.A b.l.length b.c b.m b.k) false) :: eo A1 v.1.length c1 v.1 :: stH t r lim z.gu gd md (z.rs ++ [.shut st]) (blk g9 34 t.c :: blk g10 38 r.c :: blk z.rw.g 89 z.rw.cur :: mds t r lim z.Ms :: star z.pl :: K) y)) ?_; rintro _ -
   obtain ⟨M', hM'⟩ : ∃ M' : Md, M' = { M with fs := X ++ b.shut :: Y } := ⟨_, rfl⟩
   rw [← hM']
   have hmf : M'.mf = M.mf := by rw [hM']
   have hmg : M'.g = M.g := by rw [hM']
   have hgs : MGet (M'.fs.map BM.ent) (.int .u64 st) (.agg (bkC st (tc b.A b.l.length b.c b.m b.k) true).toArray) := by
    have h9 := bget (fs := M'.fs) (b := b.shut) (by rw [hM']; simp)
    rw [show b.shut.st = st from hbs] at h9
    exact h9
   have hmm : Hm M' ((Evt.shut st).go t r (runE t r z.rs)).1 := by
    have h9 := hm.shut hX
    rw [hbs] at h9
    rw [hM']; exact h9
   have hvv : MV (star z.pl :: K) M' := by
    rw [hM']
    refine ⟨hv.p, hv.s, fun u hu => ?_⟩
    rcases List.mem_append.1 hu with h | h
    ·exact hv.b u (by rw [hX]; simp [h])
    ·rcases List.mem_cons.1 h with h | h
     ·rw [h]; exact hv.b b hbm
     ·exact hv.b u (by rw [hX]; simp [h])
   rw [← hmg]; refine go_ ?_; refine dr_ [blk g30 58 (tc A1 v.1.length c1 v.2.1 v.2.2.1), mdB t r lim M'] 14 ?_; refine y2_ 0 1 ?_; refine wy_ 2 ?_
   first | refine wy_ 3 ?_ | refine wo_ 3 ?_ | refine wp_ 3 ?_
   first | refine wy_ 4 ?_ | refine wo_ 4 ?_ | refine wp_ 4 ?_
   first | refine wy_ 5 ?_ | refine wo_ 5 ?_ | refine wp_ 5 ?_
   first | refine wy_ 6 ?_ | refine wo_ 6 ?_ | refine wp_ 6 ?_
   first | refine wy_ 7 ?_ | refine wo_ 7 ?_ | refine wp_ 7 ?_
   first | refine wy_ 8 ?_ | refine wo_ 8 ?_ | refine wp_ 8 ?_
   refine w1_ 9 ?_; refine sl_yes rfl rfl ?_
   repeat refine su_ ?_
   refine v1_ 10 ?_; refine sl_yes rfl rfl ?_; refine sl_pu (pu_fieldS (cs := bkC st (tc b.A b.l.length b.c b.m b.k) true) rfl rfl rfl (fun W => run_part_mid (cl := tc b.A b.l.length b.c b.m b.k) rfl rfl (by rw [tc_len]; rfl) bkC_mid)) rfl ?_; refine v1_ 11 ?_; refine sl_yes rfl rfl ?_; refine slc_ rfl rfl Sub.refl (tsame_ex (n := v.1.length) (n' := b.l.length) (xs := v.1) (ys := b.l) (Vw.of_own (e := 102) (A := A1) (c := c1) at_) ((hv.b b hbm).mono sub_) hvl) ?_; rintro _ -; rw [decide_eq_true hsm]; refine wn_ ?_
   first | refine wy_ 12 ?_ | refine wo_ 12 ?_ | refine wp_ 12 ?_
   refine wy_ 13 ?_; refine wx_ ?_; refine go_ ?_; exact hA { z with q := y.q, f := y.f, ck := y.ck, rs := z.rs ++ [.shut st], pl := z.pl, cb := z.cb + 84 } M' (hz.step T hcan (fun a => rfl) hy hmm (fun φ h => h) hvv) ⟨hr.ok, hr.xs⟩ ⟨rfl, by show z.cb + 84 ≤ _; omega, rfl⟩ has_ sub_
end
end
section
namespace pVka
theorem nthx_ (h : φ := by first | exact Ax.n5 _ | exact Ax.n4 _ | exact Ax.n3 _ | rfl) : φ := h
theorem onex_ (h : φ := by first | exact one_bytes _ | exact Ax.one _) : φ := h
end pVka
open pVka
section
variable {t : Ta} {r : Rl} {lim now : Int} {K : List Fa} {z : PS} {g9 g10 gd md na cq g18 g20 : Nat} {QA : Option Addr} {x : Ax} {id : Id} {M : Md} {Q' : Exit → Act → World → Prop}
theorem pClo (T : TR_ t r lim) (hz : PC t r lim K z z.Ms) (hr : RowOk z) (hcb : z.cb ≤ 13000) (hm : Hm M (runE t r z.rs).1) (hv : MV (star z.pl :: K) M) (hx : AxOk K x) (hnow : 0 ≤ now ∧ now ≤ 39) (hN : NoP Q')
  (hA : ∀ {l : Env} {L : List Fa} (z' : PS) (M' : Md), PC t r lim K z' (z'.Ms ++ [M']) → RowOk z' → z'.i = z.i ∧ z'.cb ≤ z.cb + 170 ∧ z'.lm = z.lm → Has l (pM g9 g10 gd na cq lim QA z' (.pointer (some ⟨M'.g, 0, none⟩)) 0 1) → Sub L (mdF t r lim M' (pH t r lim g9 g10 gd md z' K)) → SE Q' .normal 351 l L)
  (hB : ∀ {l : Env} {L : List Fa} (z' : PS) (v19 : Value) (e nt : Int), PC t r lim K z' z'.Ms → RowOk z' → z'.i = z.i ∧ z'.cb ≤ z.cb + 170 ∧ z'.lm ≤ z.lm + 1 → (e ≠ 0 ∨ nt ≠ 1) → Has l (pM g9 g10 gd na cq lim QA z' v19 e nt) → Sub L (pH t r lim g9 g10 gd md z' K) → SE Q' .normal 351 l L) :
  SC Tryz.prog (cAt [false, false, false, false, false, false, false, false, false, true, false, true, true, false, false, true, true, false, false, false, false, false, true, false, true, false, false, false, false, false, false, false, true] (fb Tryz.f5)) Q' 351 (pK g9 g10 gd na cq lim QA z g18 M.g g20 now) (kH t r lim g9 g10 gd md z g18 g20 x id M K) := by
 have hst := st_small T.w hnow
 have hco := hx.co
 refine sc_mid (α := Unit) (fun _ => (29, .int .u64 (stN r.w now)) :: pK g9 g10 gd na cq lim QA z g18 M.g g20 now) (fun _ => kH t r lim g9 g10 gd md z g18 g20 x id M K) (fun _ => True) ?_ ?_
 ·refine go_ ?_; refine slc_ rfl rfl Sub.refl (start_ok T.w ⟨hnow.1, by omega⟩) ?_; rintro _ -; refine go_ ?_; exact se_mid () has_ sub_ trivial
 rintro _ -; refine sc_mid (α := Int) (fun s => (29, .int .u64 s) :: (19, .pointer (some ⟨M.g, 0, none⟩)) :: (24, .int .i64 1) :: pE g9 g10 gd na cq lim QA z) (fun _ => mdF t r lim M (pH t r lim g9 g10 gd md z K)) (fun s => 0 ≤ s ∧ s ≤ 39) ?_ ?_
 ·by_cases h0 : x.co % 5 = 0
  ·refine go_ ?_; exact se_mid now has_ sub_ hnow
  ·refine go_ ?_; exact se_mid (stN r.w now) has_ sub_ hst
 rintro s hs; exact pCloB T hz hr hcb hm hv hs hN hA hB
theorem tl_v {r : RwT} {n j : Nat} (hj : j < n) (h : r.ok n) : Value.slice (cutA (some ⟨r.g, r.off, none⟩) r.c j 1) (n - j) (r.c - j) = (r.tl j).v (n - j) := by
 have := h.le
 unfold cutA
 rw [if_neg (by omega)]
 simp [Addr.add, RwT.tl]
theorem pSync (T : TR_ t r lim) (hz : PC t r lim K z z.Ms) (hr : RowOk z) (hcb : z.cb ≤ 13000)
  (hB : ∀ {l : Env} {L : List Fa} (z' : PS) (v19 : Value) (e nt : Int), PC t r lim K z' z'.Ms → RowOk z' → z'.i = z.i ∧ z'.cb ≤ z.cb + 170 ∧ z'.lm ≤ z.lm + 1 → (e ≠ 0 ∨ nt ≠ 1) → Has l (pM g9 g10 gd na cq lim QA z' v19 e nt) → Sub L (pH t r lim g9 g10 gd md z' K) → SE Q' .normal 351 l L) :
  SC Tryz.prog (cAt [false, false, false, false, false, false, false, false, false, true, false, true, true, false, false, true, true, false, false, false, false, false, true, false, true, false, false, false, false, false, false, false, false, false, true] (fb Tryz.f5)) Q' 351 (pK g9 g10 gd na cq lim QA z g18 M.g g20 now) (kH t r lim g9 g10 gd md z g18 g20 x id M K) := by
 obtain ⟨X, M1, hX, hm1, hv1⟩ := hz.last
 have hlen : z.Ms.length = X.length + 1 := by rw [hX]; simp
 have hk0 := hz.k0
 have hcl := hz.cl
 have hle : z.Ms.length ≤ z.rw.c := hr.ok.le
 have hel := hz.len
 have hrl := cells_len (z.ls t)
 rw [List.length_map] at hrl
 have hfl : z.f.l.length = cellsA (z.ls t) * 64 := by rw [hz.jf.2.1, allL_len]
 refine go_ ?_; refine slc_ rfl rfl sub_ (ssync_ok (K := ixb z.q.gi z.q.iA z.q.ss.length z.q.ic lim :: ixo z.q.iA z.q.ic z.q.ss :: bB z.q.gb t r z.q.mb :: bM z.q.mb z.q.fs z.q.cb :: bS z.q.fs :: wM z.q.mw z.q.ws z.q.cw :: wS z.q.ws :: dMm z.q.ms z.q.sd z.q.cs :: dSs z.q.sd :: blk g18 99 x.C :: blk g20 47 (bytes id.l) :: mdF t r lim M (blk g9 34 t.c :: blk g10 38 r.c :: blk z.rw.g 89 z.rw.cur :: mds t r lim z.Ms :: star z.pl :: K)) hz.jf (by omega)) ?_; rintro q hq; refine go_ ?_
 have hcut : Value.slice (cutA (some ⟨z.rw.g, z.rw.off, none⟩) z.rw.c X.length 1) (z.Ms.length - X.length) (z.rw.c - X.length) = (z.rw.tl X.length).v ([M1] : List Md).length := by
  rw [tl_v (r := z.rw) (n := z.Ms.length) (j := X.length) (by omega) hr.ok, show z.Ms.length - X.length = ([M1] : List Md).length by rw [hlen]; simp]
 rw [show ((z.Ms.length : Int) - 1).toNat = X.length by omega, hcut]
 have hpc : PC t r lim K { z with f := q, rw := z.rw.tl X.length, Ms := [M1], k0 := z.rs.length } [M1] := by
  refine ⟨hz.can, hz.hq, hz.ql, fun j h1 h2 => hz.lf j (by dsimp only at h1; omega) h2, by simp, rfl, fun i M' hi => ?_, fun M' hM' => ?_, ?_, hz.cl, hz.lb⟩
  ·obtain rfl : i = 0 := by have := (List.getElem?_eq_some_iff.1 hi).1; simp at this; exact this
   cases hi
   show Hm M1 (runE t r (z.rs.take (z.rs.length + 0))).1
   rw [List.take_of_length_le (by omega)]; exact hm1
  ·rw [List.mem_singleton.1 hM']; exact hv1
  ·show JFl (z.ls t) (cellsA ((z.rs.take z.rs.length).map (Evt.by_ t)) * 64) q
   rw [List.take_length, ← show z.f.l.length = cellsA (z.rs.map (Evt.by_ t)) * 64 from hfl]; exact hq
 have hrow : RowOk { z with f := q, rw := z.rw.tl X.length, Ms := [M1], k0 := z.rs.length } := by
  have h1 := RwT.tl_ok (k := X.length) hr.ok (by omega)
  have h2 := RwT.tl_xs (r := z.rw) (n := z.Ms.length) (k := X.length) (by omega)
  have e : z.Ms.length - X.length = 1 := by omega
  rw [e] at h1 h2
  refine ⟨h1, ?_⟩
  show (z.rw.tl X.length).xs 1 = _
  rw [h2, hr.xs, hX]
  simp
 refine se_ent (L' := mds t r lim [M1] :: sF z.gu t r lim z.q (jC z.q.gj gd sj (cellsA (z.ls t)) :: dB gd md 1048576 :: dM md [q] z.ck :: dS [q] :: blk g9 34 t.c :: blk g10 38 r.c :: blk (z.rw.tl X.length).g 89 (z.rw.tl X.length).cur :: star z.pl :: K)) ?_ ?_
 ·intro w hw
  have h1 : Sep w (mds t r lim (X ++ M1 :: []) :: sF z.gu t r lim z.q (jC z.q.gj gd sj (cellsA (z.ls t)) :: dB gd md 1048576 :: dM md [q] z.ck :: dS [q] :: blk g9 34 t.c :: blk g10 38 r.c :: blk z.rw.g 89 z.rw.cur :: star z.pl :: K)) := hw.sub (by rw [← hX]; exact sub_)
  have h2 : Sep w (mds t r lim (X ++ M1 :: []) :: sF z.gu t r lim z.q (jC z.q.gj gd sj (cellsA (z.ls t)) :: dB gd md 1048576 :: dM md [q] z.ck :: dS [q] :: blk g9 34 t.c :: blk g10 38 r.c :: blk (z.rw.tl X.length).g 89 (z.rw.tl X.length).cur :: star z.pl :: K)) := h1
  exact mds_one w ((mds_out w h2).sub sub_)
 exact hB { z with f := q, rw := z.rw.tl X.length, Ms := [M1], k0 := z.rs.length } _ 0 0 hpc hrow ⟨rfl, by dsimp only; omega, by dsimp only; omega⟩ (.inr (by decide)) has_ sub_
end
end
section
theorem split_at {α : Type} {l : List α} {i : Nat} (h : i < l.length) : ∃ X M Y, l = X ++ M :: Y ∧ X.length = i ∧ l[i]? = some M :=
 ⟨l.take i, l[i], l.drop (i + 1), by rw [← List.drop_eq_getElem_cons h, List.take_append_drop], by rw [List.length_take]; omega, List.getElem?_eq_getElem h⟩
section
variable {t : Ta} {r : Rl} {lim : Int} {K : List Fa} {z : PS} {mm k : Nat}
theorem PC.k_ge (h : PC t r lim K z z.Ms) (h1 : z.f.sy ≤ mm) (hW : Whole (z.ls t) mm k) : z.k0 ≤ k ∧ k ≤ z.rs.length := by
 have h2 := hW.hr
 have h3 : (z.ls t).length = z.rs.length := List.length_map ..
 refine ⟨Decidable.byContradiction fun hn => ?_, by omega⟩
 have hk := h.k0
 have h0 : 0 < z.Ms.length := List.length_pos_iff.2 h.ne
 have h4 := hW.hi (by omega)
 have h5 := h.jf.2.2.2
 have h6 : cellsA ((z.ls t).take (k + 1)) ≤ cellsA ((z.ls t).take z.k0) := cells_mono (by omega)
 rw [← List.map_take] at h6
 have h7 : cellsA ((z.rs.take (k + 1)).map (Evt.by_ t)) = cellsA ((z.ls t).take (k + 1)) := by rw [← List.map_take]
 have h8 : cellsA ((z.ls t).take z.k0) = cellsA ((z.rs.take z.k0).map (Evt.by_ t)) := by rw [← List.map_take]
 omega
theorem PC.row {Ml : List Md} {i : Nat} {M : Md} (h : PC t r lim K z z.Ms) (hr : RowOk z) (hi : z.Ms[i]? = some M) : nth (z.rw.xs z.Ms.length) i = some (.pointer (some ⟨M.g, 0, none⟩)) := by
 rw [hr.xs, nth_eq, List.getElem?_map, hi]
 rfl
def PS.crash (z : PS) (y : OpR) (rw' : RwT) (M : Md) (k : Nat) : PS := { z with gu := y.g, q := y.q, f := y.f, ck := y.ck, rw := rw', Ms := [M], rs := z.rs.take k ++ [Evt.life (z.life + 1)], k0 := k + 1, life := z.life + 1, cb := z.cb + 84, lm := z.lm + 1 }
theorem PC.crash {y : OpR} {rw' : RwT} {M : Md} {i : Nat} (h : PC t r lim K z z.Ms) (T : TR_ t r lim) (hlm : z.lm ≤ 999998) (hk : z.k0 ≤ k ∧ k ≤ z.rs.length) (hy : OevP t r (z.rs.take k) y) (hi : z.Ms[i]? = some M) (he : (runE t r (z.rs.take k)).1 = (runE t r (z.rs.take (z.k0 + i))).1) : PC t r lim K (z.crash y rw' M k) [M] := by
 have hl := h.lf k hk.1 hk.2
 obtain ⟨y1, y2, y3⟩ := hy
 rw [hl] at y2 y3
 have hlb := h.lb
 have hcan : (Evt.life (z.life + 1)).can t r lim (runE t r (z.rs.take k)) := ⟨by rw [hl], by omega⟩
 have hlen : (z.rs.take k).length = k := by rw [List.length_take]; omega
 have hby := Evt.by_ok T hcan
 refine ⟨(h.can.take k).snoc hcan, ?_, ?_, fun j h1 h2 => ?_, by simp, ?_, fun j M' hj => ?_, fun M' hM' => ?_, ?_, ?_, ?_⟩
 ·show Hq y.q (runE t r (z.rs.take k ++ [Evt.life (z.life + 1)])).1
  rw [runE_snoc]; exact y1
 ·show y.q.life = (runE t r (z.rs.take k ++ [Evt.life (z.life + 1)])).2
  rw [runE_snoc]; exact y2
 ·have h1' : k + 1 ≤ j := h1
  show (runE t r ((z.rs.take k ++ [Evt.life (z.life + 1)]).take j)).2 = z.life + 1
  rw [List.take_of_length_le (by rw [List.length_append, hlen, List.length_singleton]; omega), runE_snoc]
  rfl
 ·show k + 1 + 1 = (z.rs.take k ++ [Evt.life (z.life + 1)]).length + 1
  rw [List.length_append, hlen, List.length_singleton]
 ·obtain rfl : j = 0 := by have := (List.getElem?_eq_some_iff.1 hj).1; simp at this; exact this
  cases hj
  show Hm M (runE t r ((z.rs.take k ++ [Evt.life (z.life + 1)]).take (k + 1 + 0))).1
  rw [List.take_of_length_le (by rw [List.length_append, hlen, List.length_singleton]; omega), runE_snoc]
  show Hm M (runE t r (z.rs.take k)).1
  rw [he]; exact h.ms i M hi
 ·rw [List.mem_singleton.1 hM']; exact h.mv M (List.mem_of_getElem? hi)
 ·show JFl ((z.rs.take k ++ [Evt.life (z.life + 1)]).map (Evt.by_ t)) (cellsA (((z.rs.take k ++ [Evt.life (z.life + 1)]).take (k + 1)).map (Evt.by_ t)) * 64) y.f
  rw [List.take_of_length_le (l := z.rs.take k ++ [Evt.life (z.life + 1)]) (by rw [List.length_append, hlen, List.length_singleton]; omega)]; exact y3
 ·show cellsA ((z.rs.take k ++ [Evt.life (z.life + 1)]).map (Evt.by_ t)) ≤ z.cb + 84
  rw [map_snoc_by, cellsA_snoc]
  have h1 := many_4000 hby.2
  have h2 := h.cl
  have h3 : cellsA (z.ls t) = cellsA (z.rs.map (Evt.by_ t)) := rfl
  have h4 := cells_mono_le (z.rs.map (Evt.by_ t)) k
  rw [← List.map_take] at h4
  omega
 ·show z.life + 1 ≤ z.lm + 1
  exact_mod_cast Int.add_le_add_right hlb 1
end
namespace pVkb
theorem nthx_ (h : φ := by first | exact Ax.n6 _ | exact Ax.n5 _ | exact Ax.n4 _ | exact Ax.n3 _ | rfl) : φ := h
theorem midx_ (h : φ := by first | exact Ta.mid _ | exact Rl.mid _ | exact Mid.all) : φ := h
theorem onex_ (h : φ := by first | exact one_bytes _ | exact Ax.one _) : φ := h
end pVkb
open pVkb
section
variable {t : Ta} {r : Rl} {lim now : Int} {K : List Fa} {z : PS} {g9 g10 gd md na cq g18 g20 : Nat} {QA : Option Addr} {x : Ax} {id : Id} {M : Md} {Q' : Exit → Act → World → Prop}
abbrev pV (g9 g10 gd na cq : Nat) (lim : Int) (QA : Option Addr) (z : PS) (gu : Nat) : Env := [(9, .pointer (some ⟨g9, 0, none⟩)), (10, .pointer (some ⟨g10, 0, none⟩)), (11, .int .i64 lim), (12, .pointer (some ⟨gd, 0, none⟩)), (13, .pointer (some ⟨gu, 0, none⟩)), (15, z.rw.v z.Ms.length), (16, .int .u64 (z.life + 1)), (22, .int .i64 0), (23, .int .i64 0), (24, .int .i64 0), (66, .slice QA na cq), (67, .int .i64 na), (68, .int .i64 z.i)]
abbrev vH (t : Ta) (r : Rl) (lim : Int) (g9 g10 gd md : Nat) (z : PS) (K : List Fa) (y : OpR) (nc : Nat) : List Fa := mds t r lim z.Ms :: sF y.g t r lim y.q (blk g9 34 t.c :: blk g10 38 r.c :: blk z.rw.g 89 z.rw.cur :: jC y.q.gj gd sj nc :: dB gd md 1048576 :: dM md [y.f] y.ck :: dS [y.f] :: star z.pl :: K)
theorem pCrash (T : TR_ t r lim) (hre : rErr r t = 0) (hli : min (max lim 0) 256 = lim) (hz : PC t r lim K z z.Ms) (hr : RowOk z) (hcb : z.cb ≤ 13000) (hlm : z.lm ≤ 999998) (hx : AxOk K x) (hN : NoP Q')
  (hB : ∀ {l : Env} {L : List Fa} (z' : PS) (v19 : Value) (e nt : Int), PC t r lim K z' z'.Ms → RowOk z' → z'.i = z.i ∧ z'.cb ≤ z.cb + 170 ∧ z'.lm ≤ z.lm + 1 → (e ≠ 0 ∨ nt ≠ 1) → Has l (pM g9 g10 gd na cq lim QA z' v19 e nt) → Sub L (pH t r lim g9 g10 gd md z' K) → SE Q' .normal 351 l L) :
  SC Tryz.prog (cAt [false, false, false, false, false, false, false, false, false, true, false, true, true, false, false, true, true, false, false, false, false, false, true, false, true, false, false, false, false, false, false, false, false, false, false, false, true] (fb Tryz.f5)) Q' 351 (pK g9 g10 gd na cq lim QA z g18 M.g g20 now) (kH t r lim g9 g10 gd md z g18 g20 x id M K) := by
 have hk0 := hz.k0
 have hcl := hz.cl
 have hel := hz.len
 have hne : 0 < z.Ms.length := List.length_pos_iff.2 hz.ne
 have hrl := cells_len (z.ls t)
 rw [List.length_map] at hrl
 have hfl : z.f.l.length = cellsA (z.ls t) * 64 := by rw [hz.jf.2.1, allL_len]
 have hkp := hx.kp
 have hlb := hz.lb
 have hl0 : 0 ≤ z.life := by have := hz.can.life; rwa [hz.life] at this
 have hga := hz.ga T
 refine go_ ?_; refine slc_ rfl rfl sub_ (crash_one (K := blk g9 34 t.c :: blk g10 38 r.c :: blk z.rw.g 89 z.rw.cur :: mds t r lim z.Ms :: star z.pl :: K) (g := gd) (m := md) (ck := z.ck) (lim := 1048576) (keep := x.kp) hz.jf.2.2.1 (by omega)) ?_; rintro q ⟨q1, q2, q3⟩
 obtain ⟨mm, hmm⟩ : ∃ mm, mm = crN x.kp z.f.l z.f.sy := ⟨_, rfl⟩
 rw [← hmm] at q2 q3
 have hcr := crN_le (keep := x.kp) (l := z.f.l) (sy := z.f.sy) hz.jf.2.2.1
 rw [← hmm] at hcr
 obtain ⟨k, hW⟩ := whole_ex (ls := z.ls t) (m := mm) (by rw [allL_len]; omega)
 have hkk := hz.k_ge hcr.1 hW
 have hlk := hz.lf k hkk.1 hkk.2
 have hopen := open_evt (K0 := blk g9 34 t.c :: blk g10 38 r.c :: blk z.rw.g 89 z.rw.cur :: mds t r lim z.Ms :: star z.pl :: K) (gd := gd) (md := md) (ckd := z.ck) (limd := 1048576) (t := t) (r := r) (limit := lim) (rs := z.rs) (f := q) (mm := mm) (k := k) (by rw [hli]; exact T) hre (by rw [hli]; exact hz.can) (by omega) (by have : cellsA (z.rs.map (Evt.by_ t)) ≤ z.cb := hcl; omega) rfl (by rw [q1]; exact hz.jf.1) (by rw [q2, hz.jf.2.1]) (by rw [allL_len]; have : z.f.l.length = cellsA (z.rs.map (Evt.by_ t)) * 64 := hfl; omega) (by rw [q3, q2, List.length_take]; omega) hW
 rw [hli] at hopen
 refine go_ ?_; refine slc_ rfl rfl sub_ hopen ?_; rintro y hy
 unfold OevH
 obtain ⟨nc, hnc⟩ : ∃ nc, nc = cellsA ((z.rs.take k ++ [Evt.life ((runE t r (z.rs.take k)).2 + 1)]).map (Evt.by_ t)) := ⟨_, rfl⟩
 rw [← hnc]
 have hyl : y.q.life = z.life + 1 := by rw [hy.2.1, hlk]
 have hgk : GA t r lim (runE t r (z.rs.take k)).1 := CanE.ga T.l0 (hz.can.take k)
 refine go_ ?_; refine sc_bjoin (α := Nat) (fun i => (33, .int .i64 (i : Nat)) :: pV g9 g10 gd na cq lim QA z y.g) (fun _ => vH t r lim g9 g10 gd md z K y nc) (fun i => i < z.Ms.length ∧ (runE t r (z.rs.take k)).1 = (runE t r (z.rs.take (z.k0 + i))).1) ?_ ?_
 ·refine sc_for (α := Nat × Int) (fun p => (33, .int .i64 p.2) :: (292, .int .i64 (z.Ms.length : Nat)) :: (293, .int .i64 (p.1 : Nat)) :: pV g9 g10 gd na cq lim QA z y.g) (fun _ => vH t r lim g9 g10 gd md z K y nc) (fun p => p.1 ≤ z.Ms.length ∧ -1 ≤ p.2 ∧ p.2 < p.1 ∧ (0 ≤ p.2 → (runE t r (z.rs.take k)).1 = (runE t r (z.rs.take (z.k0 + p.2.toNat))).1) ∧ (k - z.k0 < p.1 → 0 ≤ p.2)) (fun p => z.Ms.length - p.1) (0, -1) has_ sub_ ⟨Nat.zero_le _, by decide, by decide, fun h => absurd h (by decide), fun h => absurd h (Nat.not_lt_zero _)⟩ ?_; rintro ⟨j, fo⟩ ⟨h1, h2, h3, h4, h5⟩
  dsimp only at h1 h2 h3 h4 h5 ⊢
  by_cases hlt : j < z.Ms.length
  case neg =>
   refine go_ ?_
   have h0 := h5 (by omega)
   refine se_mid fo.toNat ?_ sub_ ⟨by omega, h4 h0⟩
   rw [Int.toNat_of_nonneg h0]; exact has_
  obtain ⟨X, M1, Y, hX, hXl, hM1⟩ := split_at hlt
  have hnth := hz.row (Ml := z.Ms) hr hM1
  have hm1 := hz.ms j M1 hM1
  have hv1 := hz.mv M1 (List.mem_of_getElem? hM1)
  have hg1 : GA t r lim (runE t r (z.rs.take (z.k0 + j))).1 := CanE.ga T.l0 (hz.can.take _)
  refine go_ ?_; refine sl_pu (pu_ldr (rt_view (e := 89) (r := z.rw) (k := z.Ms.length) at_ hr.ok) (by omega) rfl rfl (by rw [Nat.mul_one]; exact hnth)) rfl ?_; refine go_ ?_; refine slc_ rfl rfl sub_ (psame' (K := blk g9 34 t.c :: blk g10 38 r.c :: blk z.rw.g 89 z.rw.cur :: jC y.q.gj gd sj nc :: dB gd md 1048576 :: dM md [y.f] y.ck :: dS [y.f] :: star z.pl :: K) (X := X) (Y := Y) (M := M1) (g := y.g) hX T hy.1 hm1 hgk hg1 (hv1.mono fun φ h => h.mono sub_)) ?_; rintro v hvv
  cases v with
  | true =>
   have hsm := hvv.1 rfl
   refine go_ ?_; exact se_round (j + 1, (j : Int)) has_ sub_ ⟨by dsimp only; omega, by dsimp only; omega, by dsimp only; omega, fun _ => hsm, fun _ => by dsimp only; omega⟩ (by dsimp only; omega)
  | false =>
   have hsm : ¬ (runE t r (z.rs.take k)).1 = (runE t r (z.rs.take (z.k0 + j))).1 := fun h => by have := hvv.2 h; cases this
   refine go_ ?_
   refine se_round (j + 1, fo) has_ sub_ ⟨by dsimp only; omega, h2, by dsimp only; omega, h4, fun h => ?_⟩ (by dsimp only; omega)
   dsimp only at h ⊢
   refine Decidable.byContradiction fun hn => ?_
   have h6 : j = k - z.k0 := by
    rcases Nat.lt_or_ge (k - z.k0) j with h7 | h7
    ·exact absurd (h5 h7) hn
    ·omega
   exact hsm (by rw [h6, show z.k0 + (k - z.k0) = k by omega])
 rintro i ⟨hi, he⟩
 obtain ⟨X, M1, Y, hX, hXl, hM1⟩ := split_at hi
 have hnth := hz.row (Ml := z.Ms) hr hM1
 have hpc := fun rw' => hz.crash (y := y) (rw' := rw') T hlm hkk hy hM1 he
 refine go_ ?_; refine slc_ rfl rfl sub_ (sLife_ok (K := mds t r lim z.Ms :: blk g9 34 t.c :: blk g10 38 r.c :: blk z.rw.g 89 z.rw.cur :: jC y.q.gj gd sj nc :: dB gd md 1048576 :: dM md [y.f] y.ck :: dS [y.f] :: star z.pl :: K) (s := sj) (gd := gd) (n := nc) at_) ?_; rintro _ -; rw [hyl]; refine go_ ?_; refine sl_pu (pu_ldr (rt_view (e := 89) (r := z.rw) (k := z.Ms.length) at_ hr.ok) (by omega) rfl rfl (by rw [Nat.mul_one]; exact hnth)) rfl ?_; refine go_ ?_; refine sl_build (size := 1) (e := 89) (cells := [.pointer (some ⟨M1.g, 0, none⟩)]) rfl (fun W => by kernel_rfl) rfl (by decide) rfl ?_; intro gb; refine sl_own_blk (e := 89) (g := gb) (k := 1) (c := 1) (xs := [.pointer (some ⟨M1.g, 0, none⟩)]) pick_ ?_
 intro r' hr1 hr2 hr3 hr4 hr5
 rw [show Value.slice (some ⟨gb, 0, none⟩) 1 1 = r'.v 1 by rw [← hr1, ← hr2, ← hr3]]; refine go_ ?_; refine sl_pu (pu_ldr (i := 0) (v := .pointer (some ⟨M1.g, 0, none⟩)) (rt_view (e := 89) (r := r') (k := 1) at_ hr4) (by decide) rfl rfl (by rw [hr5]; rfl)) rfl ?_; refine go_ ?_
 have hrow : RowOk (z.crash y r' M1 k) := ⟨hr4, hr5⟩
 rw [hlk] at hnc
 refine se_ent (L' := mds t r lim [M1] :: sF y.g t r lim y.q (jC y.q.gj gd sj nc :: dB gd md 1048576 :: dM md [y.f] y.ck :: dS [y.f] :: blk g9 34 t.c :: blk g10 38 r.c :: blk r'.g 89 r'.cur :: star z.pl :: K)) ?_ ?_
 ·intro w hw
  have h1 : Sep w (mds t r lim (X ++ M1 :: Y) :: sF y.g t r lim y.q (jC y.q.gj gd sj nc :: dB gd md 1048576 :: dM md [y.f] y.ck :: dS [y.f] :: blk g9 34 t.c :: blk g10 38 r.c :: blk r'.g 89 r'.cur :: star z.pl :: K)) := hw.sub (by rw [← hX]; exact sub_)
  exact mds_one w ((mds_out w h1).sub sub_)
 rw [hnc]; exact hB (z.crash y r' M1 k) _ 0 0 (hpc r') hrow ⟨rfl, by show z.cb + 84 ≤ _; omega, by show z.lm + 1 ≤ _; omega⟩ (.inr (by decide)) (by unfold PS.crash; exact has_) (by unfold PS.crash; exact sub_)
end
end
section
namespace pVkc
theorem nthx_ (h : φ := by first | exact Ax.n0 _ | rfl) : φ := h
theorem onex_ (h : φ := by first | exact one_bytes _ | exact Ax.one _) : φ := h
end pVkc
open pVkc
section
variable {t : Ta} {r : Rl} {lim now : Int} {K : List Fa} {z : PS} {g9 g10 gd md na cq g18 g20 : Nat} {QA : Option Addr} {x : Ax} {id : Id} {M : Md} {Q' : Exit → Act → World → Prop} {k : Int}
theorem o1_Vkc (h : φ := by exact se_mid true has_ sub_ (by simp)) : φ := h
theorem o2_Vkc (h : φ := by exact se_mid false has_ sub_ (by simp [h4])) : φ := h
theorem pKinds (T : TR_ t r lim) (hre : rErr r t = 0) (hli : min (max lim 0) 256 = lim) (hz : PC t r lim K z z.Ms) (hr : RowOk z) (hcb : z.cb ≤ 13000) (hlm : z.lm ≤ 999998) (hm : Hm M (runE t r z.rs).1) (hv : MV (star z.pl :: K) M) (hx : AxOk K x) (hbl : x.b.length ≤ 100) (hob : x.o.length ≤ 40) (hnow : 0 ≤ now ∧ now ≤ 39) (hk : 0 ≤ k ∧ k ≤ 11) (hN : NoP Q')
  (hA : ∀ {l : Env} {L : List Fa} (z' : PS) (M' : Md), PC t r lim K z' (z'.Ms ++ [M']) → RowOk z' → z'.i = z.i ∧ z'.cb ≤ z.cb + 170 ∧ z'.lm = z.lm → Has l (pM g9 g10 gd na cq lim QA z' (.pointer (some ⟨M'.g, 0, none⟩)) 0 1) → Sub L (mdF t r lim M' (pH t r lim g9 g10 gd md z' K)) → SE Q' .normal 351 l L)
  (hB : ∀ {l : Env} {L : List Fa} (z' : PS) (v19 : Value) (e nt : Int), PC t r lim K z' z'.Ms → RowOk z' → z'.i = z.i ∧ z'.cb ≤ z.cb + 170 ∧ z'.lm ≤ z.lm + 1 → (e ≠ 0 ∨ nt ≠ 1) → Has l (pM g9 g10 gd na cq lim QA z' v19 e nt) → Sub L (pH t r lim g9 g10 gd md z' K) → SE Q' .normal 351 l L) :
  SC Tryz.prog (cAt [false, false, false, false, false, false, false, false, false, true, false, true, true, false, false, true, true, false, false, false, false, false, true, false, true] (fb Tryz.f5)) Q' 351 ((104, .int .u8 k) :: pK g9 g10 gd na cq lim QA z g18 M.g g20 now) (kH t r lim g9 g10 gd md z g18 g20 x id M K) := by
 refine sc_mid (α := Bool) (fun b => (122, .bool b) :: (104, .int .u8 k) :: pK g9 g10 gd na cq lim QA z g18 M.g g20 now) (fun _ => kH t r lim g9 g10 gd md z g18 g20 x id M K) (fun b => b = true ↔ (k = 4 ∨ k = 5 ∨ k = 6)) ?_ ?_
 ·by_cases h4 : k = 4
  ·subst h4; refine go_ ?_; exact o1_Vkc
  by_cases h5 : k = 5
  ·subst h5; refine go_ ?_; exact o1_Vkc
  by_cases h6 : k = 6
  ·subst h6; refine go_ ?_; exact o1_Vkc
  refine go_ ?_; exact se_mid false has_ sub_ (by simp [h4, h5, h6])
 rintro b hb
 cases b with
 | true =>
  refine sc_if_t rfl (sc_env (pK g9 g10 gd na cq lim QA z g18 M.g g20 now) has_ ?_); exact pCom T hz hr hcb hm hv hx hbl hob hN hA hB
 | false =>
 have hb1 : ¬ (k = 4 ∨ k = 5 ∨ k = 6) := fun h => by have := hb.2 h; cases this
 refine sc_if_f rfl ?_; refine sc_mid (α := Bool) (fun b => (170, .bool b) :: (104, .int .u8 k) :: pK g9 g10 gd na cq lim QA z g18 M.g g20 now) (fun _ => kH t r lim g9 g10 gd md z g18 g20 x id M K) (fun b => b = true ↔ k = 7) ?_ ?_
 ·by_cases h4 : k = 7
  ·subst h4; refine go_ ?_; exact o1_Vkc
  refine go_ ?_; exact o2_Vkc
 rintro b hb7
 cases b with
 | true =>
  refine sc_if_t rfl (sc_env (pK g9 g10 gd na cq lim QA z g18 M.g g20 now) has_ ?_); exact pRej T hz hr hcb hm hv hx hN hA hB
 | false =>
 have hb2 : ¬ k = 7 := fun h => by have := hb7.2 h; cases this
 refine sc_if_f rfl ?_; refine sc_mid (α := Bool) (fun b => (184, .bool b) :: (104, .int .u8 k) :: pK g9 g10 gd na cq lim QA z g18 M.g g20 now) (fun _ => kH t r lim g9 g10 gd md z g18 g20 x id M K) (fun b => b = true ↔ k = 8) ?_ ?_
 ·by_cases h4 : k = 8
  ·subst h4; refine go_ ?_; exact o1_Vkc
  refine go_ ?_; exact o2_Vkc
 rintro b hb8
 cases b with
 | true =>
  refine sc_if_t rfl (sc_env (pK g9 g10 gd na cq lim QA z g18 M.g g20 now) has_ ?_); exact pRef T hz hr hcb hm hv hx hnow hN hA hB
 | false =>
 have hb3 : ¬ k = 8 := fun h => by have := hb8.2 h; cases this
 refine sc_if_f rfl ?_; refine sc_mid (α := Bool) (fun b => (221, .bool b) :: (104, .int .u8 k) :: pK g9 g10 gd na cq lim QA z g18 M.g g20 now) (fun _ => kH t r lim g9 g10 gd md z g18 g20 x id M K) (fun b => b = true ↔ k = 9) ?_ ?_
 ·by_cases h4 : k = 9
  ·subst h4; refine go_ ?_; exact o1_Vkc
  refine go_ ?_; exact o2_Vkc
 rintro b hb9
 cases b with
 | true =>
  refine sc_if_t rfl (sc_env (pK g9 g10 gd na cq lim QA z g18 M.g g20 now) has_ ?_); exact pClo T hz hr hcb hm hv hx hnow hN hA hB
 | false =>
 have hb4 : ¬ k = 9 := fun h => by have := hb9.2 h; cases this
 refine sc_if_f rfl ?_; refine sc_mid (α := Bool) (fun b => (263, .bool b) :: (104, .int .u8 k) :: pK g9 g10 gd na cq lim QA z g18 M.g g20 now) (fun _ => kH t r lim g9 g10 gd md z g18 g20 x id M K) (fun b => b = true ↔ k = 10) ?_ ?_
 ·by_cases h4 : k = 10
  ·subst h4; refine go_ ?_; exact o1_Vkc
  refine go_ ?_; exact o2_Vkc
 rintro b hb10
 cases b with
 | true =>
  refine sc_if_t rfl (sc_env (pK g9 g10 gd na cq lim QA z g18 M.g g20 now) has_ ?_); exact pSync T hz hr hcb hB
 | false =>
 have hb5 : ¬ k = 10 := fun h => by have := hb10.2 h; cases this
 refine sc_if_f rfl ?_; refine sc_mid (α := Bool) (fun b => (272, .bool b) :: (104, .int .u8 k) :: pK g9 g10 gd na cq lim QA z g18 M.g g20 now) (fun _ => kH t r lim g9 g10 gd md z g18 g20 x id M K) (fun b => b = true ↔ k = 11) ?_ ?_
 ·by_cases h4 : k = 11
  ·subst h4; refine go_ ?_; exact o1_Vkc
  refine go_ ?_; exact o2_Vkc
 rintro b hb11
 cases b with
 | true =>
  refine sc_if_t rfl (sc_env (pK g9 g10 gd na cq lim QA z g18 M.g g20 now) has_ ?_); exact pCrash T hre hli hz hr hcb hlm hx hN hB
 | false =>
 refine sc_if_f rfl (sc_env (pK g9 g10 gd na cq lim QA z g18 M.g g20 now) has_ ?_); exact pAcc T hz hr hcb hm hv hx hbl hnow hN hA hB
end
end
end
end Go.Proofs.YtocaabnbmcpjmaaGreat
