/- Several texts of one claim, one behind the other. -/
import Derived.Test.YtocaabnbmcpjmaaGreatB24
import Derived.Test.YtocaabnbmcpjmaaGreatB19
set_option linter.unusedVariables false
set_option linter.unusedSimpArgs false
set_option maxRecDepth 100000
set_option maxHeartbeats 16000000
namespace Go.Proofs.YtocaabnbmcpjmaaGreat
variable {φ ψ : Prop}
section
open Go.RowKit Go.MapKept
attribute [local irreducible] Go.Calls Go.Exit.then Go.Exit.inBlock Go.bodyPost Go.Code.wp Go.wpList takeL recordL hashL recL allL decR ofId addV xorI gotB gotF
section
variable {t : Ta} {r : Rl} {lim : Int} {q : StM} {M : Md} {a : Ab} {id : Id} {tm : Int}
theorem hm_pos (hm : Hm M a) : (a.seen id = none ∧ posM M.ss id = -1) ∨ ∃ X s Y, M.ss = X ++ s :: Y ∧ s.id = id ∧ posM M.ss id = (X.length : Nat) ∧ a.seen id = some (s.t, s.c) := by
 cases h : kf sk_ M.ss id.l with
 | none =>
  refine .inl ⟨?_, posM_no fun u hu => kf_none h u hu⟩
  rw [← hm.s]
  unfold seenA
  rw [h]
  rfl
 | some s =>
  obtain ⟨X, Y, h1, h2, h3⟩ := posM_split h
  refine .inr ⟨X, s, Y, h1, h2, h3, ?_⟩
  rw [← h2]; exact hm.sof (by rw [h1]; simp)
theorem accE_A (hq : Hq q a) {np ns : Nat} (h1 : np ≤ 16384) (h2 : ns ≤ 16384) : accE r lim q id tm np ns = accA r lim a id tm := by
 unfold accE accA
 rw [hq.has, if_neg (show ¬ (16384 < np ∨ 16384 < ns) by omega), hq.hd.n, hq.hd.fits]
theorem maccE_A (hm : Hm M a) : maccE r lim M id tm = accA r lim a id tm := by
 unfold maccE accA
 rw [hm.n, hm.fits]
 rcases hm_pos (id := id) hm with ⟨h1, h2⟩ | ⟨X, s, Y, h1, h2, h3, h4⟩
 ·rw [h1, h2, if_neg (show ¬ (0 : Int) ≤ -1 by decide), if_neg (show ¬ (none : Option (Int × Int)).isSome = true by decide)]
  by_cases h : lim ≤ a.n
  ·rw [if_pos h, if_pos (by omega)]
  ·rw [if_neg h, if_neg (by omega)]
 ·rw [h3, h4, if_pos (show (0 : Int) ≤ (X.length : Nat) by omega), if_pos (show (some (s.t, s.c)).isSome = true from rfl)]
theorem comE_A (hq : Hq q a) : comE r q id = comA r a id := by
 unfold comE comA
 cases h : a.wait id with
 | none => rw [show wfind q.ws id = none from kf_none' (hq.hd.wnone h)]
 | some x =>
  obtain ⟨w, h1, -, -, h2, -⟩ := hq.hd.wsome h
  rw [h1]; dsimp only; rw [h2, hq.hd.fits]
theorem mcomE_A (hm : Hm M a) : mcomE r M id = comA r a id := by
 unfold mcomE comA
 cases h : a.wait id with
 | none => rw [show wfind M.ws id = none from kf_none' (hm.wnone h)]
 | some x =>
  obtain ⟨w, h1, -, -, h2, -⟩ := hm.wsome h
  rw [h1]; dsimp only; rw [h2, hm.fits]
theorem rejX_A (hq : Hq q a) (c : Int) : rejX q id c = rejA a id c := by
 unfold rejX rejA
 rw [hq.hd.wis]
theorem mrejE_A (hm : Hm M a) (c : Int) : mrejE M.ws id c = rejA a id c := by
 unfold mrejE rejA
 rw [hm.wis]
theorem Hm.acc (hm : Hm M a) {ht : 0 ≤ tm ∧ tm ≤ 18446744073709551615} {A : Option Addr} {c : Nat} {w : Wt} (hs : a.seen id = none) (hw : a.wait id = none) (h1 : w.id = id) (h2 : w.t = tm) : Hm (M.acc A c ⟨id, tm, 30, ht, by decide⟩ w) (a.accd id tm w.p w.s) :=
 Hd.acc hm (sn := ⟨id, tm, 30, ht, by decide⟩) rfl rfl h1 h2 hs hw (List.Perm.refl _)
theorem Hm.rej (hm : Hm M a) {X Y : List Seen} {s : Seen} {c : Int} {hc : -9223372036854775808 ≤ c ∧ c ≤ 9223372036854775807} (hX : M.ss = X ++ s :: Y) (hs : s.id = id) (hw : (a.wait id).isSome = true) : Hm { M with ss := X ++ setC s c hc :: Y, ws := wdel M.ws id } (a.rejd id c) := by
 have h1 : Hd M.ss M.ws (M.sd.map Stx.pr) M.fs a := hm
 rw [hX] at h1
 exact h1.rej hs hw
theorem Hm.com (hm : Hm M a) {X Y : List Seen} {s : Seen} {x : Int × List Int × List Int} {xs said : List Int} {fs' : List BK} {cf' : Nat} {b' : BK} (hX : M.ss = X ++ s :: Y) (hs : s.id = id) (hw : a.wait id = some x) (hd : a.said id = none) (hu : BkUp M.fs fs' b') (hb : BkAd t r M.fs x.1 id xs b') : Hm (M.com X Y s id said fs' cf') (a.comd t r id xs said) := by
 have h1 : Hd M.ss M.ws (M.sd.map Stx.pr) M.fs a := hm
 rw [hX] at h1
 have h2 := h1.com (said := said) (hc := by decide) hs hw hd hu hb
 show Hd (X ++ setC s 0 _ :: Y) (wdel M.ws id) ((M.sd ++ [(⟨id, said, M.cd⟩ : Stx)]).map Stx.pr) fs' _
 rw [List.map_append]; exact h2
theorem Hm.shut (hm : Hm M a) {X Y : List BK} {b : BK} (hX : M.fs = X ++ b :: Y) : Hm { M with fs := X ++ b.shut :: Y } (a.shutd b.st) := by
 have h1 : Hd M.ss M.ws (M.sd.map Stx.pr) M.fs a := hm
 rw [hX] at h1
 exact h1.shut
end
structure StR where
 q : StM
 f : DF
 ck : Nat
structure StP (t : Ta) (r : Rl) (rs : List Evt) (e : Evt) (σ : Nat) (q0 : StM) (z : StR) : Prop where
 hq : Hq z.q (e.go t r (runE t r rs)).1
 ql : z.q.life = q0.life
 jf : JFl ((rs ++ [e]).map (Evt.by_ t)) σ z.f
abbrev stH (t : Ta) (r : Rl) (lim : Int) (g gd md : Nat) (rs : List Evt) (K : List Fa) (z : StR) : List Fa := sF g t r lim z.q (jC z.q.gj gd sj (cellsA (rs.map (Evt.by_ t))) :: dB gd md 1048576 :: dM md [z.f] z.ck :: dS [z.f] :: K)
theorem many_4000 {n : Nat} (h : n ≤ 4000) : manyL n ≤ 84 := by
 unfold manyL
 omega
section
variable {t : Ta} {r : Rl} {lim : Int} {K : List Fa} {z : PS} {Ml : List Md} {e : Evt} {y : StR} {M : Md} {pl' : List Fa}
theorem map_snoc_by {t : Ta} {rs : List Evt} {e : Evt} : (rs ++ [e]).map (Evt.by_ t) = rs.map (Evt.by_ t) ++ [e.by_ t] := by rw [List.map_append]; rfl
theorem PC.step (h : PC t r lim K z Ml) (T : TR_ t r lim) (he : e.can t r lim (runE t r z.rs)) (hl : ∀ a : Ab × Int, (e.go t r a).2 = a.2) (hy : StP t r z.rs e (cellsA ((z.rs.take z.k0).map (Evt.by_ t)) * 64) z.q y) (hM : Hm M (e.go t r (runE t r z.rs)).1) (hpl : ∀ φ : World → Prop, Vw (star z.pl :: K) φ → Vw (star pl' :: K) φ) (hv : MV (star pl' :: K) M) :
  PC t r lim K { z with q := y.q, f := y.f, ck := y.ck, rs := z.rs ++ [e], pl := pl', cb := z.cb + 84 } (Ml ++ [M]) := by
 have hk := h.k0
 have hn : 0 < Ml.length := List.length_pos_iff.2 h.ne
 have hby := Evt.by_ok T he
 refine ⟨h.can.snoc he, ?_, ?_, fun j h1 h2 => ?_, by simp, ?_, fun i M' hi => ?_, fun M' hM' => ?_, ?_, ?_, h.lb⟩
 ·show Hq y.q (runE t r (z.rs ++ [e])).1
  rw [runE_snoc]; exact hy.hq
 ·show y.q.life = (runE t r (z.rs ++ [e])).2
  rw [runE_snoc, hl, hy.ql]; exact h.ql
 ·show (runE t r ((z.rs ++ [e]).take j)).2 = z.life
  have h2' : j ≤ z.rs.length + 1 := by
   have : (z.rs ++ [e]).length = z.rs.length + 1 := by simp
   have h3 : j ≤ (z.rs ++ [e]).length := h2
   omega
  rcases Nat.lt_or_ge z.rs.length j with h4 | h4
  ·rw [List.take_of_length_le (by simp; omega), runE_snoc, hl, h.life]
  ·rw [List.take_append_of_le_length h4]; exact h.lf j h1 h4
 ·show z.k0 + (Ml ++ [M]).length = (z.rs ++ [e]).length + 1
  simp
  omega
 ·show Hm M' (runE t r ((z.rs ++ [e]).take (z.k0 + i))).1
  rcases Nat.lt_or_ge i Ml.length with h1 | h1
  ·rw [List.getElem?_append_left h1] at hi
   rw [List.take_append_of_le_length (by omega)]; exact h.ms i M' hi
  ·rw [List.getElem?_append_right h1] at hi
   have h2 : i - Ml.length = 0 := by
    have := (List.getElem?_eq_some_iff.1 hi).1
    simp at this
    omega
   rw [h2] at hi
   cases hi
   rw [List.take_of_length_le (by simp; omega), runE_snoc]; exact hM
 ·rcases List.mem_append.1 hM' with h1 | h1
  ·exact (h.mv M' h1).mono hpl
  ·rw [List.mem_singleton.1 h1]; exact hv
 ·show JFl ((z.rs ++ [e]).map (Evt.by_ t)) (cellsA (((z.rs ++ [e]).take z.k0).map (Evt.by_ t)) * 64) y.f
  rw [List.take_append_of_le_length (by omega)]; exact hy.jf
 ·show cellsA ((z.rs ++ [e]).map (Evt.by_ t)) ≤ z.cb + 84
  rw [map_snoc_by, cellsA_snoc]
  have h1 := many_4000 hby.2
  have h2 := h.cl
  have h3 : cellsA (z.ls t) = cellsA (z.rs.map (Evt.by_ t)) := rfl
  omega
theorem JFl.st {ls : List (List Int)} {σ : Nat} {f : DF} {ck : Nat} (h : JFl ls σ f) : JSt ls [f] ck σ := .inr ⟨f, rfl, h⟩
end
section
variable {t : Ta} {r : Rl} {lim tm : Int} {K : List Fa} {g gd md σ ckd : Nat} {q : StM} {a : Ab × Int} {rs : List Evt} {f : DF} {id : Id} {p s : List Int} {pA sA : Option Addr} {pc sc : Nat}
theorem sAccept_no (T : TR_ t r lim) (hq : Hq q (runE t r rs).1) (hg : GA t r lim (runE t r rs).1) (hp : p.length ≤ 1000) (hs : s.length ≤ 1000) (ht : 0 ≤ tm ∧ tm ≤ 1099511627776) (hpv : Vw K (fun w => Reads w 1 pA p.length (bytes p))) (hsv : Vw K (fun w => Reads w 1 sA s.length (bytes s))) (he : accA r lim (runE t r rs).1 id tm ≠ 0) :
  Fn Tryz.prog 10 #[.pointer (some ⟨g, 0, none⟩), .agg (rpC id tm (.slice pA p.length pc) (.slice sA s.length sc)).toArray] (sF g t r lim q (jC q.gj gd sj (cellsA (rs.map (Evt.by_ t))) :: dB gd md 1048576 :: dM md [f] ckd :: dS [f] :: K))
   (Ret (fun _ : Unit => True) (fun _ => .int .i64 (accA r lim (runE t r rs).1 id tm)) (fun _ => sF g t r lim q (jC q.gj gd sj (cellsA (rs.map (Evt.by_ t))) :: dB gd md 1048576 :: dM md [f] ckd :: dS [f] :: K))) := by
 have hE := accE_A (r := r) (lim := lim) (id := id) (tm := tm) hq (np := p.length) (ns := s.length) (by omega) (by omega)
 have hsl := hq.sslen hg T
 have hno : hasI q.ss id = false → wfind q.ws id = none := fun h => by
  rw [hq.has] at h
  exact kf_none' (hq.hd.wnone (hg.nowait (Option.isNone_iff_eq_none.1 (by simpa using h))).1)
 have h0 := sAccept_ok (K := K) (g := g) (gd := gd) (md := md) (σ := 0) (ckd := ckd) (t := t) (r := r) (lim := lim) (limd := 1048576) (q := q) (ls := rs.map (Evt.by_ t)) (fs := [f]) (id := id) (pc := pc) (sc := sc) T.w ⟨T.l0, T.l1⟩ ⟨ht.1, by omega⟩ hq.srt (by omega) hno hpv hsv (fun h => absurd (hE.symm.trans h) he)
 rw [hE] at h0
 refine h0.say fun y w hy hw => ?_
 rcases y with _ | y
 ·exact ⟨(), trivial, rfl, hw⟩
 ·exact absurd hy.1 he
theorem sAccept_yes (T : TR_ t r lim) (hq : Hq q (runE t r rs).1) (hg : GA t r lim (runE t r rs).1) (hp : p.length ≤ 1000) (hs : s.length ≤ 1000) (hpb : IsBytes p) (hsb : IsBytes s) (ht : 0 ≤ tm ∧ tm ≤ 1099511627776) (hpv : Vw K (fun w => Reads w 1 pA p.length (bytes p))) (hsv : Vw K (fun w => Reads w 1 sA s.length (bytes s))) (he : accA r lim (runE t r rs).1 id tm = 0)
  (hJ : JFl (rs.map (Evt.by_ t)) σ f) (hc : cellsA (rs.map (Evt.by_ t)) ≤ 14000) :
  (Evt.acc id tm p s).can t r lim (runE t r rs) ∧ Fn Tryz.prog 10 #[.pointer (some ⟨g, 0, none⟩), .agg (rpC id tm (.slice pA p.length pc) (.slice sA s.length sc)).toArray] (sF g t r lim q (jC q.gj gd sj (cellsA (rs.map (Evt.by_ t))) :: dB gd md 1048576 :: dM md [f] ckd :: dS [f] :: K))
   (Ret (StP t r rs (.acc id tm p s) σ q) (fun _ => .int .i64 0) (stH t r lim g gd md (rs ++ [.acc id tm p s]) K)) := by
 have hE := accE_A (r := r) (lim := lim) (id := id) (tm := tm) hq (np := p.length) (ns := s.length) (by omega) (by omega)
 have hsl := hq.sslen hg T
 have hse : (runE t r rs).1.seen id = none := by
  unfold accA at he
  split at he
  ·cases he
  ·rename_i h; exact Option.isNone_iff_eq_none.1 (by simpa using h)
 have hnl : ((runE t r rs).1.n : Int) < lim := by
  unfold accA at he
  rw [hse, if_neg (by decide)] at he
  split at he
  ·cases he
  ·omega
 have hcan : (Evt.acc id tm p s).can t r lim (runE t r rs) := ⟨hse, hnl, ht, hp, hs, hpb, hsb⟩
 have hby := Evt.by_ok T hcan
 have hno : hasI q.ss id = false → wfind q.ws id = none := fun h => kf_none' (hq.hd.wnone (hg.nowait hse).1)
 refine ⟨hcan, ?_⟩
 have hm := many_4000 hby.2
 have h0 := sAccept_ok (K := K) (g := g) (gd := gd) (md := md) (σ := σ) (ckd := ckd) (t := t) (r := r) (lim := lim) (limd := 1048576) (q := q) (ls := rs.map (Evt.by_ t)) (fs := [f]) (id := id) (pc := pc) (sc := sc) T.w ⟨T.l0, T.l1⟩ ⟨ht.1, by omega⟩ hq.srt (by omega) hno hpv hsv
  (fun _ => ⟨hJ.st, hby.1, Nat.le_trans hby.2 (by decide), by omega, by have : manyL (1 :: rcAcc id tm p s).length ≤ 84 := hm; omega, by decide⟩)
 rw [hE, he] at h0
 refine h0.say fun y w hy hw => ?_
 rcases y with _ | y
 ·exact absurd rfl hy
 ·obtain ⟨-, hj, A1, c1, pA', pc', sA', sc', hq'⟩ := hy
  have hac := hq.acc (A1 := A1) (c1 := c1) (ht := ⟨ht.1, by omega⟩) (w := ⟨id, tm, pA', pc', p, sA', sc', s, q.cw⟩) hse (hg.nowait hse).1 hnl ht.2 rfl rfl
  refine ⟨⟨y.q, y.f, y.ck⟩, ⟨?_, ?_, ?_⟩, rfl, ?_⟩
  ·show Hq y.q _
   rw [hq']; exact hac.2
  ·show y.q.life = _
   rw [hq']
   rfl
  ·rw [map_snoc_by]; exact hj
  ·unfold stH
   rw [map_snoc_by]; exact hw
end
section
variable {t : Ta} {r : Rl} {lim tm c : Int} {K : List Fa} {g gd md σ ckd cc d : Nat} {q : StM} {rs : List Evt} {f : DF} {id : Id} {xs said : List Int} {C B : Option Addr}
theorem wfind_t (hq : Hq q (runE t r rs).1) (hg : GA t r lim (runE t r rs).1) {w : Wt} (h : wfind q.ws id = some w) : 0 ≤ w.t ∧ w.t ≤ 1099511627776 := by
 obtain ⟨h1, h2⟩ := wfind_some h
 have h3 := hq.hd.wof h1
 have := hg.t1 _ _ (hg.w1 _ _ h3).1
 exact this
theorem sCommit_no (T : TR_ t r lim) (hq : Hq q (runE t r rs).1) (hg : GA t r lim (runE t r rs).1) (hxl : t.out = xs.length) (hx : ∀ x ∈ xs, InF t.fl x) (hsb : IsBytes said) (hsl : said.length ≤ 1000) (hxr : Vw K (fun w => Reads w 2 C xs.length (rows eC xs))) (hsr : Vw K (fun w => Reads w 1 B said.length (bytes said))) (he : comA r (runE t r rs).1 id ≠ 0) :
  Fn Tryz.prog 21 #[.pointer (some ⟨g, 0, none⟩), id.v, .slice C xs.length cc, .slice B said.length d] (sF g t r lim q (jC q.gj gd sj (cellsA (rs.map (Evt.by_ t))) :: dB gd md 1048576 :: dM md [f] ckd :: dS [f] :: K))
   (Ret (fun _ : Unit => True) (fun _ => .int .i64 (comA r (runE t r rs).1 id)) (fun _ => sF g t r lim q (jC q.gj gd sj (cellsA (rs.map (Evt.by_ t))) :: dB gd md 1048576 :: dM md [f] ckd :: dS [f] :: K))) := by
 have hE := comE_A (r := r) (id := id) hq
 have hsl2 := hq.sslen hg T
 have h0 := sCommit_ok (K := K) (g := g) (gd := gd) (md := md) (σ := 0) (ckd := ckd) (t := t) (r := r) (lim := lim) (limd := 1048576) (q := q) (ls := rs.map (Evt.by_ t)) (fs := [f]) (id := id) (cc := cc) (d := d) hq.srt (by omega) T.te T.w T.mx (fun w hw => by have := wfind_t hq hg hw; omega) T.fl hxl hx (hq.fsok hg) hxr hsr hsb (by omega)
  (fun w hw s hs e => by
    obtain ⟨h1, h2⟩ := wfind_some hw
    have h3 := hq.hd.wof h1
    rw [h2] at h3
    exact hq.nosd (hg.nosaid h3) s hs e) (fun h => absurd (hE.symm.trans h) he)
 rw [hE] at h0
 refine h0.say fun y w hy hw => ?_
 rcases y with _ | y
 ·exact ⟨(), trivial, rfl, hw⟩
 ·exact absurd (hE.symm.trans hy.1) he
theorem sCommit_yes (T : TR_ t r lim) (hq : Hq q (runE t r rs).1) (hg : GA t r lim (runE t r rs).1) (hxl : t.out = xs.length) (hx : ∀ x ∈ xs, InF t.fl x) (hsb : IsBytes said) (hsl : said.length ≤ 1000) (hxr : Vw K (fun w => Reads w 2 C xs.length (rows eC xs))) (hsr : Vw K (fun w => Reads w 1 B said.length (bytes said))) (he : comA r (runE t r rs).1 id = 0)
  (hJ : JFl (rs.map (Evt.by_ t)) σ f) (hc : cellsA (rs.map (Evt.by_ t)) ≤ 14000) :
  (∃ x, (runE t r rs).1.wait id = some x ∧ fitsA r (runE t r rs).1 x.1 = 0) ∧ (Evt.com id xs said).can t r lim (runE t r rs) ∧ Fn Tryz.prog 21 #[.pointer (some ⟨g, 0, none⟩), id.v, .slice C xs.length cc, .slice B said.length d] (sF g t r lim q (jC q.gj gd sj (cellsA (rs.map (Evt.by_ t))) :: dB gd md 1048576 :: dM md [f] ckd :: dS [f] :: K))
   (Ret (StP t r rs (.com id xs said) σ q) (fun _ => .int .i64 0) (stH t r lim g gd md (rs ++ [.com id xs said]) K)) := by
 have hE := comE_A (r := r) (id := id) hq
 have hsl2 := hq.sslen hg T
 obtain ⟨x, hw, hf⟩ : ∃ x, (runE t r rs).1.wait id = some x ∧ fitsA r (runE t r rs).1 x.1 = 0 := by
  unfold comA at he
  cases h : (runE t r rs).1.wait id with
  | none => rw [h] at he; cases he
  | some x => rw [h] at he; exact ⟨x, rfl, he⟩
 have hcan : (Evt.com id xs said).can t r lim (runE t r rs) := ⟨x, hw, hf, hxl.symm, hx, hsb, by omega⟩
 have hby := Evt.by_ok T hcan
 have hm := many_4000 hby.2
 refine ⟨⟨x, hw, hf⟩, hcan, ?_⟩
 have h0 := sCommit_ok (K := K) (g := g) (gd := gd) (md := md) (σ := σ) (ckd := ckd) (t := t) (r := r) (lim := lim) (limd := 1048576) (q := q) (ls := rs.map (Evt.by_ t)) (fs := [f]) (id := id) (cc := cc) (d := d) hq.srt (by omega) T.te T.w T.mx (fun w hw => by have := wfind_t hq hg hw; omega) T.fl hxl hx (hq.fsok hg) hxr hsr hsb (by omega)
  (fun w hw s hs e => by
    obtain ⟨h1, h2⟩ := wfind_some hw
    have h3 := hq.hd.wof h1
    rw [h2] at h3
    exact hq.nosd (hg.nosaid h3) s hs e) (fun _ => ⟨hJ.st, by omega, by have : manyL (2 :: rcCom id (vecB t.fl xs) said).length ≤ 84 := hm; omega, by decide⟩)
 rw [hE, he] at h0
 refine h0.say fun y w hy hw' => ?_
 rcases y with _ | y
 ·exact absurd (hE.trans he) hy
 ·obtain ⟨-, hj, hq'⟩ := hy
  refine ⟨⟨y.q, y.f, y.ck⟩, ⟨hq.com hg hw hq', ?_, ?_⟩, rfl, ?_⟩
  ·obtain ⟨w', A1, c1, b', fs', cb', sA, sc, _, _, _, e⟩ := hq'
   show y.q.life = _
   rw [e]
  ·rw [map_snoc_by]; exact hj
  ·unfold stH
   rw [map_snoc_by]; exact hw'
theorem sReject_no (T : TR_ t r lim) (hq : Hq q (runE t r rs).1) (hg : GA t r lim (runE t r rs).1) (hc : 0 ≤ c ∧ c ≤ 255) (he : rejA (runE t r rs).1 id c ≠ 0) :
  Fn Tryz.prog 22 #[.pointer (some ⟨g, 0, none⟩), id.v, .int .i64 c] (sF g t r lim q (jC q.gj gd sj (cellsA (rs.map (Evt.by_ t))) :: dB gd md 1048576 :: dM md [f] ckd :: dS [f] :: K))
   (Ret (fun _ : Unit => True) (fun _ => .int .i64 (rejA (runE t r rs).1 id c)) (fun _ => sF g t r lim q (jC q.gj gd sj (cellsA (rs.map (Evt.by_ t))) :: dB gd md 1048576 :: dM md [f] ckd :: dS [f] :: K))) := by
 have hE := rejX_A (id := id) hq c
 have hsl2 := hq.sslen hg T
 have h0 := sReject_ok (K := K) (g := g) (gd := gd) (md := md) (σ := 0) (ckd := ckd) (t := t) (r := r) (lim := lim) (limd := 1048576) (c := c) (q := q) (ls := rs.map (Evt.by_ t)) (fs := [f]) (id := id) ⟨by omega, by omega⟩ hq.srt (by omega) (fun h => absurd (hE.symm.trans h) he)
 rw [hE] at h0
 refine h0.say fun y w hy hw => ?_
 rcases y with _ | y
 ·exact ⟨(), trivial, rfl, hw⟩
 ·exact absurd (hE.symm.trans hy.1) he
theorem sReject_yes (T : TR_ t r lim) (hq : Hq q (runE t r rs).1) (hg : GA t r lim (runE t r rs).1) (hc : 0 ≤ c ∧ c ≤ 255) (he : rejA (runE t r rs).1 id c = 0) (hJ : JFl (rs.map (Evt.by_ t)) σ f) (hcl : cellsA (rs.map (Evt.by_ t)) ≤ 14000) :
  (Evt.rej id c).can t r lim (runE t r rs) ∧ Fn Tryz.prog 22 #[.pointer (some ⟨g, 0, none⟩), id.v, .int .i64 c] (sF g t r lim q (jC q.gj gd sj (cellsA (rs.map (Evt.by_ t))) :: dB gd md 1048576 :: dM md [f] ckd :: dS [f] :: K))
   (Ret (StP t r rs (.rej id c) σ q) (fun _ => .int .i64 0) (stH t r lim g gd md (rs ++ [.rej id c]) K)) := by
 have hE := rejX_A (id := id) hq c
 have hsl2 := hq.sslen hg T
 have hcan : (Evt.rej id c).can t r lim (runE t r rs) := by
  unfold rejA at he
  split at he
  ·rename_i h1
   split at he
   ·cases he
   ·exact ⟨h1, by omega, by omega, by omega⟩
  ·cases he
 refine ⟨hcan, ?_⟩
 have h0 := sReject_ok (K := K) (g := g) (gd := gd) (md := md) (σ := σ) (ckd := ckd) (t := t) (r := r) (lim := lim) (limd := 1048576) (c := c) (q := q) (ls := rs.map (Evt.by_ t)) (fs := [f]) (id := id) ⟨by omega, by omega⟩ hq.srt (by omega) (fun _ => ⟨hJ.st, by omega, by omega, by decide⟩)
 rw [hE, he] at h0
 refine h0.say fun y w hy hw => ?_
 rcases y with _ | y
 ·exact absurd (hE.trans he) hy
 ·obtain ⟨-, hj, A1, c1, hq'⟩ := hy
  refine ⟨⟨y.q, y.f, y.ck⟩, ⟨?_, ?_, ?_⟩, rfl, ?_⟩
  ·show Hq y.q _
   rw [hq']; exact hq.rej hg hcan.1
  ·show y.q.life = _
   rw [hq']
  ·rw [map_snoc_by]; exact hj
  ·unfold stH
   rw [map_snoc_by]; exact hw
def refA (r : Rl) (lim : Int) (a : Ab) (id : Id) (tm c : Int) : Int := if c ≤ 0 ∨ c = 30 ∨ 31 < c then 10 else accA r lim a id tm
theorem refE_A (hq : Hq q (runE t r rs).1) : refE r lim q id tm c = refA r lim (runE t r rs).1 id tm c := by
 unfold refE refA
 rw [accE_A hq (by decide) (by decide)]
theorem sRefuse_no (T : TR_ t r lim) (hq : Hq q (runE t r rs).1) (hg : GA t r lim (runE t r rs).1) (ht : 0 ≤ tm ∧ tm ≤ 1099511627776) (hc : 0 ≤ c ∧ c ≤ 255) (he : refA r lim (runE t r rs).1 id tm c ≠ 0) :
  Fn Tryz.prog 23 #[.pointer (some ⟨g, 0, none⟩), id.v, .int .u64 tm, .int .i64 c] (sF g t r lim q (jC q.gj gd sj (cellsA (rs.map (Evt.by_ t))) :: dB gd md 1048576 :: dM md [f] ckd :: dS [f] :: K))
   (Ret (fun _ : Unit => True) (fun _ => .int .i64 (refA r lim (runE t r rs).1 id tm c)) (fun _ => sF g t r lim q (jC q.gj gd sj (cellsA (rs.map (Evt.by_ t))) :: dB gd md 1048576 :: dM md [f] ckd :: dS [f] :: K))) := by
 have hE := refE_A (r := r) (lim := lim) (id := id) (tm := tm) (c := c) hq
 have hsl2 := hq.sslen hg T
 have hno : hasI q.ss id = false → wfind q.ws id = none := fun h => by
  rw [hq.has] at h
  exact kf_none' (hq.hd.wnone (hg.nowait (Option.isNone_iff_eq_none.1 (by simpa using h))).1)
 have h0 := sRefuse_ok (K := K) (g := g) (gd := gd) (md := md) (σ := 0) (ckd := ckd) (t := t) (r := r) (lim := lim) (limd := 1048576) (tm := tm) (c := c) (q := q) (ls := rs.map (Evt.by_ t)) (fs := [f]) (id := id) T.w ⟨T.l0, T.l1⟩ ⟨ht.1, by omega⟩ ⟨by omega, by omega⟩ hq.srt (by omega) hno (fun h => absurd (hE.symm.trans h) he)
 rw [hE] at h0
 refine h0.say fun y w hy hw => ?_
 rcases y with _ | y
 ·exact ⟨(), trivial, rfl, hw⟩
 ·exact absurd (hE.symm.trans hy.1) he
theorem sRefuse_yes (T : TR_ t r lim) (hq : Hq q (runE t r rs).1) (hg : GA t r lim (runE t r rs).1) (ht : 0 ≤ tm ∧ tm ≤ 1099511627776) (hc : 0 ≤ c ∧ c ≤ 255) (he : refA r lim (runE t r rs).1 id tm c = 0) (hJ : JFl (rs.map (Evt.by_ t)) σ f) (hcl : cellsA (rs.map (Evt.by_ t)) ≤ 14000) :
  (Evt.acc id tm [] []).can t r lim (runE t r rs) ∧ (Evt.rej id c).can t r lim (runE t r (rs ++ [.acc id tm [] []])) ∧ Fn Tryz.prog 23 #[.pointer (some ⟨g, 0, none⟩), id.v, .int .u64 tm, .int .i64 c] (sF g t r lim q (jC q.gj gd sj (cellsA (rs.map (Evt.by_ t))) :: dB gd md 1048576 :: dM md [f] ckd :: dS [f] :: K))
   (Ret (StP t r (rs ++ [.acc id tm [] []]) (.rej id c) σ q) (fun _ => .int .i64 0) (stH t r lim g gd md (rs ++ [.acc id tm [] []] ++ [.rej id c]) K)) := by
 have hE := refE_A (r := r) (lim := lim) (id := id) (tm := tm) (c := c) hq
 have hsl2 := hq.sslen hg T
 have hcc : ¬ (c ≤ 0 ∨ c = 30 ∨ 31 < c) := fun h => by unfold refA at he; rw [if_pos h] at he; cases he
 have hac : accA r lim (runE t r rs).1 id tm = 0 := by unfold refA at he; rwa [if_neg hcc] at he
 have hse : (runE t r rs).1.seen id = none := by
  unfold accA at hac
  split at hac
  ·cases hac
  ·rename_i h; exact Option.isNone_iff_eq_none.1 (by simpa using h)
 have hnl : ((runE t r rs).1.n : Int) < lim := by
  unfold accA at hac
  rw [hse, if_neg (by decide)] at hac
  split at hac
  ·cases hac
  ·omega
 have hcan : (Evt.acc id tm [] []).can t r lim (runE t r rs) := ⟨hse, hnl, ht, by decide, by decide, (fun x h => by cases h), (fun x h => by cases h)⟩
 have hw2 : (runE t r (rs ++ [.acc id tm [] []])).1.wait id = some (tm, [], []) := by
  rw [runE_snoc]; exact updI_self
 have hcan2 : (Evt.rej id c).can t r lim (runE t r (rs ++ [.acc id tm [] []])) := ⟨by rw [hw2]; rfl, by omega, by omega, by omega⟩
 refine ⟨hcan, hcan2, ?_⟩
 have hno : hasI q.ss id = false → wfind q.ws id = none := fun h => kf_none' (hq.hd.wnone (hg.nowait hse).1)
 have h0 := sRefuse_ok (K := K) (g := g) (gd := gd) (md := md) (σ := σ) (ckd := ckd) (t := t) (r := r) (lim := lim) (limd := 1048576) (tm := tm) (c := c) (q := q) (ls := rs.map (Evt.by_ t)) (fs := [f]) (id := id) T.w ⟨T.l0, T.l1⟩ ⟨ht.1, by omega⟩ ⟨by omega, by omega⟩ hq.srt (by omega) hno (fun _ => ⟨hJ.st, by omega, by omega, by decide⟩)
 rw [hE, he] at h0
 refine h0.say fun y w hy hw => ?_
 rcases y with _ | y
 ·exact absurd (hE.trans he) hy
 ·obtain ⟨-, hj, q1, A1, c1, pA, pc, sA, sc, A2, c2, hq1, hq2⟩ := hy
  have hac1 := hq.acc (A1 := A1) (c1 := c1) (ht := ⟨ht.1, by omega⟩) (w := ⟨id, tm, pA, pc, [], sA, sc, [], q.cw⟩) hse (hg.nowait hse).1 hnl ht.2 rfl rfl
  have hq1' : Hq q1 (runE t r (rs ++ [.acc id tm [] []])).1 := by
   rw [hq1, runE_snoc]; exact hac1.2
  have hg1 : GA t r lim (runE t r (rs ++ [.acc id tm [] []])).1 := by
   rw [runE_snoc]; exact hg.go hcan
  have hby : ((rs ++ [Evt.acc id tm [] []]) ++ [Evt.rej id c]).map (Evt.by_ t) = rs.map (Evt.by_ t) ++ [1 :: rcAcc id tm [] []] ++ [3 :: rcRej id c] := by
   rw [map_snoc_by, map_snoc_by]
   rfl
  refine ⟨⟨y.q, y.f, y.ck⟩, ⟨?_, ?_, ?_⟩, rfl, ?_⟩
  ·show Hq y.q _
   rw [hq2]; exact hq1'.rej hg1 hcan2.1
  ·show y.q.life = _
   rw [hq2, hq1]
   rfl
  ·rw [hby]; exact hj
  ·unfold stH
   rw [hby]; exact hw
end
section
structure Ax where
 kd : Int
 ib : Int
 tm : Int
 bA : Option Addr
 bc : Nat
 b : List Int
 oA : Option Addr
 oc : Nat
 o : List Int
 co : Int
 kp : Int
def Ax.C (x : Ax) : List Value := [.int .u8 x.kd, .int .u8 x.ib, .int .u8 x.tm, .slice x.bA x.b.length x.bc, .slice x.oA x.o.length x.oc, .int .u8 x.co, .int .u16 x.kp]
theorem Ax.one (x : Ax) : ∀ v ∈ x.C, v.oneCell' = true := by
 intro v hv
 simp only [Ax.C, List.mem_cons, List.not_mem_nil, or_false] at hv
 rcases hv with rfl | rfl | rfl | rfl | rfl | rfl | rfl <;> rfl
theorem Ax.len (x : Ax) : x.C.length = 7 := rfl
theorem Ax.n0 (x : Ax) : nth x.C 0 = some (.int .u8 x.kd) := rfl
theorem Ax.n1 (x : Ax) : nth x.C 1 = some (.int .u8 x.ib) := rfl
theorem Ax.n2 (x : Ax) : nth x.C 2 = some (.int .u8 x.tm) := rfl
theorem Ax.n3 (x : Ax) : nth x.C 3 = some (.slice x.bA x.b.length x.bc) := rfl
theorem Ax.n4 (x : Ax) : nth x.C 4 = some (.slice x.oA x.o.length x.oc) := rfl
theorem Ax.n5 (x : Ax) : nth x.C 5 = some (.int .u8 x.co) := rfl
theorem Ax.n6 (x : Ax) : nth x.C 6 = some (.int .u16 x.kp) := rfl
structure AxOk (K : List Fa) (x : Ax) : Prop where
 kd : 0 ≤ x.kd ∧ x.kd ≤ 255
 ib : 0 ≤ x.ib ∧ x.ib ≤ 255
 tm : 0 ≤ x.tm ∧ x.tm ≤ 255
 b : Vw K (fun w => Reads w 1 x.bA x.b.length (bytes x.b))
 bb : IsBytes x.b
 o : Vw K (fun w => Reads w 2 x.oA x.o.length (rows eC x.o))
 oe : Els x.o
 co : 0 ≤ x.co ∧ x.co ≤ 255
 kp : 0 ≤ x.kp ∧ x.kp ≤ 65535
abbrev pK (g9 g10 gd na cq : Nat) (lim : Int) (QA : Option Addr) (z : PS) (g18 gm g20 : Nat) (now : Int) : Env := (18, .pointer (some ⟨g18, 0, none⟩)) :: (19, .pointer (some ⟨gm, 0, none⟩)) :: (20, .pointer (some ⟨g20, 0, none⟩)) :: (21, .int .u64 now) :: (22, .int .i64 0) :: (23, .int .i64 0) :: (24, .int .i64 1) :: pE g9 g10 gd na cq lim QA z
abbrev kH (t : Ta) (r : Rl) (lim : Int) (g9 g10 gd md : Nat) (z : PS) (g18 g20 : Nat) (x : Ax) (id : Id) (M : Md) (K : List Fa) : List Fa := blk g18 99 x.C :: blk g20 47 (bytes id.l) :: mdF t r lim M (pH t r lim g9 g10 gd md z K)
theorem build_rp4 (id : Id) (t : Int) (a b : Option Addr) (n m c d : Nat) (W : World) : (Instr.build 49 #[(0, id.v), (1, .int .u64 t), (2, .slice a n c), (3, .slice b m d)]).run Tryz.prog W = .ok (.agg (rpC id t (.slice a n c) (.slice b m d)).toArray) W := by
 obtain ⟨a0, a1, a2, a3, a4, a5, a6, a7, a8, a9, a10, a11, a12, a13, a14, a15, h⟩ := list16m id.len
 show (Instr.build 49 #[(0, .agg (bytes id.l).toArray), (1, .int .u64 t), (2, .slice a n c), (3, .slice b m d)]).run Tryz.prog W = _
 unfold rpC
 rw [h]
 kernel_rfl
theorem pool_in {f : Fa} {pl K : List Fa} : Ent_ (f :: star pl :: K) (star (f :: pl) :: K) := fun w hw => by
 have h1 : Sep w (f :: star ([] ++ pl) :: K) := hw
 exact kstar_push (A := []) (B := pl) w h1
theorem pool_out {f : Fa} {pl K : List Fa} : Ent_ (star (f :: pl) :: K) (f :: star pl :: K) := fun w hw => kstar_pull (A := []) (B := pl) w hw
theorem pool_vw {f : Fa} {pl K : List Fa} (φ : World → Prop) (h : Vw (star pl :: K) φ) : Vw (star (f :: pl) :: K) φ := fun w hw => h w (pool_out w hw).tl
theorem pool_vw1 {f : Fa} {pl K : List Fa} {φ : World → Prop} (h : Vw (f :: star pl :: K) φ) : Vw (star (f :: pl) :: K) φ := fun w hw => h w (pool_out w hw)
namespace pVk5
theorem midx_ (h : φ := by first | exact rpC_id | exact Mid.all) : φ := h
theorem szx_ (h : φ := by ((try simp only [rpC_len, bytes_length, Id.len]); (first | done | rfl); first | done | fail)) : φ := h
theorem onex_ (h : φ := by first | exact one_bytes _ | exact rpC_one rfl rfl | exact Ax.one _) : φ := h
end pVk5
open pVk5
section
variable {t : Ta} {r : Rl} {lim now : Int} {K : List Fa} {z : PS} {g9 g10 gd md na cq g18 g20 : Nat} {QA : Option Addr} {x : Ax} {id : Id} {M : Md} {Q' : Exit → Act → World → Prop}
theorem o1_Vk5 (k : ψ) (h : Hide ψ → φ := by (intro k; refine sl_pu (pu_build rfl (build_rp4 id now x.bA A2 x.b.length (x.co :: x.b).length x.bc c2)) rfl ?_; exact k.out)) : φ := h ⟨k⟩
theorem e1_Vk5 (h : φ := by (refine v1_ 12 ?_; refine sto_ ?_; refine vx_ ?_; exact se_mid (g37, A2, c2) has_ sub_ trivial)) : φ := h
theorem pAcc (T : TR_ t r lim) (hz : PC t r lim K z z.Ms) (hr : RowOk z) (hcb : z.cb ≤ 13000) (hm : Hm M (runE t r z.rs).1) (hv : MV (star z.pl :: K) M) (hx : AxOk K x) (hbl : x.b.length ≤ 100) (hnow : 0 ≤ now ∧ now ≤ 39) (hN : NoP Q')
  (hA : ∀ {l : Env} {L : List Fa} (z' : PS) (M' : Md), PC t r lim K z' (z'.Ms ++ [M']) → RowOk z' → z'.i = z.i ∧ z'.cb ≤ z.cb + 170 ∧ z'.lm = z.lm → Has l (pM g9 g10 gd na cq lim QA z' (.pointer (some ⟨M'.g, 0, none⟩)) 0 1) → Sub L (mdF t r lim M' (pH t r lim g9 g10 gd md z' K)) → SE Q' .normal 351 l L)
  (hB : ∀ {l : Env} {L : List Fa} (z' : PS) (v19 : Value) (e nt : Int), PC t r lim K z' z'.Ms → RowOk z' → z'.i = z.i ∧ z'.cb ≤ z.cb + 170 ∧ z'.lm ≤ z.lm + 1 → (e ≠ 0 ∨ nt ≠ 1) → Has l (pM g9 g10 gd na cq lim QA z' v19 e nt) → Sub L (pH t r lim g9 g10 gd md z' K) → SE Q' .normal 351 l L) :
  SC Tryz.prog (cAt [false, false, false, false, false, false, false, false, false, true, false, true, true, false, false, true, true, false, false, false, false, false, true, false, true, false, false, false, false, false, false, false, false, false, false, false, false] (fb Tryz.f5)) Q' 351 (pK g9 g10 gd na cq lim QA z g18 M.g g20 now) (kH t r lim g9 g10 gd md z g18 g20 x id M K) := by
 have hga := hz.ga T
 have hmn := hm.n
 have hgn := hga.n
 have hl1 := T.l1
 have hcl := hz.cl
 have hblen : (x.co :: x.b).length = x.b.length + 1 := rfl
 have hbc : IsBytes (x.co :: x.b) := fun y hy => by
  rcases List.mem_cons.1 hy with e | e
  ·rw [e]; have := hx.co; omega
  ·exact hx.bb y e
 have hbK : ∀ L, Sub L K → Vw L (fun w => Reads w 1 x.bA x.b.length (bytes x.b)) := fun L h => hx.b.mono h
 refine sc_mid (α := Nat × Option Addr × Nat) (fun y => (37, .pointer (some ⟨y.1, 0, none⟩)) :: (19, .pointer (some ⟨M.g, 0, none⟩)) :: (24, .int .i64 1) :: pE g9 g10 gd na cq lim QA z)
  (fun y => blk y.1 49 (rpC id now (.slice x.bA x.b.length x.bc) (.slice y.2.1 (x.co :: x.b).length y.2.2)) :: u8o y.2.1 y.2.2 (x.co :: x.b) :: mdF t r lim M (pH t r lim g9 g10 gd md z K)) (fun _ => True) ?_ ?_
 ·refine dr_ [blk g18 99 x.C, blk g20 47 (bytes id.l)] 13 ?_; refine y4_ 0 1 2 3 ?_; refine y4_ 4 5 7 8 ?_; refine w2_ 6 11 ?_ ?_
  ·refine sl_build (size := 1) (e := 5) (cells := bytes [x.co]) rfl (fun W => by kernel_rfl) rfl (by decide) rfl ?_; intro g1; refine v2_ 9 11 ?_ ?_
   ·refine sl_app (k := 1) (xs := bytes [x.co]) rfl pick_ rfl (hbK _ sub_) (one_bytes _) rfl Tryz.info5 (by decide) (by decide) rfl (by unfold maxLen; omega) (by omega) ?_; intro A2 c2; rw [show 1 + x.b.length = (x.co :: x.b).length by rw [hblen]; omega, show bytes [x.co] ++ bytes x.b = bytes (x.co :: x.b) from rfl]; refine v2_ 10 11 ?_ ?_
    ·refine o1_Vk5 ?_; refine v1_ 11 ?_; refine al_ ?_; intro g37; exact e1_Vk5
    ·refine al_ ?_; intro g37; refine v1_ 10 ?_; refine o1_Vk5 ?_; exact e1_Vk5
   ·refine al_ ?_; intro g37; refine v1_ 9 ?_; refine sl_app (k := 1) (xs := bytes [x.co]) rfl pick_ rfl (hbK _ sub_) (one_bytes _) rfl Tryz.info5 (by decide) (by decide) rfl (by unfold maxLen; omega) (by omega) ?_; intro A2 c2; rw [show 1 + x.b.length = (x.co :: x.b).length by rw [hblen]; omega, show bytes [x.co] ++ bytes x.b = bytes (x.co :: x.b) from rfl]; refine v1_ 10 ?_; refine o1_Vk5 ?_; exact e1_Vk5
  ·refine al_ ?_; intro g37; refine v1_ 6 ?_; refine sl_build (size := 1) (e := 5) (cells := bytes [x.co]) rfl (fun W => by kernel_rfl) rfl (by decide) rfl ?_; intro g1; refine v1_ 9 ?_; refine sl_app (k := 1) (xs := bytes [x.co]) rfl pick_ rfl (hbK _ sub_) (one_bytes _) rfl Tryz.info5 (by decide) (by decide) rfl (by unfold maxLen; omega) (by omega) ?_; intro A2 c2; rw [show 1 + x.b.length = (x.co :: x.b).length by rw [hblen]; omega, show bytes [x.co] ++ bytes x.b = bytes (x.co :: x.b) from rfl]; refine v1_ 10 ?_; refine o1_Vk5 ?_; exact e1_Vk5
 rintro ⟨g37, A2, c2⟩ -; dsimp only
 by_cases he : accA r lim (runE t r z.rs).1 id now = 0
 ·obtain ⟨hcan, hacc⟩ := sAccept_yes (K := blk g37 49 (rpC id now (.slice x.bA x.b.length x.bc) (.slice A2 (x.co :: x.b).length c2)) :: u8o A2 c2 (x.co :: x.b) :: mdF t r lim M (blk g9 34 t.c :: blk g10 38 r.c :: blk z.rw.g 89 z.rw.cur :: mds t r lim z.Ms :: star z.pl :: K)) (g := z.gu) (gd := gd) (md := md) (ckd := z.ck) (q := z.q) (rs := z.rs) (f := z.f) (id := id) (tm := now) (p := x.b) (s := x.co :: x.b) (pA := x.bA) (pc := x.bc) (sA := A2) (sc := c2) T hz.hq hga (by omega) (by rw [hblen]; omega) hx.bb hbc ⟨hnow.1, by omega⟩ (hbK _ sub_) (Vw.of_own (e := 5) (A := A2) (c := c2) at_) he hz.jf (by have : cellsA (z.rs.map (Evt.by_ t)) ≤ z.cb := hcl; omega)
  have hse := hcan.1
  refine dr_ [blk g37 49 (rpC id now (.slice x.bA x.b.length x.bc) (.slice A2 (x.co :: x.b).length c2))] 8 ?_; refine y4_ 0 1 3 4 ?_; refine w1_ 2 ?_; refine slc_ rfl rfl sub_ hacc ?_; rintro y hy; refine v1_ 5 ?_; refine slc_ rfl rfl sub_ (maccept_ok (K := blk g37 49 (rpC id now (.slice x.bA x.b.length x.bc) (.slice A2 (x.co :: x.b).length c2)) :: u8o A2 c2 (x.co :: x.b) :: stH t r lim z.gu gd md (z.rs ++ [.acc id now x.b (x.co :: x.b)]) (blk g9 34 t.c :: blk g10 38 r.c :: blk z.rw.g 89 z.rw.cur :: mds t r lim z.Ms :: star z.pl :: K) y) (t := t) (r := r) (lim := lim) (M := M) (id := id) (tm := now) (pA := x.bA) (pc := x.bc) (p := x.b) (sA := A2) (sc := c2) (s := x.co :: x.b) T.w ⟨hnow.1, by omega⟩ ⟨hnow.1, by omega⟩ (by omega) (by rw [maccE_A hm]; exact he) (kf_none' (hm.wnone (hga.nowait hse).1))) ?_; rintro ⟨A3, c3⟩ -; refine vy_ 6 ?_; refine wy_ 7 ?_; refine wx_ ?_
  skip
  obtain ⟨M', hM'⟩ : ∃ M', M' = M.acc A3 c3 ⟨id, now, 30, ⟨hnow.1, by omega⟩, by decide⟩ ⟨id, now, x.bA, x.bc, x.b, A2, c2, x.co :: x.b, M.cw⟩ := ⟨_, rfl⟩
  have hmm : Hm M' ((Evt.acc id now x.b (x.co :: x.b)).go t r (runE t r z.rs)).1 := by rw [hM']; exact hm.acc hse (hga.nowait hse).1 rfl rfl
  have hvv : MV (star (u8o A2 c2 (x.co :: x.b) :: z.pl) :: K) M' := by
   rw [hM']
   refine ⟨fun w hw => ?_, fun w hw => ?_, fun b hb => pool_vw _ (hv.b b hb)⟩
   ·rcases List.mem_append.1 hw with h | h
    ·exact pool_vw _ (hv.p w h)
    ·rw [List.mem_singleton.1 h]; exact pool_vw _ (hx.b.mono (Sub.skip Sub.refl))
   ·rcases List.mem_append.1 hw with h | h
    ·exact pool_vw _ (hv.s w h)
    ·rw [List.mem_singleton.1 h]; exact pool_vw1 (Vw.of_own (e := 5) (c := c2) .here)
  refine se_subK (L' := u8o A2 c2 (x.co :: x.b) :: star z.pl :: mdF t r lim M' (stH t r lim z.gu gd md (z.rs ++ [.acc id now x.b (x.co :: x.b)]) (blk g9 34 t.c :: blk g10 38 r.c :: blk z.rw.g 89 z.rw.cur :: mds t r lim z.Ms :: K) y)) (by rw [hM']; exact sub_) ?_; refine se_ent pool_in ?_; exact hA { z with q := y.q, f := y.f, ck := y.ck, rs := z.rs ++ [.acc id now x.b (x.co :: x.b)], pl := u8o A2 c2 (x.co :: x.b) :: z.pl, cb := z.cb + 84 } M' (hz.step T hcan (fun a => rfl) hy hmm (fun φ h => pool_vw φ h) hvv) ⟨hr.ok, hr.xs⟩ ⟨rfl, by show z.cb + 84 ≤ _; omega, rfl⟩ (by rw [hM']; exact has_) sub_
 ·have hano := sAccept_no (K := blk g37 49 (rpC id now (.slice x.bA x.b.length x.bc) (.slice A2 (x.co :: x.b).length c2)) :: u8o A2 c2 (x.co :: x.b) :: mdF t r lim M (blk g9 34 t.c :: blk g10 38 r.c :: blk z.rw.g 89 z.rw.cur :: mds t r lim z.Ms :: star z.pl :: K)) (g := z.gu) (gd := gd) (md := md) (ckd := z.ck) (q := z.q) (rs := z.rs) (f := z.f) (id := id) (tm := now) (p := x.b) (s := x.co :: x.b) (pA := x.bA) (pc := x.bc) (sA := A2) (sc := c2) T hz.hq hga (by omega) (by rw [hblen]; omega) ⟨hnow.1, by omega⟩ (hbK _ sub_) (Vw.of_own (e := 5) (A := A2) (c := c2) at_) he
  have hmno := fun K' => maccept_no (K := K') (t := t) (r := r) (lim := lim) (M := M) (id := id) (tm := now) (P := .slice x.bA x.b.length x.bc) (S := .slice A2 (x.co :: x.b).length c2) rfl rfl T.w ⟨hnow.1, by omega⟩ (by omega) (by rw [maccE_A hm]; exact he)
  rw [maccE_A hm] at hmno
  refine dr_ [blk g37 49 (rpC id now (.slice x.bA x.b.length x.bc) (.slice A2 (x.co :: x.b).length c2))] 8 ?_; refine y4_ 0 1 3 4 ?_; refine w1_ 2 ?_; refine slc_ rfl rfl sub_ hano ?_; rintro _ -; refine v1_ 5 ?_; refine slc_ rfl rfl sub_ (hmno (blk g37 49 (rpC id now (.slice x.bA x.b.length x.bc) (.slice A2 (x.co :: x.b).length c2)) :: u8o A2 c2 (x.co :: x.b) :: pJ t r lim gd md z (blk g9 34 t.c :: blk g10 38 r.c :: blk z.rw.g 89 z.rw.cur :: mds t r lim z.Ms :: star z.pl :: K))) ?_; rintro _ -; refine vy_ 6 ?_; refine wy_ 7 ?_; refine wx_ ?_; exact hB z _ _ 1 hz hr ⟨rfl, by omega, by omega⟩ (.inl he) has_ sub_
end
end
section
theorem els_in {f : Int} (hf : f = 1 ∨ f = 2) {zs : List Int} (h : ∀ z ∈ zs, InF f z) : Els zs := fun z hz => inF_El hf (h z hz)
theorem inF_0 {f : Int} (hf : f = 1 ∨ f = 2) : InF f 0 := ⟨by decide, by rcases hf with rfl | rfl <;> decide⟩
theorem up_mem {fs fs' : List BK} {b' b : BK} (h : BkUp fs fs' b') (hb : b ∈ fs') : b ∈ fs ∨ b = b' := by
 rcases h with ⟨X, b0, Y, rfl, -, rfl⟩ | ⟨-, rfl⟩
 ·rcases List.mem_append.1 hb with e | e
  ·exact .inl (by simp [e])
  ·rcases List.mem_cons.1 e with e | e
   ·exact .inr e
   ·exact .inl (by simp [e])
 ·rcases List.mem_append.1 hb with e | e
  ·exact .inl e
  ·exact .inr (List.mem_singleton.1 e)
namespace pVk6
theorem midx_ (h : φ := by first | exact Ta.mid _ | exact rpC_id | exact Mid.all) : φ := h
theorem szx_ (h : φ := by ((try simp only [rpC_len, bytes_length, Id.len, eC_len]); (first | done | rfl); first | done | fail)) : φ := h
theorem onex_ (h : φ := by first | exact eC_one _ | exact one_bytes _ | exact rpC_one rfl rfl | exact Ax.one _) : φ := h
end pVk6
open pVk6
section
variable {t : Ta} {r : Rl} {lim now : Int} {K : List Fa} {z : PS} {g9 g10 gd md na cq g18 g20 : Nat} {QA : Option Addr} {x : Ax} {id : Id} {M : Md} {Q' : Exit → Act → World → Prop}
abbrev pN (g9 g10 gd na cq : Nat) (lim : Int) (QA : Option Addr) (z : PS) (g18 gm g20 : Nat) : Env := (18, .pointer (some ⟨g18, 0, none⟩)) :: (19, .pointer (some ⟨gm, 0, none⟩)) :: (20, .pointer (some ⟨g20, 0, none⟩)) :: (24, .int .i64 1) :: pE g9 g10 gd na cq lim QA z
theorem pComB {zs : List Int} {g25 : Nat} (T : TR_ t r lim) (hz : PC t r lim K z z.Ms) (hr : RowOk z) (hcb : z.cb ≤ 13000) (hm : Hm M (runE t r z.rs).1) (hv : MV (star z.pl :: K) M) (hx : AxOk K x) (hbl : x.b.length ≤ 100) (hxl : t.out = zs.length) (hzi : ∀ z ∈ zs, InF t.fl z) (hN : NoP Q')
  (hA : ∀ {l : Env} {L : List Fa} (z' : PS) (M' : Md), PC t r lim K z' (z'.Ms ++ [M']) → RowOk z' → z'.i = z.i ∧ z'.cb ≤ z.cb + 170 ∧ z'.lm = z.lm → Has l (pM g9 g10 gd na cq lim QA z' (.pointer (some ⟨M'.g, 0, none⟩)) 0 1) → Sub L (mdF t r lim M' (pH t r lim g9 g10 gd md z' K)) → SE Q' .normal 351 l L)
  (hB : ∀ {l : Env} {L : List Fa} (z' : PS) (v19 : Value) (e nt : Int), PC t r lim K z' z'.Ms → RowOk z' → z'.i = z.i ∧ z'.cb ≤ z.cb + 170 ∧ z'.lm ≤ z.lm + 1 → (e ≠ 0 ∨ nt ≠ 1) → Has l (pM g9 g10 gd na cq lim QA z' v19 e nt) → Sub L (pH t r lim g9 g10 gd md z' K) → SE Q' .normal 351 l L) :
  SC Tryz.prog (cAt [false, false, false, false, false, false, false, false, false, true, false, true, true, false, false, true, true, false, false, false, false, false, true, false, true, false, true, false, false] (fb Tryz.f5)) Q' 351 ((25, .slice (some ⟨g25, 0, none⟩) zs.length zs.length) :: pN g9 g10 gd na cq lim QA z g18 M.g g20) (eo (some ⟨g25, 0, none⟩) zs.length zs.length zs :: kH t r lim g9 g10 gd md z g18 g20 x id M K) := by
 have hga := hz.ga T
 have hmn := hm.n
 have hgn := hga.n
 have hl1 := T.l1
 have hcl := hz.cl
 have hze := els_in T.fl hzi
 have hcl' : cellsA (z.rs.map (Evt.by_ t)) ≤ 14000 := by have : cellsA (z.rs.map (Evt.by_ t)) ≤ z.cb := hcl; omega
 have hbK : ∀ L, Sub L K → Vw L (fun w => Reads w 1 x.bA x.b.length (bytes x.b)) := fun L h => hx.b.mono h
 by_cases he : comA r (runE t r z.rs).1 id = 0
 ·obtain ⟨⟨v, hw, hf⟩, hcan, hcom⟩ := sCommit_yes (K := eo (some ⟨g25, 0, none⟩) zs.length zs.length zs :: blk g18 99 x.C :: blk g20 47 (bytes id.l) :: mdF t r lim M (blk g9 34 t.c :: blk g10 38 r.c :: blk z.rw.g 89 z.rw.cur :: mds t r lim z.Ms :: star z.pl :: K)) (g := z.gu) (gd := gd) (md := md) (ckd := z.ck) (cc := zs.length) (d := x.bc) (q := z.q) (rs := z.rs) (f := z.f) (id := id) (xs := zs) (said := x.b) (C := some ⟨g25, 0, none⟩) (B := x.bA) T hz.hq hga hxl hzi hx.bb (by omega) (Vw.of_own (e := 102) at_) (hbK _ sub_) he hz.jf hcl'
  obtain ⟨w, hwf, hwm, rfl, hwt, -⟩ := hm.wsome hw
  have hw1 := hga.w1 _ v hw
  obtain ⟨hn, -⟩ | ⟨X, s, Y, hX, hsi, hp, -⟩ := hm_pos (id := w.id) hm
  ·rw [hw1.1] at hn; cases hn
  have hwt2 := hga.t1 _ _ hw1.1
  have hsd := hga.nosaid hw
  have hsd' : ∀ u ∈ M.sd, u.id ≠ w.id := fun u hu e => hm.dnone hsd u.pr (List.mem_map_of_mem hu) (by show u.id.l = w.id.l; rw [e])
  have hbs : ∀ b ∈ M.fs, 0 ≤ b.m ∧ t.out = b.l.length ∧ Els b.l := fun b hb => by
   obtain ⟨k1, k2, k3, -⟩ := hga.b1 _ _ (hm.bof hb)
   exact ⟨k3, k1.symm, k2⟩
  refine sd_drawn (S2 (K) [blk g18 99 x.C, blk g20 47 (bytes w.id.l)]) (fun _ => true) (by kernel_rfl) 15 rfl ?_; refine wz_ 0 ?_; refine wz_ 1 ?_; refine wz_ 2 ?_; refine wz_ 3 ?_; refine wz_ 4 ?_; refine wz_ 6 ?_; refine wz_ 7 ?_; refine wz_ 8 ?_; refine wz_ 9 ?_; refine wz_ 10 ?_; refine sd_yes2 11 rfl gd_ (by kernel_rfl) (by kernel_rfl) nop_ (pu_sepK (pu_strv hx.b rfl rfl rfl rfl)) rfl (fun w hw => ⟨hw.sub sub_, by exact all_ hw⟩) ?_; refine w1_ 5 ?_; refine slc_ rfl rfl sub_ hcom ?_; rintro y hy; refine wm_ ?_; refine w1_ 12 ?_; refine slc_ rfl rfl sub_ (mcommit_ok (K := eo (some ⟨g25, 0, none⟩) zs.length zs.length zs :: blk g18 99 x.C :: blk g20 47 (bytes w.id.l) :: stH t r lim z.gu gd md (z.rs ++ [.com w.id zs x.b]) (blk g9 34 t.c :: blk g10 38 r.c :: blk z.rw.g 89 z.rw.cur :: mds t r lim z.Ms :: star z.pl :: K) y) (t := t) (r := r) (lim := lim) (M := M) (w := w) (xs := zs) (said := x.b) (C := some ⟨g25, 0, none⟩) (cc := zs.length) T.te T.w T.mx (by omega) hxl (Vw.of_own (e := 102) at_) hze hwf (by rw [hwt]; exact hwt2) (by rw [hwt, hm.fits]; exact hf) hX hp hsd' hbs (fun b hb => (hv.b b hb).mono sub_)) ?_; rintro ⟨b', fs', cf'⟩ ⟨hup, had⟩
  dsimp only at hup had ⊢
  refine wm_ ?_; refine wz_ 13 ?_; refine wz_ 14 ?_; refine wx_ ?_
  skip
  obtain ⟨M', hM'⟩ : ∃ M', M' = M.com X Y s w.id x.b fs' cf' := ⟨_, rfl⟩
  rw [hwt] at had
  have hmm : Hm M' ((Evt.com w.id zs x.b).go t r (runE t r z.rs)).1 := by rw [hM']; exact hm.com hX hsi hw hsd hup had
  have hvv : MV (star (eo b'.A b'.l.length b'.c b'.l :: z.pl) :: K) M' := by
   rw [hM']
   refine ⟨fun u hu => pool_vw _ (hv.p u (List.mem_of_mem_eraseP hu)), fun u hu => pool_vw _ (hv.s u (List.mem_of_mem_eraseP hu)), fun b hb => ?_⟩
   rcases up_mem hup hb with h | h
   ·exact pool_vw _ (hv.b b h)
   ·rw [h]; exact pool_vw1 (Vw.of_own (e := 102) (c := b'.c) .here)
  refine se_subK (L' := eo b'.A b'.l.length b'.c b'.l :: star z.pl :: mdF t r lim M' (stH t r lim z.gu gd md (z.rs ++ [.com w.id zs x.b]) (blk g9 34 t.c :: blk g10 38 r.c :: blk z.rw.g 89 z.rw.cur :: mds t r lim z.Ms :: K) y)) (by rw [hM']; exact sub_) ?_; refine se_ent pool_in ?_; exact hA { z with q := y.q, f := y.f, ck := y.ck, rs := z.rs ++ [.com w.id zs x.b], pl := eo b'.A b'.l.length b'.c b'.l :: z.pl, cb := z.cb + 84 } M' (hz.step T hcan (fun a => rfl) hy hmm (fun φ h => pool_vw φ h) hvv) ⟨hr.ok, hr.xs⟩ ⟨rfl, by show z.cb + 84 ≤ _; omega, rfl⟩ (by rw [hM']; exact has_) sub_
 ·have hno := sCommit_no (K := eo (some ⟨g25, 0, none⟩) zs.length zs.length zs :: blk g18 99 x.C :: blk g20 47 (bytes id.l) :: mdF t r lim M (blk g9 34 t.c :: blk g10 38 r.c :: blk z.rw.g 89 z.rw.cur :: mds t r lim z.Ms :: star z.pl :: K)) (g := z.gu) (gd := gd) (md := md) (ckd := z.ck) (cc := zs.length) (d := x.bc) (q := z.q) (rs := z.rs) (f := z.f) (id := id) (xs := zs) (said := x.b) (C := some ⟨g25, 0, none⟩) (B := x.bA) T hz.hq hga hxl hzi hx.bb (by omega) (Vw.of_own (e := 102) at_) (hbK _ sub_) he
  have hmno := fun K' => mcommit_no (K := K') (t := t) (r := r) (lim := lim) (M := M) (id := id) (O := .slice (some ⟨g25, 0, none⟩) zs.length zs.length) (S := .string (strOfNums x.b)) T.w (fun w hw => by
    obtain ⟨h1, h2⟩ := wfind_some hw
    exact hga.t1 _ _ (hga.w1 _ _ (hm.wof h1)).1) (by rw [mcomE_A hm]; exact he)
  rw [mcomE_A hm] at hmno
  refine sd_drawn (S2 (K) [blk g18 99 x.C, blk g20 47 (bytes id.l)]) (fun _ => true) (by kernel_rfl) 15 rfl ?_; refine wz_ 0 ?_; refine wz_ 1 ?_; refine wz_ 2 ?_; refine wz_ 3 ?_; refine wz_ 4 ?_; refine wz_ 6 ?_; refine wz_ 7 ?_; refine wz_ 8 ?_; refine wz_ 9 ?_; refine wz_ 10 ?_; refine sd_yes2 11 rfl gd_ (by kernel_rfl) (by kernel_rfl) nop_ (pu_sepK (pu_strv hx.b rfl rfl rfl rfl)) rfl (fun w hw => ⟨hw.sub sub_, by exact all_ hw⟩) ?_; refine w1_ 5 ?_; refine slc_ rfl rfl sub_ hno ?_; rintro _ -; refine wm_ ?_; refine w1_ 12 ?_; refine slc_ rfl rfl sub_ (hmno (eo (some ⟨g25, 0, none⟩) zs.length zs.length zs :: blk g18 99 x.C :: blk g20 47 (bytes id.l) :: pJ t r lim gd md z (blk g9 34 t.c :: blk g10 38 r.c :: blk z.rw.g 89 z.rw.cur :: mds t r lim z.Ms :: star z.pl :: K))) ?_; rintro _ -; refine wm_ ?_; refine wz_ 13 ?_; refine wz_ 14 ?_; refine wx_ ?_; exact hB z _ _ 1 hz hr ⟨rfl, by omega, by omega⟩ (.inl he) has_ sub_
end
end
attribute [local irreducible] Ax.C
section
namespace pVk7
theorem nthx_ (h : φ := by first | exact h18 | exact Ax.n5 _ | exact Ax.n4 _ | exact Ax.n3 _ | rfl) : φ := h
theorem midx_ (h : φ := by first | exact Ta.mid _ | exact rpC_id | exact Mid.all) : φ := h
theorem szx_ (h : φ := by ((try simp only [rpC_len, bytes_length, Id.len, eC_len]); (first | done | rfl); first | done | fail)) : φ := h
theorem onex_ (h : φ := by first | exact eC_one _ | exact one_bytes _ | exact rpC_one rfl rfl | exact Ax.one _) : φ := h
end pVk7
open pVk7
section
variable {t : Ta} {r : Rl} {lim now : Int} {K : List Fa} {z : PS} {g9 g10 gd md na cq g18 g20 : Nat} {QA : Option Addr} {x : Ax} {id : Id} {M : Md} {Q' : Exit → Act → World → Prop}
theorem pCom (T : TR_ t r lim) (hz : PC t r lim K z z.Ms) (hr : RowOk z) (hcb : z.cb ≤ 13000) (hm : Hm M (runE t r z.rs).1) (hv : MV (star z.pl :: K) M) (hx : AxOk K x) (hbl : x.b.length ≤ 100) (hob : x.o.length ≤ 40) (hN : NoP Q')
  (hA : ∀ {l : Env} {L : List Fa} (z' : PS) (M' : Md), PC t r lim K z' (z'.Ms ++ [M']) → RowOk z' → z'.i = z.i ∧ z'.cb ≤ z.cb + 170 ∧ z'.lm = z.lm → Has l (pM g9 g10 gd na cq lim QA z' (.pointer (some ⟨M'.g, 0, none⟩)) 0 1) → Sub L (mdF t r lim M' (pH t r lim g9 g10 gd md z' K)) → SE Q' .normal 351 l L)
  (hB : ∀ {l : Env} {L : List Fa} (z' : PS) (v19 : Value) (e nt : Int), PC t r lim K z' z'.Ms → RowOk z' → z'.i = z.i ∧ z'.cb ≤ z.cb + 170 ∧ z'.lm ≤ z.lm + 1 → (e ≠ 0 ∨ nt ≠ 1) → Has l (pM g9 g10 gd na cq lim QA z' v19 e nt) → Sub L (pH t r lim g9 g10 gd md z' K) → SE Q' .normal 351 l L) :
  SC Tryz.prog (cAt [false, false, false, false, false, false, false, false, false, true, false, true, true, false, false, true, true, false, false, false, false, false, true, false, true, false, true] (fb Tryz.f5)) Q' 351 (pK g9 g10 gd na cq lim QA z g18 M.g g20 now) (kH t r lim g9 g10 gd md z g18 g20 x id M K) := by
 have hol := t.out_le T.te
 have hfw : IntKind.i64.wrap t.fl = t.fl := by rcases T.fl with h | h <;> rw [h] <;> decide
 obtain ⟨oo, hoo⟩ : ∃ o : Nat, t.out = o := ⟨t.out.toNat, by omega⟩
 have h18 : nth x.C 4 = some (.slice x.oA x.o.length x.oc) := x.n4
 refine sc_env ((22, .int .i64 0) :: (23, .int .i64 0) :: pN g9 g10 gd na cq lim QA z g18 M.g g20) has_ ?_; refine go_ ?_; refine slc_ rfl rfl sub_ (out_ok t.kd t.fl t.bt t.ln t.wt t.ch) ?_; rintro _ -; rw [show outN t.kd t.ln = (oo : Int) from hoo]; refine sl_make (lo := .tmp 128) (i := default) (k := oo) (c := oo) (bytes := 16) (size := 2) (z := .agg #[.int .u64 0, .int .u64 0]) (e := 102) rfl rfl rfl infoE (Nat.le_refl _) (by omega) (by unfold maxLen; omega) rfl ?_; intro g25; rw [show ((madeCells (Value.agg #[.int .u64 0, .int .u64 0]).cells (oo * 2)).toList.take (oo * 2)) = rows eC (List.replicate oo 0) from made_rows (k := 1) rfl]; refine go_ ?_; refine sc_bjoin (α := List Int) (fun _ => (25, .slice (some ⟨g25, 0, none⟩) oo oo) :: pN g9 g10 gd na cq lim QA z g18 M.g g20) (fun zs => eo (some ⟨g25, 0, none⟩) oo oo zs :: kH t r lim g9 g10 gd md z g18 g20 x id M K) (fun zs => zs.length = oo ∧ ∀ v ∈ zs, InF t.fl v) ?_ ?_
 ·refine sc_for (α := Nat × List Int) (fun p => (131, .int .i64 (oo : Nat)) :: (132, .int .i64 (p.1 : Nat)) :: (25, .slice (some ⟨g25, 0, none⟩) oo oo) :: pN g9 g10 gd na cq lim QA z g18 M.g g20) (fun p => eo (some ⟨g25, 0, none⟩) oo oo p.2 :: kH t r lim g9 g10 gd md z g18 g20 x id M K) (fun p => p.1 ≤ oo ∧ p.2.length = oo ∧ ∀ v ∈ p.2, InF t.fl v) (fun p => oo - p.1) (0, List.replicate oo 0) has_ sub_ ⟨Nat.zero_le _, List.length_replicate, fun v hv => by rw [List.eq_of_mem_replicate hv]; exact inF_0 T.fl⟩ ?_; rintro ⟨j, zs⟩ ⟨hj, hzl, hzi⟩
  dsimp only at hj hzl hzi ⊢
  by_cases hlt : j < oo
  case neg =>
   refine go_ ?_; exact se_mid zs has_ sub_ ⟨hzl, hzi⟩
  by_cases h0 : 0 < x.o.length
  case neg =>
   refine go_ ?_; exact se_round (j + 1, zs) has_ sub_ ⟨by show j + 1 ≤ oo; omega, hzl, hzi⟩ (by show oo - (j + 1) < oo - j; omega)
  have hov : Vw K (fun w => Reads w 2 x.oA x.o.length (rows eC x.o)) := hx.o
  refine sc_know (vw_form (L := eo (some ⟨g25, 0, none⟩) oo oo zs :: kH t r lim g9 g10 gd md z g18 g20 x id M K) (hov.mono sub_) h0) ?_; rintro ⟨go, hgo⟩
  rw [hgo] at hov h18
  have hm1 : 0 ≤ (j : Int) % (x.o.length : Int) := Int.emod_nonneg _ (by omega)
  have hm2 : (j : Int) % (x.o.length : Int) < (x.o.length : Int) := Int.emod_lt_of_pos _ (by omega)
  obtain ⟨y, hy⟩ : ∃ y, x.o[((j : Int) % (x.o.length : Int)).toNat]? = some y := ⟨_, List.getElem?_eq_getElem (by omega)⟩
  have hye : El y := hx.oe y (List.mem_of_getElem? hy)
  have hput : ∀ v : Int, (rows eC zs).take (j * 2) ++ eC v ++ (rows eC zs).drop (j * 2 + (eC v).length) = rows eC (zs.set j v) := fun v => rows_put eC_len _ (by omega)
  refine go_ ?_; refine sd_drawn (S2 (K) [blk g18 99 x.C, blk g9 34 t.c]) (fun _ => true) (by kernel_rfl) 18 rfl ?_; refine wz_ 0 ?_; refine wz_ 1 ?_; refine wz_ 2 ?_; refine wz_ 3 ?_; refine wz_ 4 ?_; refine wz_ 5 ?_; refine wz_ 6 ?_; refine wz_ 7 ?_; refine wz_ 8 ?_; refine wz_ 9 ?_; refine wz_ 10 ?_; refine wz_ 11 ?_; refine wz_ 12 ?_; refine wz_ 13 ?_; refine sd_yes2 14 rfl gd_ (by kernel_rfl) (by kernel_rfl) nop_ (pu_sepK (pu_ldrs hov (by omega) rfl (rows_mid eC_len hy) rfl rfl rfl)) rfl (fun w hw => ⟨hw.sub sub_, by exact all_ hw⟩) ?_; refine w1_ 15 ?_; rw [hfw]; refine slc_ rfl rfl sub_ (rOf_ex T.fl hye) ?_; rintro v hv'; refine wm_ ?_; refine wz_ 16 ?_; refine w1_ 17 ?_; refine sl_sto_mid (i := j * 2) (cl := eC v) (by rw [show ((⟨g25, 0, none⟩ : Addr).add (j * 2)) = ⟨g25, j * 2, none⟩ from at1 g25 (j * 2)]; rfl) pick_ rfl rfl (by show j * 2 + 2 ≤ oo * 2; omega) (eC_one _) ?_; rw [hput]; refine wm_ ?_; refine wx_ ?_; refine go_ ?_; exact se_round (j + 1, zs.set j v) has_ sub_ ⟨by show j + 1 ≤ oo; omega, by show (zs.set j v).length = oo; rw [List.length_set]; exact hzl, fun y hy => (List.mem_or_eq_of_mem_set hy).elim (hzi y) (fun e => e ▸ hv')⟩ (by show oo - (j + 1) < oo - j; omega)
 rintro zs ⟨hzl, hzi⟩; subst hzl; exact pComB (g25 := g25) T hz hr hcb hm hv hx hbl hoo hzi hN hA hB
theorem pRej (T : TR_ t r lim) (hz : PC t r lim K z z.Ms) (hr : RowOk z) (hcb : z.cb ≤ 13000) (hm : Hm M (runE t r z.rs).1) (hv : MV (star z.pl :: K) M) (hx : AxOk K x) (hN : NoP Q')
  (hA : ∀ {l : Env} {L : List Fa} (z' : PS) (M' : Md), PC t r lim K z' (z'.Ms ++ [M']) → RowOk z' → z'.i = z.i ∧ z'.cb ≤ z.cb + 170 ∧ z'.lm = z.lm → Has l (pM g9 g10 gd na cq lim QA z' (.pointer (some ⟨M'.g, 0, none⟩)) 0 1) → Sub L (mdF t r lim M' (pH t r lim g9 g10 gd md z' K)) → SE Q' .normal 351 l L)
  (hB : ∀ {l : Env} {L : List Fa} (z' : PS) (v19 : Value) (e nt : Int), PC t r lim K z' z'.Ms → RowOk z' → z'.i = z.i ∧ z'.cb ≤ z.cb + 170 ∧ z'.lm ≤ z.lm + 1 → (e ≠ 0 ∨ nt ≠ 1) → Has l (pM g9 g10 gd na cq lim QA z' v19 e nt) → Sub L (pH t r lim g9 g10 gd md z' K) → SE Q' .normal 351 l L) :
  SC Tryz.prog (cAt [false, false, false, false, false, false, false, false, false, true, false, true, true, false, false, true, true, false, false, false, false, false, true, false, true, false, false, false, true] (fb Tryz.f5)) Q' 351 (pK g9 g10 gd na cq lim QA z g18 M.g g20 now) (kH t r lim g9 g10 gd md z g18 g20 x id M K) := by
 have hga := hz.ga T
 have hmn := hm.n
 have hgn := hga.n
 have hl1 := T.l1
 have hcl := hz.cl
 have hcl' : cellsA (z.rs.map (Evt.by_ t)) ≤ 14000 := by have : cellsA (z.rs.map (Evt.by_ t)) ≤ z.cb := hcl; omega
 have hco := hx.co
 have hc : 0 ≤ x.co % 34 ∧ x.co % 34 ≤ 255 := by omega
 refine go_ ?_
 by_cases he : rejA (runE t r z.rs).1 id (x.co % 34) = 0
 ·obtain ⟨hcan, hrej⟩ := sReject_yes (K := blk g18 99 x.C :: blk g20 47 (bytes id.l) :: mdF t r lim M (blk g9 34 t.c :: blk g10 38 r.c :: blk z.rw.g 89 z.rw.cur :: mds t r lim z.Ms :: star z.pl :: K)) (g := z.gu) (gd := gd) (md := md) (ckd := z.ck) (q := z.q) (rs := z.rs) (f := z.f) (id := id) T hz.hq hga hc he hz.jf hcl'
  obtain ⟨v, hw⟩ := Option.isSome_iff_exists.1 hcan.1
  have hw1 := hga.w1 _ v hw
  obtain ⟨hn, -⟩ | ⟨X, s, Y, hX, hsi, hp, -⟩ := hm_pos (id := id) hm
  ·rw [hw1.1] at hn; cases hn
  have hmr := fun K' => mreject_ok (K := K') (t := t) (r := r) (lim := lim) (c := x.co % 34) (M := M) (id := id) (X := X) (s := s) (Y := Y) (hc := ⟨by omega, by omega⟩) (by omega) (by rw [mrejE_A hm]; exact he) hX hp
  refine dr_ [blk g20 47 (bytes id.l)] 10 ?_; refine y4_ 0 1 2 4 ?_; refine y2_ 5 6 ?_; refine w1_ 3 ?_; refine slc_ rfl rfl sub_ hrej ?_; rintro y hy; refine v1_ 7 ?_; refine slc_ rfl rfl sub_ (hmr (blk g18 99 x.C :: blk g20 47 (bytes id.l) :: stH t r lim z.gu gd md (z.rs ++ [.rej id (x.co % 34)]) (blk g9 34 t.c :: blk g10 38 r.c :: blk z.rw.g 89 z.rw.cur :: mds t r lim z.Ms :: star z.pl :: K) y)) ?_; rintro _ -; refine vy_ 8 ?_; refine wy_ 9 ?_; refine wx_ ?_
  skip
  obtain ⟨M', hM'⟩ : ∃ M' : Md, M' = { M with ss := X ++ setC s (x.co % 34) ⟨by omega, by omega⟩ :: Y, ws := wdel M.ws id } := ⟨_, rfl⟩
  have hmm : Hm M' ((Evt.rej id (x.co % 34)).go t r (runE t r z.rs)).1 := by rw [hM']; exact hm.rej hX hsi hcan.1
  have hvv : MV (star z.pl :: K) M' := by
   rw [hM']; exact ⟨fun u hu => hv.p u (List.mem_of_mem_eraseP hu), fun u hu => hv.s u (List.mem_of_mem_eraseP hu), hv.b⟩
  exact hA { z with q := y.q, f := y.f, ck := y.ck, rs := z.rs ++ [.rej id (x.co % 34)], pl := z.pl, cb := z.cb + 84 } M' (hz.step T hcan (fun a => rfl) hy hmm (fun φ h => h) hvv) ⟨hr.ok, hr.xs⟩ ⟨rfl, by show z.cb + 84 ≤ _; omega, rfl⟩ (by rw [hM']; exact has_) (by rw [hM']; exact sub_)
 ·have hno := sReject_no (K := blk g18 99 x.C :: blk g20 47 (bytes id.l) :: mdF t r lim M (blk g9 34 t.c :: blk g10 38 r.c :: blk z.rw.g 89 z.rw.cur :: mds t r lim z.Ms :: star z.pl :: K)) (g := z.gu) (gd := gd) (md := md) (ckd := z.ck) (q := z.q) (rs := z.rs) (f := z.f) (id := id) T hz.hq hga hc he
  have hmno := fun K' => mreject_no (K := K') (t := t) (r := r) (lim := lim) (c := x.co % 34) (M := M) (id := id) (by rw [mrejE_A hm]; exact he)
  rw [mrejE_A hm] at hmno
  refine dr_ [blk g20 47 (bytes id.l)] 10 ?_; refine y4_ 0 1 2 4 ?_; refine y2_ 5 6 ?_; refine w1_ 3 ?_; refine slc_ rfl rfl sub_ hno ?_; rintro _ -; refine v1_ 7 ?_; refine slc_ rfl rfl sub_ (hmno (blk g18 99 x.C :: blk g20 47 (bytes id.l) :: pJ t r lim gd md z (blk g9 34 t.c :: blk g10 38 r.c :: blk z.rw.g 89 z.rw.cur :: mds t r lim z.Ms :: star z.pl :: K))) ?_; rintro _ -; refine vy_ 8 ?_; refine wy_ 9 ?_; refine wx_ ?_; exact hB z _ _ 1 hz hr ⟨rfl, by omega, by omega⟩ (.inl he) has_ sub_
end
end
end
end Go.Proofs.YtocaabnbmcpjmaaGreat
