/- Several texts of one claim, one behind the other. -/
import Derived.Test.YtocaabnbmcpjmaaGreatB22
import Derived.Test.YtocaabnbmcpjmaaGreatB20
import Derived.Test.YtocaabnbmcpjmaaGreatB19
import Derived.Test.YtocaabnbmcpjmaaGreatB21
set_option linter.unusedVariables false
set_option linter.unusedSimpArgs false
set_option maxRecDepth 100000
set_option maxHeartbeats 16000000
namespace Go.Proofs.YtocaabnbmcpjmaaGreat
variable {φ ψ : Prop}
section
open Go.RowKit Go.MapKept
attribute [local irreducible] Go.Calls Go.Exit.then Go.Exit.inBlock Go.bodyPost Go.Code.wp Go.wpList takeL recordL hashL recL allL decR ofId addV xorI
section
theorem se_envK {Q : Exit → Act → World → Prop} {e : Exit} {n : Nat} {l l' : Env} {L : List Fa} (hl : Has l l') (h : SE Q e n l' L) : SE Q e n l L := by
 unfold SE at h ⊢
 exact fun w hw => WE.mk fun a hs => WE.get (h w hw) (hs.sub hl.sub)
structure MCm where
 b : BK
 fs : List BK
 cf : Nat
namespace pVm4
theorem nthx_ (h : φ := by first | exact bkC_n0 | exact bkC_n1 | exact bkC_n2 | exact bkC_n19' | exact tc_n0 | exact tc_n1 | exact rpC_n16 | exact rpC_n17 | exact rpC_n18 | rfl) : φ := h
theorem midx_ (h : φ := by first | exact mdC_t | exact mdC_r | exact rpC_id | exact bkC_mid | exact tc_mid | exact Mid.all) : φ := h
theorem szx_ (h : φ := by ((try simp only [Wt.cells, rpC_len, bytes_length, Id.len, BK.len, mdC_len, bkC_len tc_len, tc_len, Seen.len]); (first | done | rfl); first | done | fail)) : φ := h
theorem onex_ (h : φ := by first | exact mdC_one rfl | exact one_bytes _ | exact rpC_one rfl rfl | exact BK.one _ | exact bkC_one tc_one | exact tc_one) : φ := h
theorem setx_ (h : φ := by first | exact mdC_set | exact bkC_set19 tc_len) : φ := h
end pVm4
open pVm4
theorem mcommit_ok {K : List Fa} {t : Ta} {r : Rl} {lim : Int} {M : Md} {w : Wt} {X Y : List Seen} {s : Seen} {xs said : List Int} {C : Option Addr} {cc : Nat} (ht : t.err = 0) (hw : 0 ≤ r.w) (hmx : r.mx ≤ 256) (hn : M.ss.length ≤ 1000) (ho : t.out = xs.length) (hxr : Vw K (fun w => Reads w 2 C xs.length (rows eC xs))) (ex : Els xs)
  (hf : wfind M.ws w.id = some w) (hwt : 0 ≤ w.t ∧ w.t ≤ 1099511627776) (hfit : fitsE r M.fs w.t = 0) (hX : M.ss = X ++ s :: Y) (hp : posM M.ss w.id = (X.length : Nat)) (hsd : ∀ u ∈ M.sd, u.id ≠ w.id) (hbs : ∀ b ∈ M.fs, 0 ≤ b.m ∧ t.out = b.l.length ∧ Els b.l) (hbv : ∀ b ∈ M.fs, Vw K (fun w => Reads w 2 b.A b.l.length (rows eC b.l))) :
  Fn Tryz.prog 32 #[.pointer (some ⟨M.g, 0, none⟩), w.id.v, .slice C xs.length cc, .string (strOfNums said)] (mdF t r lim M K)
   (Ret (fun z : MCm => BkUp M.fs z.fs z.b ∧ BkAd t r M.fs w.t w.id xs z.b) (fun _ => .int .i64 0) (fun z => mdF t r lim (M.com X Y s w.id said z.fs z.cf) (eo z.b.A z.b.l.length z.b.c z.b.l :: K))) := by
 refine fe_ Tryz.func32 Tryz.ntmps32 [(0, .pointer (some ⟨M.g, 0, none⟩)), (1, w.id.v), (2, .slice C xs.length cc), (3, .string (strOfNums said))] ?_
 have hk := w.id.klaw
 have hol := t.out_le ht
 have hg : MGet (M.ws.map WM.ent) w.id.v (.agg w.cells.toArray) := kget (M := WM) (wfind_some hf).1
 refine go_ ?_; refine bx_ ?_; intro g5; refine go_ ?_; refine dr_ [mdB t r lim M, blk g5 47 (bytes w.id.l), wM M.mw M.ws M.cw] 12 ?_; refine y4_ 0 1 2 3 ?_; refine y4_ 4 5 6 7 ?_; refine wy_ 8 ?_; refine w1_ 9 ?_; refine al_ ?_; intro g9; refine v1_ 10 ?_; refine sto_ ?_; refine vy_ 11 ?_; refine wx_ ?_; refine go_ ?_; refine slc_ rfl rfl sub_ (mfits_ok (K := blk g9 49 w.cells :: blk g5 47 (bytes w.id.l) :: K) (t := t) (r := r) (lim := lim) (M := M) hw hwt) ?_; rintro _ -; rw [hfit]; refine go_ ?_; refine sc_join (α := Unit) (fun _ => [(0, .pointer (some ⟨M.g, 0, none⟩)), (2, .slice C xs.length cc), (3, .string (strOfNums said)), (5, .pointer (some ⟨g5, 0, none⟩)), (12, .int .u64 (stN r.w w.t))]) (fun _ => blk g5 47 (bytes w.id.l) :: mdF t r lim M K) (fun _ => True) ?_ ?_
 ·refine dr_ [mdB t r lim M, blk g9 49 w.cells] 8 ?_; refine y4_ 0 1 2 3 ?_; refine y2_ 4 5 ?_; refine w1_ 6 ?_; refine slc_ rfl rfl sub_ (start_ok hw ⟨hwt.1, by omega⟩) ?_; rintro _ -; refine vy_ 7 ?_; refine wx_ ?_; exact se_mid () has_ sub_ trivial
 rintro _ -
 cases hb : bfind M.fs (stN r.w w.t) with
 | none =>
  have hno := bno hb
  obtain ⟨n, hxn⟩ : ∃ n, n = xs.length := ⟨_, rfl⟩
  have hto : t.out.toNat = xs.length := by rw [ho]; rfl
  refine go_ ?_; refine al_ ?_; intro g13; refine go_ ?_; refine slc_ rfl rfl sub_ (tnew_ok ht) ?_; rintro g3 -; rw [hto]; refine sl_pu (pu_build (v := .agg (bkC (stN r.w w.t) (tc (some ⟨g3, 0, none⟩) xs.length xs.length 0 zId) false).toArray) rfl (build_buck tc_len)) rfl ?_; refine go_ ?_; refine sc_env [(0, .pointer (some ⟨M.g, 0, none⟩)), (2, .slice C xs.length cc), (3, .string (strOfNums said)), (5, .pointer (some ⟨g5, 0, none⟩)), (12, .int .u64 (stN r.w w.t)), (13, .pointer (some ⟨g13, 0, none⟩))] has_ ?_; refine sc_sub (L' := blk g13 70 (bkC (stN r.w w.t) (tc (some ⟨g3, 0, none⟩) xs.length xs.length 0 zId) false) :: blk g5 47 (bytes w.id.l) :: mdF t r lim M (eo (some ⟨g3, 0, none⟩) xs.length xs.length (List.replicate xs.length 0) :: K)) sub_ ?_; refine mcomB (K := eo (some ⟨g3, 0, none⟩) xs.length xs.length (List.replicate xs.length 0) :: K) (m := 0) (xs := xs) (xs0 := List.replicate xs.length 0) (said := said) ht hn ⟨by decide, by decide⟩ ho rfl (List.length_replicate ..) (hxr.mono sub_) (Vw.of_own at_) ex (fun x hx => by rw [List.eq_of_mem_replicate hx]; exact ⟨by decide, by decide⟩) hf hX hp hsd (.inr (bfind_none hb)) ?_ (fun l L g fs' cf' bn hl hup hs => ?_)
  ·exact nop_
  refine se_envK hl ?_; refine se_subK hs ?_
  have hzl : (addV t.fl (List.replicate xs.length 0) xs).length = xs.length := by rw [addV_len (by simp)]; simp
  refine se_ret1 (⟨_, fs', cf'⟩ : MCm) ⟨hup, ?_⟩ rfl rfl ?_
  ·exact ⟨rfl, by rw [hb], by rw [hb], by rw [hb], rfl⟩
  ·dsimp only [mbN]
   rw [hzl]; exact sub_
 | some b =>
  obtain ⟨hbm, hbs'⟩ := bfind_some hb
  have hgb := bget hbm
  obtain ⟨hc1, hc2, hc3⟩ := fits_some hfit hb
  rw [hbs', hc2] at hgb
  obtain ⟨b1, b2, b3⟩ := hbs b hbm
  have hbl : b.l.length = xs.length := by omega
  rw [hbl] at hgb
  refine go_ ?_; refine al_ ?_; intro g13; refine go_ ?_; refine sc_env [(0, .pointer (some ⟨M.g, 0, none⟩)), (2, .slice C xs.length cc), (3, .string (strOfNums said)), (5, .pointer (some ⟨g5, 0, none⟩)), (12, .int .u64 (stN r.w w.t)), (13, .pointer (some ⟨g13, 0, none⟩))] has_ ?_; refine sc_sub (L' := blk g13 70 (bkC (stN r.w w.t) (tc b.A xs.length b.c b.m b.k) false) :: blk g5 47 (bytes w.id.l) :: mdF t r lim M K) sub_ ?_; refine mcomB (xs := xs) (xs0 := b.l) (said := said) ht hn ⟨b1, by omega⟩ ho rfl hbl hxr (by have := hbv b hbm; rwa [hbl] at this) ex b3 hf hX hp hsd (.inl (by obtain ⟨XX, YY, e⟩ := List.append_of_mem hbm; exact ⟨XX, b, YY, e, hbs'⟩)) ?_ (fun l L g fs' cf' bn hl hup hs => ?_)
  ·exact nop_
  refine se_envK hl ?_; refine se_subK hs ?_
  have hzl : (addV t.fl b.l xs).length = xs.length := by rw [addV_len (by omega)]; exact hbl
  refine se_ret1 (⟨_, fs', cf'⟩ : MCm) ⟨hup, ?_⟩ rfl rfl ?_
  ·exact ⟨rfl, by rw [hb], by rw [hb], by rw [hb], rfl⟩
  ·dsimp only [mbN]
   rw [hzl]; exact sub_
end
end
section
open Go.RowKit Go.MapKept
attribute [local irreducible] hashL ofId addV xorI
section
variable {ss ms : List Seen} {ws mw : List Wt} {ds md : List (Id × List Int)} {fs mf : List BK} {a b : Ab} {t : Ta} {r : Rl} {lim : Int}
theorem Hd.nwait (h : Hd ss ws ds fs a) (hg : GA t r lim a) : (ss.filter fun s => decide (s.c = 30)).length = ws.length := by
 have h1 : ((ss.filter fun s => decide (s.c = 30)).map sk_).Nodup := Kd.nodup (h.ks.filter _)
 have h2 := nd_len h1 h.kw.nodup fun x => by
  constructor
  ·intro hx
   obtain ⟨s, hs, rfl⟩ := List.mem_map.1 hx
   obtain ⟨hs1, hs2⟩ := List.mem_filter.1 hs
   have h3 := h.sof hs1
   rw [show s.c = 30 by simpa using hs2] at h3
   obtain ⟨y, hy⟩ := Option.isSome_iff_exists.1 (hg.w2 _ _ h3)
   obtain ⟨w, -, hw, hwi, -⟩ := h.wsome hy
   exact List.mem_map.2 ⟨w, hw, by unfold wk_ sk_; rw [hwi]⟩
  ·intro hx
   obtain ⟨w, hw, rfl⟩ := List.mem_map.1 hx
   have h3 := (hg.w1 _ _ (h.wof hw)).1
   obtain ⟨s, hs, hsi, -, hsc⟩ := h.ssome h3
   exact List.mem_map.2 ⟨s, List.mem_filter.2 ⟨hs, by rw [hsc]; rfl⟩, by unfold wk_ sk_; rw [hsi]⟩
 simpa using h2
def SameAt (a b : Ab) (s : Seen) : Prop := a.seen s.id = some (s.t, s.c) ∧ a.wait s.id = b.wait s.id ∧ a.said s.id = b.said s.id
theorem same_sound (h : Hd ss ws ds fs a) (h' : Hd ms mw md mf b) (hg : GA t r lim a) (hg' : GA t r lim b) (h1 : ss.length = ms.length) (h2 : fs.length = mf.length) (h3 : (ss.filter fun s => decide (s.c = 30)).length = mw.length)
  (hs : ∀ s ∈ ms, SameAt a b s) (hb : ∀ w ∈ mf, a.win w.st = some (w.l, w.m, w.k, w.cl)) : a = b := by
 have e1 : ∀ i, a.seen i = b.seen i := fun i => by
  cases hbi : b.seen i with
  | some x =>
   obtain ⟨s, hsm, hsi, hst, hsc⟩ := h'.ssome hbi
   have := (hs s hsm).1
   rw [hsi, hst, hsc] at this
   exact this
  | none =>
   cases hai : a.seen i with
   | none => rfl
   | some x =>
    obtain ⟨s, hsm, hsi, -⟩ := h.ssome hai
    have hsub := nd_sub (u := ms.map sk_) (v := ss.map sk_) h'.ks.nodup (fun y hy => by
      obtain ⟨z, hz, rfl⟩ := List.mem_map.1 hy
      obtain ⟨s', hs', hsi', -⟩ := h.ssome (hs z hz).1
      exact List.mem_map.2 ⟨s', hs', by unfold sk_; rw [hsi']⟩) (by simp [h1]) h.ks.nodup
    obtain ⟨z, hz, hze⟩ := List.mem_map.1 (hsub _ (List.mem_map_of_mem hsm))
    have h4 := h'.sof hz
    have h5 : z.id = i := by rw [← hsi]; exact Id.ext_ hze
    rw [h5, hbi] at h4
    cases h4
 have e2 : ∀ i, a.wait i = b.wait i := fun i => by
  cases hbi : b.seen i with
  | some x =>
   obtain ⟨s, hsm, hsi, -⟩ := h'.ssome hbi
   have := (hs s hsm).2.1
   rwa [hsi] at this
  | none => rw [(hg'.nowait hbi).1, (hg.nowait ((e1 i).trans hbi)).1]
 have e3 : ∀ i, a.said i = b.said i := fun i => by
  cases hbi : b.seen i with
  | some x =>
   obtain ⟨s, hsm, hsi, -⟩ := h'.ssome hbi
   have := (hs s hsm).2.2
   rwa [hsi] at this
  | none => rw [(hg'.nowait hbi).2, (hg.nowait ((e1 i).trans hbi)).2]
 have e4 : ∀ i, a.win i = b.win i := fun i => by
  cases hbi : b.win i with
  | some x =>
   obtain ⟨w, -, hwm, hwi, w1, w2, w3, w4⟩ := h'.bsome hbi
   have := hb w hwm
   rw [hwi, w1, w2, w3, w4] at this
   exact this
  | none =>
   cases hai : a.win i with
   | none => rfl
   | some x =>
    obtain ⟨w, -, hwm, hwi, -⟩ := h.bsome hai
    have hsub := nd_sub (u := mf.map BK.st) (v := fs.map BK.st) h'.kb.nodup (fun y hy => by
      obtain ⟨z, hz, rfl⟩ := List.mem_map.1 hy
      obtain ⟨s', -, hs', hsi', -⟩ := h.bsome (hb z hz)
      exact List.mem_map.2 ⟨s', hs', hsi'⟩) (by simp [h2]) h.kb.nodup
    obtain ⟨z, hz, hze⟩ := List.mem_map.1 (hsub _ (List.mem_map_of_mem hwm))
    have h4 := h'.bof hz
    rw [hze, hwi, hbi] at h4
    cases h4
 exact Ab.ext_ (funext e1) (funext e2) (funext e3) (funext e4) (by rw [← h.n, ← h'.n, h1]) (by rw [← h.nw, ← h'.nw, ← h3, h.nwait hg]) (by rw [← h.nb, ← h'.nb, h2])
theorem same_at (h' : Hd ms mw md mf b) (he : a = b) {s : Seen} (hs : s ∈ ms) : SameAt a b s := by
 subst he; exact ⟨h'.sof hs, rfl, rfl⟩
theorem same_win (h' : Hd ms mw md mf b) (he : a = b) {w : BK} (hw : w ∈ mf) : a.win w.st = some (w.l, w.m, w.k, w.cl) := by
 subst he; exact h'.bof hw
theorem same_len (h : Hd ss ws ds fs a) (h' : Hd ms mw md mf b) (hg : GA t r lim a) (he : a = b) : ss.length = ms.length ∧ fs.length = mf.length ∧ (ss.filter fun s => decide (s.c = 30)).length = mw.length := by
 subst he; exact ⟨h.n.trans h'.n.symm, h.nb.trans h'.nb.symm, by rw [h.nwait hg, h.nw, h'.nw]⟩
end
end
section
open Go.RowKit Go.MapKept
attribute [local irreducible] Go.Calls Go.Exit.then Go.Exit.inBlock Go.bodyPost Go.Code.wp Go.wpList hashL ofId
section
theorem wr64_eq {z : Int} (h0 : -18446744073709551616 ≤ z) (h1 : z < 18446744073709551616) : IntKind.u64.wrap z = if z < 0 then z + 18446744073709551616 else z := by
 simp only [IntKind.wrap, IntKind.bits, IntKind.signed]
 simp
 split <;> omega
theorem pF_El {k : Int} (hk : k = 1 ∨ k = 2) : El (pF k) := by
 rcases hk with rfl | rfl <;> exact ⟨by decide, by decide⟩
theorem pF_gt {k : Int} (hk : k = 1 ∨ k = 2) : (k = 1 ∧ pF k = 18446744069414584321) ∨ (k = 2 ∧ pF k = 340282366920938462946865773367900766209) := by
 rcases hk with rfl | rfl
 ·exact .inl ⟨rfl, rfl⟩
 ·exact .inr ⟨rfl, rfl⟩
namespace pVo
theorem nthx_ (h : φ := by first | exact tc_n0 | exact tc_n1) : φ := h
theorem midx_ (h : φ := by first | exact tc_mid | exact Mid.all) : φ := h
theorem szx_ (h : φ := by ((try simp only [tc_len, bytes_length, Id.len, eC_len]); (first | done | rfl); first | done | fail)) : φ := h
theorem onex_ (h : φ := by first | exact eC_one _ | exact u2_one _ _ | exact tc_one | exact one_bytes _) : φ := h
end pVo
open pVo
theorem rLess_ex {K : List Fa} {x y : Int} (hx : El x) (hy : El y) : Fn Tryz.prog 75 #[.agg (eC x).toArray, .agg (eC y).toArray] K (Ret (fun _ : Unit => True) (fun _ => .bool (decide (x < y))) (fun _ => K)) := by
 refine fe_ Tryz.func75 Tryz.ntmps75 [(0, .agg (eC x).toArray), (1, .agg (eC y).toArray)] ?_
 obtain ⟨a, b, hxx, h1, h2, ha, hb⟩ := el_parts hx
 obtain ⟨c, d, hyy, h3, h4, hc, hd⟩ := el_parts hy
 rw [agg_eC h1 h2, agg_eC h3 h4]
 by_cases h1 : b = d
 ·subst h1; rw [show decide (x < y) = decide (a < c) by congr 1; exact propext ⟨fun _ => by omega, fun _ => by omega⟩]; refine go_ ?_; refine bx_ ?_; intro g1; refine go_ ?_; refine bx_ ?_; intro g2; refine go_ ?_; exact r1_ ()
 ·rw [show decide (x < y) = decide (b < d) by congr 1; exact propext ⟨fun _ => by omega, fun _ => by omega⟩]; refine go_ ?_; refine bx_ ?_; intro g1; refine go_ ?_; refine bx_ ?_; intro g2; refine go_ ?_; exact r1_ ()
theorem rTake_ex {K : List Fa} {x y : Int} (hx : El x) (hy : El y) (h : y ≤ x) : Fn Tryz.prog 77 #[.agg (eC x).toArray, .agg (eC y).toArray] K (Ret (fun _ : Unit => True) (fun _ => .agg (eC (x - y)).toArray) (fun _ => K)) := by
 refine fe_ Tryz.func77 Tryz.ntmps77 [(0, .agg (eC x).toArray), (1, .agg (eC y).toArray)] ?_
 obtain ⟨a, b, hxx, h1, h2, ha, hb⟩ := el_parts hx
 obtain ⟨c, d, hyy, h3, h4, hc, hd⟩ := el_parts hy
 rw [agg_eC h1 h2, agg_eC h3 h4]
 have w1 := wr64_eq (z := a - c) (by omega) (by omega)
 refine go_ ?_; refine bx_ ?_; intro g1; refine go_ ?_; refine bx_ ?_; intro g2; refine go_ ?_; refine al_ ?_; intro g3; refine go_ ?_
 generalize IntKind.u64.wrap (a - c) = u at *
 obtain ⟨v, hv⟩ : ∃ v, b - d = v := ⟨_, rfl⟩
 rw [hv]; refine sl_pu (pu_build (v := .agg #[.int .u64 u, .int .u64 v]) rfl (fun W => by kernel_rfl)) rfl ?_; refine al_ ?_; intro g4
 by_cases h1 : a < c
 ·rw [if_pos (by omega)] at w1
  have hE : eC (x - y) = [.int .u64 u, .int .u64 (v - 1)] := agg_eC (by omega) (by omega)
  refine go_ ?_; exact se_ret_c () trivial rfl rfl at_ rfl rfl rfl (by rw [hE]) sub_
 ·rw [if_neg (by omega)] at w1
  have hE : eC (x - y) = [.int .u64 u, .int .u64 v] := agg_eC (by omega) (by omega)
  refine go_ ?_; exact se_ret_c () trivial rfl rfl at_ rfl rfl rfl (by rw [hE]) sub_
theorem rP_ex {K : List Fa} {k : Int} (hk : k = 1 ∨ k = 2) : Fn Tryz.prog 76 #[.int .i64 k] K (Ret (fun _ : Unit => True) (fun _ => .agg (eC (pF k)).toArray) (fun _ => K)) := by
 refine fe_ Tryz.func76 Tryz.ntmps76 [(0, .int .i64 k)] ?_
 rcases hk with rfl | rfl
 ·refine go_ ?_; refine al_ ?_; intro g1; refine go_ ?_; refine sl_pu (pu_build (v := .agg #[.int .u64 18446744069414584321, .int .u64 0]) rfl (fun W => by kernel_rfl)) rfl ?_; refine go_ ?_; exact se_ret_c () trivial rfl rfl at_ rfl rfl rfl rfl sub_
 ·refine go_ ?_; refine al_ ?_; intro g1; refine go_ ?_; refine sl_pu (pu_build (v := .agg #[.int .u64 1, .int .u64 18446744073709551588]) rfl (fun W => by kernel_rfl)) rfl ?_; refine go_ ?_; exact se_ret_c () trivial rfl rfl at_ rfl rfl rfl rfl sub_
theorem ofAuxE {K : List Fa} {g1 g2 : Nat} {k x : Int} (hk : k = 1 ∨ k = 2) (hx : El x) (hkx : k = 1 → x < 18446744073709551616) :
  SC Tryz.prog (cAt [false, false] (fb Tryz.f31)) (bodyPost Tryz.prog Tryz.f31 (Ret (fun v : Int => InF k v) (fun v => .agg (eC v).toArray) (fun _ => K))) 18 [(0, .int .i64 k), (3, .pointer (some ⟨g1, 0, none⟩)), (4, .pointer (some ⟨g2, 0, none⟩))] (blk g1 102 (eC x) :: blk g2 102 [.int .u64 0, .int .u64 0] :: K) := by
 have hp := pF_El hk
 have hpg := pF_gt hk
 have hx2 := hx
 unfold El at hx2
 refine go_ ?_; refine dr_ [blk g1 102 (eC x)] 5 ?_; refine y2_ 0 1 ?_; refine w1_ 2 ?_; refine slc_ rfl rfl sub_ (rP_ex hk) ?_; rintro _ -; refine v1_ 3 ?_; refine slc_ rfl rfl sub_ (rLess_ex hx hp) ?_; rintro _ -; refine vy_ 4 ?_; refine wx_ ?_
 by_cases h : x < pF k
 ·rw [decide_eq_true h]; refine go_ ?_; exact se_ret_c x ⟨hx.1, h⟩ rfl rfl at_ rfl rfl rfl rfl sub_
 ·rw [decide_eq_false h]; refine go_ ?_; refine dr_ [blk g1 102 (eC x)] 5 ?_; refine y2_ 0 1 ?_; refine w1_ 2 ?_; refine slc_ rfl rfl sub_ (rP_ex hk) ?_; rintro _ -; refine v1_ 3 ?_; refine slc_ rfl rfl sub_ (rTake_ex hx hp (by omega)) ?_; rintro _ -; refine v1_ 4 ?_; refine sl_store_whole rfl pick_ rfl (by rfl) (by rfl) (eC_one _) ?_; refine vx_ ?_; refine go_ ?_
  have hin : x - pF k < pF k := by
   rcases hpg with ⟨h1, h2⟩ | ⟨h1, h2⟩
   ·have := hkx h1
    omega
   ·omega
  exact se_ret_c (x - pF k) ⟨by omega, hin⟩ rfl rfl at_ rfl rfl rfl rfl sub_
theorem rOf_ex {K : List Fa} {k x : Int} (hk : k = 1 ∨ k = 2) (hx : El x) : Fn Tryz.prog 31 #[.int .i64 k, .agg (eC x).toArray] K (Ret (fun v : Int => InF k v) (fun v => .agg (eC v).toArray) (fun _ => K)) := by
 refine fe_ Tryz.func31 Tryz.ntmps31 [(0, .int .i64 k), (1, .agg (eC x).toArray)] ?_
 obtain ⟨a, b, hxx, h1, h2, ha, hb⟩ := el_parts hx
 rw [agg_eC h1 h2]; refine sc_seq ?_; refine sc_region ?_; refine bx_ ?_; intro g1; refine al_ ?_; intro g2; refine sl_nil ?_; refine se_seq ?_; refine sc_mid (α := Int) (fun _ => [(0, .int .i64 k), (3, .pointer (some ⟨g1, 0, none⟩)), (4, .pointer (some ⟨g2, 0, none⟩))]) (fun y => blk g1 102 (eC y) :: blk g2 102 [.int .u64 0, .int .u64 0] :: K) (fun y => El y ∧ (k = 1 → y < 18446744073709551616)) ?_ ?_
 ·by_cases hk1 : k = 1
  ·have hE : eC a = [.int .u64 a, .int .u64 0] := agg_eC (by omega) (by omega)
   refine go_ ?_; exact se_mid a has_ (by rw [hE]; exact sub_) ⟨⟨by omega, by omega⟩, fun _ => by omega⟩
  ·have hE : eC x = [.int .u64 a, .int .u64 b] := agg_eC (by omega) (by omega)
   refine go_ ?_; exact se_mid x has_ (by rw [hE]; exact sub_) ⟨hx, fun h => absurd h hk1⟩
 rintro y ⟨hy1, hy2⟩; exact ofAuxE hk hy1 hy2
theorem pu_neqck2 {C : World → Prop} {n : Nat} {l : Env} {ty t' : TypeId} {x y : Operand} {k k' : Id} (hx : ev l x = some (.agg (bytes k.l).toArray)) (hy : ev l y = some (.agg (bytes k'.l).toArray)) : Pu Tryz.prog C n l (.binOp .neq 56 x y t') ty (.bool (!decide (k.l = k'.l))) :=
 pu_neqla (P := Tryz.prog) (C := C) (n := n) (ty := ty) (t' := t') (t := 56) (N := 16) (e := 5) (k' := .u8) (k := .u8) (xs := k.l) (ys := k'.l) hx hy rfl rfl rfl (by kernel_rfl) k.len k'.len
theorem tsame_ex {K : List Fa} {A B : Option Addr} {n n' c d : Nat} {m m' : Int} {k k' : Id} {xs ys : List Int} (hx : Vw K (fun w => Reads w 2 A n (rows eC xs))) (hy : Vw K (fun w => Reads w 2 B n' (rows eC ys))) (hn : n ≤ 1000000) :
  Fn Tryz.prog 37 #[.agg (tc A n c m k).toArray, .agg (tc B n' d m' k').toArray] K (Ret (fun _ : Unit => True) (fun _ => .bool (decide (xs = ys ∧ m = m' ∧ k.l = k'.l))) (fun _ => K)) := by
 refine fn_know (vwe_len hx) ?_; intro hlx; refine fn_know (vwe_len hy) ?_; intro hly; refine fe_ Tryz.func37 Tryz.ntmps37 [(0, .agg (tc A n c m k).toArray), (1, .agg (tc B n' d m' k').toArray)] ?_
 by_cases h1 : m = m'
 case neg =>
  rw [show decide (xs = ys ∧ m = m' ∧ k.l = k'.l) = false from decide_eq_false fun h => h1 h.2.1]; refine go_ ?_; refine bx_ ?_; intro g1; refine go_ ?_; refine bx_ ?_; intro g2; refine go_ ?_; exact r1_ ()
 by_cases h2 : k = k'
 case neg =>
  have h2' : k.l ≠ k'.l := fun h => h2 (Id.ext_ h)
  rw [show decide (xs = ys ∧ m = m' ∧ k.l = k'.l) = false from decide_eq_false fun h => h2' h.2.2]; refine go_ ?_; refine bx_ ?_; intro g1; refine go_ ?_; refine bx_ ?_; intro g2; refine go_ ?_; refine sl_pu (pu_neqck2 (k := k) (k' := k') rfl rfl) rfl ?_; rw [decide_eq_false h2']; refine go_ ?_; exact r1_ ()
 subst h1 h2
 by_cases h3 : n = n'
 case neg =>
  rw [show decide (xs = ys ∧ m = m ∧ k.l = k.l) = false from decide_eq_false fun h => h3 (by rw [← hlx, ← hly, h.1])]; refine go_ ?_; refine bx_ ?_; intro g1; refine go_ ?_; refine bx_ ?_; intro g2; refine go_ ?_; refine sl_pu (pu_neqck2 (k := k) (k' := k) rfl rfl) rfl ?_; rw [decide_eq_true rfl]; refine go_ ?_; exact r1_ ()
 subst h3; refine go_ ?_; refine bx_ ?_; intro g1; refine go_ ?_; refine bx_ ?_; intro g2; refine go_ ?_; refine sl_pu (pu_neqck2 (k := k) (k' := k) rfl rfl) rfl ?_; rw [decide_eq_true rfl]; refine go_ ?_; refine sc_for (fun j : Nat => [(2, .pointer (some ⟨g1, 0, none⟩)), (3, .pointer (some ⟨g2, 0, none⟩)), (29, .int .i64 n), (30, .int .i64 j)]) (fun _ => blk g2 58 (tc B n d m k) :: blk g1 58 (tc A n c m k) :: K) (fun j => j ≤ n ∧ xs.take j = ys.take j) (fun j => n - j) 0 has_ sub_ ⟨Nat.zero_le _, rfl⟩ ?_; rintro j ⟨hj, htk⟩
 by_cases hlt : j < n
 case neg =>
  have he : xs = ys := by
   rwa [List.take_of_length_le (by omega), List.take_of_length_le (by omega)] at htk
  rw [show decide (xs = ys ∧ m = m ∧ k.l = k.l) = true from decide_eq_true ⟨he, rfl, rfl⟩]; refine go_ ?_; exact r1_ ()
 refine sc_know (vw_form (L := blk g2 58 (tc B n d m k) :: blk g1 58 (tc A n c m k) :: K) (hx.mono sub_) (by omega)) ?_; rintro ⟨a1, rfl⟩; refine sc_know (vw_form (L := blk g2 58 (tc B n d m k) :: blk g1 58 (tc (some a1) n c m k) :: K) (hy.mono sub_) (by omega)) ?_; rintro ⟨a2, rfl⟩
 have hjx : j < xs.length := by omega
 have hjy : j < ys.length := by omega
 refine go_ ?_; refine sq_region (by kernel_rfl) (by kernel_rfl) ?_
 repeat refine rq_ ?_
 refine wq_pu (pu_ldrs (hx.mono sub_) (by omega) rfl (rows_mid eC_len (List.getElem?_eq_getElem hjx)) rfl rfl rfl) rfl ?_
 repeat refine rq_ ?_
 refine wq_pu (pu_ldrs (hy.mono sub_) (by omega) rfl (rows_mid eC_len (List.getElem?_eq_getElem hjy)) rfl rfl rfl) rfl ?_; refine wq_pu (pu_neqle (u := xs[j]) (v := ys[j]) rfl rfl) rfl ?_; refine sq_end ?_
 by_cases he : xs[j] = ys[j]
 ·rw [decide_eq_true he]; refine go_ ?_; exact se_round (j + 1) has_ sub_ ⟨hlt, by rw [List.take_succ_eq_append_getElem hjx, List.take_succ_eq_append_getElem hjy, htk, he]⟩ (by omega)
 ·rw [decide_eq_false he, show decide (xs = ys ∧ m = m ∧ k.l = k.l) = false from decide_eq_false fun h => he (by simp only [h.1])]; refine go_ ?_; exact r1_ ()
end
attribute [local irreducible] takeL recordL recL allL decR addV xorI gotB gotF
section
abbrev Hm (M : Md) (b : Ab) : Prop := Hd M.ss M.ws (M.sd.map Stx.pr) M.fs b
structure MV (K : List Fa) (M : Md) : Prop where
 p : ∀ w ∈ M.ws, Vw K (fun W => Reads W 1 w.pA w.p.length (bytes w.p))
 s : ∀ w ∈ M.ws, Vw K (fun W => Reads W 1 w.sA w.s.length (bytes w.s))
 b : ∀ b ∈ M.fs, Vw K (fun W => Reads W 2 b.A b.l.length (rows eC b.l))
theorem withL_all {ss : List Seen} {p : Seen → Bool} (h : ∀ s ∈ ss, 0 ≤ s.t ∧ s.t < 1125899906842624) : ((withL ss 0 1125899906842624).filter p).length = (ss.filter p).length := by
 have h1 : ss.filter (fun s => !outside 0 1125899906842624 s) = ss := List.filter_eq_self.2 fun s hs => by
  obtain ⟨h1, h2⟩ := h s hs
  simp [outside]
  omega
 unfold withL
 rw [h1]; exact ((sortT_inv _ _ rfl).1.filter p).length_eq
def LenOk (q : StM) (M : Md) : Prop := q.ss.length = M.ss.length ∧ q.fs.length = M.fs.length ∧ (q.ss.filter fun s => decide (s.c = 30)).length = M.ws.length
instance (q : StM) (M : Md) : Decidable (LenOk q M) := by unfold LenOk; infer_instance
namespace pVs1
theorem nthx_ (h : φ := by first | exact bkC_n0 | exact bkC_n1 | exact bkC_n2 | exact bkC_n19' | exact tc_n0 | exact tc_n1 | exact rpC_n16 | exact rpC_n17 | exact rpC_n18 | rfl) : φ := h
theorem midx_ (h : φ := by first | exact mdC_t | exact mdC_r | exact rpC_id | exact bkC_mid | exact tc_mid | exact Seen.mid _ | exact Mid.all) : φ := h
theorem szx_ (h : φ := by ((try simp only [rpZ, gotB_len, Wt.cells, rpC_len, bytes_length, Id.len, BK.len, mdC_len, bkC_len tc_len, tc_len, Seen.len]); (first | done | rfl); first | done | fail)) : φ := h
theorem onex_ (h : φ := by first | exact gotB_one | exact mdC_one rfl | exact one_bytes _ | exact rpC_one rfl rfl | exact BK.one _ | exact Seen.one _ | exact bkC_one tc_one | exact tc_one) : φ := h
end pVs1
open pVs1
theorem o1_Vs1 (k : ψ) (h : Hide ψ → φ := by (intro k; refine dr_ [mdB t r lim M, bM M.mf M.fs M.cf, wM M.mw M.ws M.cw] 31 ?_; exact k.out)) : φ := h ⟨k⟩
theorem o2_Vs1 (k : ψ) (h : Hide ψ → φ := by (intro k; refine slc_ rfl rfl Sub.refl (sAll_ok (by omega)) ?_; exact k.out)) : φ := h ⟨k⟩
theorem sameA {K : List Fa} {g : Nat} {t : Ta} {r : Rl} {lim : Int} {q : StM} {M : Md} {a : Ab} (T : TR_ t r lim) (hq : Hq q a) (hg : GA t r lim a) {Q' : Exit → Act → World → Prop} (hN : NoP Q')
  (hend : ∀ {l : Env} {L : List Fa}, Has l [(0, .pointer (some ⟨g, 0, none⟩)), (1, .pointer (some ⟨M.g, 0, none⟩)), (49, .bool (!decide (LenOk q M)))] → Sub L (sF g t r lim q (mdF t r lim M K)) → SE Q' .normal 192 l L) :
  SC Tryz.prog (cAt [false, true, true] (fb Tryz.f39)) Q' 192 [(0, .pointer (some ⟨g, 0, none⟩)), (1, .pointer (some ⟨M.g, 0, none⟩))] (sF g t r lim q (mdF t r lim M K)) := by
 have hsl := hq.sslen hg T
 have hnb := hq.hd.nb
 have hnb2 := hg.nb
 have hml : ((M.fs.map BM.ent).length : Int) = M.fs.length := by rw [List.length_map]
 have hmw : ((M.ws.map WM.ent).length : Int) = M.ws.length := by rw [List.length_map]
 have hwl : ((withL q.ss 0 1125899906842624).filter fun s => decide (s.c = 30)).length = (q.ss.filter fun s => decide (s.c = 30)).length := withL_all fun s hs => by
  have := hg.t1 _ _ (hq.hd.sof hs)
  dsimp only at this
  omega
 by_cases h1 : q.ss.length = M.ss.length
 case neg =>
  rw [show (!decide (LenOk q M)) = true by simp [LenOk, h1]] at hend
  refine o1_Vs1 ?_; refine y4_ 0 3 4 5 ?_; refine y2_ 6 7 ?_; refine w1_ 1 ?_; refine o2_Vs1 ?_; rintro ⟨A1, c1⟩ -; dsimp only; refine vy_ 2 ?_; refine y2_ 8 9 ?_
  first | refine wy_ 10 ?_ | refine wo_ 10 ?_ | refine wp_ 10 ?_
  first | refine wy_ 13 ?_ | refine wo_ 13 ?_ | refine wp_ 13 ?_
  first | refine wy_ 14 ?_ | refine wo_ 14 ?_ | refine wp_ 14 ?_
  first | refine wy_ 15 ?_ | refine wo_ 15 ?_ | refine wp_ 15 ?_
  first | refine wy_ 16 ?_ | refine wo_ 16 ?_ | refine wp_ 16 ?_
  refine w1_ 11 ?_; refine sl_no rfl rfl rfl ?_; refine wn_ ?_
  first | refine wy_ 12 ?_ | refine wo_ 12 ?_ | refine wp_ 12 ?_
  first | refine wy_ 17 ?_ | refine wo_ 17 ?_ | refine wp_ 17 ?_
  first | refine wy_ 18 ?_ | refine wo_ 18 ?_ | refine wp_ 18 ?_
  refine y2_ 19 20 ?_
  first | refine wy_ 21 ?_ | refine wo_ 21 ?_ | refine wp_ 21 ?_
  first | refine wy_ 24 ?_ | refine wo_ 24 ?_ | refine wp_ 24 ?_
  first | refine wy_ 25 ?_ | refine wo_ 25 ?_ | refine wp_ 25 ?_
  first | refine wy_ 26 ?_ | refine wo_ 26 ?_ | refine wp_ 26 ?_
  first | refine wy_ 27 ?_ | refine wo_ 27 ?_ | refine wp_ 27 ?_
  refine w1_ 22 ?_; refine sl_no rfl rfl rfl ?_; refine wn_ ?_
  first | refine wy_ 23 ?_ | refine wo_ 23 ?_ | refine wp_ 23 ?_
  first | refine wy_ 28 ?_ | refine wo_ 28 ?_ | refine wp_ 28 ?_
  first | refine wy_ 29 ?_ | refine wo_ 29 ?_ | refine wp_ 29 ?_
  refine wy_ 30 ?_; refine wx_ ?_; exact hend has_ sub_
 by_cases h2 : q.fs.length = M.fs.length
 case neg =>
  rw [show (!decide (LenOk q M)) = true by simp [LenOk, h2]] at hend
  refine o1_Vs1 ?_; refine y4_ 0 3 4 5 ?_; refine y2_ 6 7 ?_; refine w1_ 1 ?_; refine o2_Vs1 ?_; rintro ⟨A1, c1⟩ -; dsimp only; refine vy_ 2 ?_; refine y2_ 8 9 ?_
  first | refine wy_ 10 ?_ | refine wo_ 10 ?_ | refine wp_ 10 ?_
  first | refine wy_ 13 ?_ | refine wo_ 13 ?_ | refine wp_ 13 ?_
  first | refine wy_ 14 ?_ | refine wo_ 14 ?_ | refine wp_ 14 ?_
  first | refine wy_ 15 ?_ | refine wo_ 15 ?_ | refine wp_ 15 ?_
  first | refine wy_ 16 ?_ | refine wo_ 16 ?_ | refine wp_ 16 ?_
  refine w1_ 11 ?_; refine sl_yes rfl rfl ?_; refine slc_ rfl rfl sub_ (sBook_ok (K := ixo A1 c1 q.ss :: mdF t r lim M K) (g := g) (t := t) (r := r) (lim := lim) (q := q) (by omega) (fun b hb => by have := (hq.fsok hg b hb).2.1; have := t.out_le T.te; omega)) ?_; rintro ⟨A2, c2, n2⟩ hn2
  dsimp only at hn2 ⊢
  subst hn2; refine wn_ ?_
  first | refine wy_ 12 ?_ | refine wo_ 12 ?_ | refine wp_ 12 ?_
  first | refine wy_ 17 ?_ | refine wo_ 17 ?_ | refine wp_ 17 ?_
  first | refine wy_ 18 ?_ | refine wo_ 18 ?_ | refine wp_ 18 ?_
  refine y2_ 19 20 ?_
  first | refine wy_ 21 ?_ | refine wo_ 21 ?_ | refine wp_ 21 ?_
  first | refine wy_ 24 ?_ | refine wo_ 24 ?_ | refine wp_ 24 ?_
  first | refine wy_ 25 ?_ | refine wo_ 25 ?_ | refine wp_ 25 ?_
  first | refine wy_ 26 ?_ | refine wo_ 26 ?_ | refine wp_ 26 ?_
  first | refine wy_ 27 ?_ | refine wo_ 27 ?_ | refine wp_ 27 ?_
  refine w1_ 22 ?_; refine sl_no rfl rfl rfl ?_; refine wn_ ?_
  first | refine wy_ 23 ?_ | refine wo_ 23 ?_ | refine wp_ 23 ?_
  first | refine wy_ 28 ?_ | refine wo_ 28 ?_ | refine wp_ 28 ?_
  first | refine wy_ 29 ?_ | refine wo_ 29 ?_ | refine wp_ 29 ?_
  refine wy_ 30 ?_; refine wx_ ?_; exact hend has_ sub_
 by_cases h3 : (q.ss.filter fun s => decide (s.c = 30)).length = M.ws.length
 case neg =>
  rw [show (!decide (LenOk q M)) = true by simp only [LenOk]; simp only [h3, and_false, decide_false, Bool.not_false]] at hend
  refine o1_Vs1 ?_; refine y4_ 0 3 4 5 ?_; refine y2_ 6 7 ?_; refine w1_ 1 ?_; refine o2_Vs1 ?_; rintro ⟨A1, c1⟩ -; dsimp only; refine vy_ 2 ?_; refine y2_ 8 9 ?_
  first | refine wy_ 10 ?_ | refine wo_ 10 ?_ | refine wp_ 10 ?_
  first | refine wy_ 13 ?_ | refine wo_ 13 ?_ | refine wp_ 13 ?_
  first | refine wy_ 14 ?_ | refine wo_ 14 ?_ | refine wp_ 14 ?_
  first | refine wy_ 15 ?_ | refine wo_ 15 ?_ | refine wp_ 15 ?_
  first | refine wy_ 16 ?_ | refine wo_ 16 ?_ | refine wp_ 16 ?_
  refine w1_ 11 ?_; refine sl_yes rfl rfl ?_; refine slc_ rfl rfl sub_ (sBook_ok (K := ixo A1 c1 q.ss :: mdF t r lim M K) (g := g) (t := t) (r := r) (lim := lim) (q := q) (by omega) (fun b hb => by have := (hq.fsok hg b hb).2.1; have := t.out_le T.te; omega)) ?_; rintro ⟨A2, c2, n2⟩ hn2
  dsimp only at hn2 ⊢
  subst hn2; refine wn_ ?_
  first | refine wy_ 12 ?_ | refine wo_ 12 ?_ | refine wp_ 12 ?_
  first | refine wy_ 17 ?_ | refine wo_ 17 ?_ | refine wp_ 17 ?_
  first | refine wy_ 18 ?_ | refine wo_ 18 ?_ | refine wp_ 18 ?_
  refine y2_ 19 20 ?_
  first | refine wy_ 21 ?_ | refine wo_ 21 ?_ | refine wp_ 21 ?_
  first | refine wy_ 24 ?_ | refine wo_ 24 ?_ | refine wp_ 24 ?_
  first | refine wy_ 25 ?_ | refine wo_ 25 ?_ | refine wp_ 25 ?_
  first | refine wy_ 26 ?_ | refine wo_ 26 ?_ | refine wp_ 26 ?_
  first | refine wy_ 27 ?_ | refine wo_ 27 ?_ | refine wp_ 27 ?_
  refine w1_ 22 ?_; refine sl_yes rfl rfl ?_; refine slc_ rfl rfl sub_ (sWaiting_ok (K := ixo A1 c1 q.ss :: mdF t r lim M K) (g := g) (t := t) (r := r) (lim := lim) (q := q) hq.srt (by omega)) ?_; rintro ⟨A3, c3⟩ -; dsimp only; refine wn_ ?_
  first | refine wy_ 23 ?_ | refine wo_ 23 ?_ | refine wp_ 23 ?_
  first | refine wy_ 28 ?_ | refine wo_ 28 ?_ | refine wp_ 28 ?_
  first | refine wy_ 29 ?_ | refine wo_ 29 ?_ | refine wp_ 29 ?_
  refine wy_ 30 ?_; refine wx_ ?_; exact hend has_ sub_
 rw [show (!decide (LenOk q M)) = false by rw [decide_eq_true (show LenOk q M from ⟨h1, h2, h3⟩)]; rfl] at hend
 refine o1_Vs1 ?_; refine y4_ 0 3 4 5 ?_; refine y2_ 6 7 ?_; refine w1_ 1 ?_; refine o2_Vs1 ?_; rintro ⟨A1, c1⟩ -; dsimp only; refine vy_ 2 ?_; refine y2_ 8 9 ?_
 first | refine wy_ 10 ?_ | refine wo_ 10 ?_ | refine wp_ 10 ?_
 first | refine wy_ 13 ?_ | refine wo_ 13 ?_ | refine wp_ 13 ?_
 first | refine wy_ 14 ?_ | refine wo_ 14 ?_ | refine wp_ 14 ?_
 first | refine wy_ 15 ?_ | refine wo_ 15 ?_ | refine wp_ 15 ?_
 first | refine wy_ 16 ?_ | refine wo_ 16 ?_ | refine wp_ 16 ?_
 refine w1_ 11 ?_; refine sl_yes rfl rfl ?_; refine slc_ rfl rfl sub_ (sBook_ok (K := ixo A1 c1 q.ss :: mdF t r lim M K) (g := g) (t := t) (r := r) (lim := lim) (q := q) (by omega) (fun b hb => by have := (hq.fsok hg b hb).2.1; have := t.out_le T.te; omega)) ?_; rintro ⟨A2, c2, n2⟩ hn2
 dsimp only at hn2 ⊢
 subst hn2; refine wn_ ?_
 first | refine wy_ 12 ?_ | refine wo_ 12 ?_ | refine wp_ 12 ?_
 first | refine wy_ 17 ?_ | refine wo_ 17 ?_ | refine wp_ 17 ?_
 first | refine wy_ 18 ?_ | refine wo_ 18 ?_ | refine wp_ 18 ?_
 refine y2_ 19 20 ?_
 first | refine wy_ 21 ?_ | refine wo_ 21 ?_ | refine wp_ 21 ?_
 first | refine wy_ 24 ?_ | refine wo_ 24 ?_ | refine wp_ 24 ?_
 first | refine wy_ 25 ?_ | refine wo_ 25 ?_ | refine wp_ 25 ?_
 first | refine wy_ 26 ?_ | refine wo_ 26 ?_ | refine wp_ 26 ?_
 first | refine wy_ 27 ?_ | refine wo_ 27 ?_ | refine wp_ 27 ?_
 refine w1_ 22 ?_; refine sl_yes rfl rfl ?_; refine slc_ rfl rfl sub_ (sWaiting_ok (K := ixo A1 c1 q.ss :: mdF t r lim M K) (g := g) (t := t) (r := r) (lim := lim) (q := q) hq.srt (by omega)) ?_; rintro ⟨A3, c3⟩ -; dsimp only; refine wn_ ?_
 first | refine wy_ 23 ?_ | refine wo_ 23 ?_ | refine wp_ 23 ?_
 first | refine wy_ 28 ?_ | refine wo_ 28 ?_ | refine wp_ 28 ?_
 first | refine wy_ 29 ?_ | refine wo_ 29 ?_ | refine wp_ 29 ?_
 refine wy_ 30 ?_; refine wx_ ?_; exact hend has_ sub_
end
section
theorem pu_sne {P : Program} {C : World → Prop} {n : Nat} {l : Env} {x y : Operand} {t t' ty : TypeId} {p q : List Int} (hp : IsBytes p) (hq : IsBytes q) (h : p ≠ q) (hx : ev l x = some (.string (strOfNums p))) (hy : ev l y = some (.string (strOfNums q))) : Pu P C n l (.binOp .neq t x y t') ty (.bool true) := by
 have h1 := pu_str_neq (P := P) (C := C) (n := n) (t := t) (t' := t') (ty := ty) hx hy
 have h2 : ((strOfNums p).toList != (strOfNums q).toList) = true := by
  show (!((strOfNums p).toList == (strOfNums q).toList)) = true
  rw [strs_dec hp hq, decide_eq_false h]
  rfl
 rwa [h2] at h1
theorem got_has {q : StM} {a : Ab} {id : Id} (hq : Hq q a) (h : hasI q.ss id = true) : (gotI q.ss id).id = id ∧ a.seen id = some ((gotI q.ss id).t, (gotI q.ss id).c) := by
 obtain ⟨s, h1, h2⟩ := hasI_pos hq.srt h
 have hg : gotI q.ss id = s := by unfold gotI getI; rw [if_pos h, h1]; rfl
 rw [hg]
 refine ⟨h2, ?_⟩
 rw [← h2]; exact hq.hd.sof (List.mem_of_getElem? h1)
namespace pVs2
theorem nthx_ (h : φ := by first | exact rpC_n16 | exact rpC_n17 | exact rpC_n18 | exact Seen.nt _ | exact Seen.nc _ | rfl) : φ := h
theorem midx_ (h : φ := by first | exact mdC_t | exact mdC_r | exact rpC_id | exact Seen.mid _ | exact Mid.all) : φ := h
theorem szx_ (h : φ := by ((try simp only [rpZ, Wt.cells, rpC_len, bytes_length, Id.len, mdC_len, Seen.len]); (first | done | rfl); first | done | fail)) : φ := h
theorem onex_ (h : φ := by first | exact mdC_one rfl | exact one_bytes _ | exact rpC_one rfl rfl | exact Seen.one _) : φ := h
end pVs2
open pVs2
abbrev sE10 (gs gm : Nat) (sA : Option Addr) (n sc j g6 g7 g9 g11 : Nat) (hb zb i12 : Bool) (S13 : Value) (sb : Bool) : Env := [(0, .pointer (some ⟨gs, 0, none⟩)), (1, .pointer (some ⟨gm, 0, none⟩)), (6, .pointer (some ⟨g6, 0, none⟩)), (7, .pointer (some ⟨g7, 0, none⟩)), (8, .bool hb), (9, .pointer (some ⟨g9, 0, none⟩)), (10, .bool zb), (11, .pointer (some ⟨g11, 0, none⟩)), (12, .bool i12), (13, S13), (14, .bool sb), (53, .slice sA n sc), (54, .int .i64 n), (55, .int .i64 j)]
abbrev sE11 (gs gm : Nat) (sA : Option Addr) (n sc j : Nat) (v : Bool) : Env := [(0, .pointer (some ⟨gs, 0, none⟩)), (1, .pointer (some ⟨gm, 0, none⟩)), (53, .slice sA n sc), (54, .int .i64 n), (55, .int .i64 j), (151, .bool v)]
theorem o1_Vs2 (k : ψ) (h : Hide ψ → φ := by (intro k; refine sq_region (by kernel_rfl) (by kernel_rfl) ?_; exact k.out)) : φ := h ⟨k⟩
theorem o2_Vs2 (h : φ := by exact hend true ⟨fun h => (by cases h), fun h => absurd h hns⟩ has_ sub_) : φ := h
theorem o3_Vs2 (k : ψ) (h : Hide ψ → φ := by (intro k; refine wq_pu (pu_seen_neq (a := s) (b := s) rfl rfl) rfl ?_; exact k.out)) : φ := h ⟨k⟩
theorem sameC {K : List Fa} {g n sc j g6 g7 g9 g11 : Nat} {sA : Option Addr} {t : Ta} {r : Rl} {lim : Int} {q : StM} {M : Md} {a b : Ab} {s : Seen} {z : WaR} {sa : SaR} {i12 : Bool} {C11 : List Value} (hq : Hq q a) (hm : Hm M b) (hg : GA t r lim a) (hg' : GA t r lim b) (hv : MV K M) (hs : s ∈ M.ss) (hz : z.ok (a.wait s.id)) (hsa : sa.ok (a.said s.id))
  (h11 : (i12 = true ∧ ∃ w ∈ M.ws, w.id = s.id ∧ C11 = w.cells) ∨ (i12 = false ∧ C11 = rpZ ∧ wfind M.ws s.id = none)) {Q' : Exit → Act → World → Prop} (hN : NoP Q')
  (hend : ∀ {l : Env} {L : List Fa} (v : Bool), (v = false ↔ SameAt a b s) → Has l (sE11 g M.g sA n sc j v) → Sub L (sF g t r lim q (mdF t r lim M K)) → SE Q' .normal 192 l L) :
  SC Tryz.prog (cAt [false, false, true, false, true, true, false, false, true, true, false, false, false, false, false, true] (fb Tryz.f39)) Q' 192 (sE10 g M.g sA n sc j g6 g7 g9 g11 (hasI q.ss s.id) z.b i12 (.slice sa.A sa.l.length sa.c) sa.b)
   (blk g11 49 C11 :: blk g9 49 z.C :: blk g7 62 (gotI q.ss s.id).cells :: blk g6 62 s.cells :: u8o sa.A sa.c sa.l :: u8o z.A z.c z.p :: u8o z.B z.d z.s :: sF g t r lim q (mdF t r lim M K)) := by
 have hk := s.id.klaw
 have hbs := hm.sof hs
 cases hb : hasI q.ss s.id with
 | false =>
  have hns : ¬ SameAt a b s := fun h => by
   have h1 := hq.has s.id
   rw [hb, h.1] at h1
   cases h1
  refine o1_Vs2 ?_
  repeat refine rq_ ?_
  refine sq_end ?_; exact o2_Vs2
 | true =>
  obtain ⟨y1, y2⟩ := got_has hq hb
  obtain ⟨y, hy⟩ : ∃ y, y = gotI q.ss s.id := ⟨_, rfl⟩
  rw [← hy] at y1 y2 ⊢
  by_cases hys : y = s
  case neg =>
   have hns : ¬ SameAt a b s := fun h => by
    have h1 := y2.symm.trans h.1
    injection h1 with h1
    injection h1 with h1 h2
    exact hys (Seen.ext_ (by rw [y1]) h1 h2)
   refine o1_Vs2 ?_
   repeat refine rq_ ?_
   refine wq_pu (pu_seen_neq (a := y) (b := s) rfl rfl) rfl ?_; rw [decide_eq_false hys]
   repeat refine rq_ ?_
   refine sq_end ?_; exact o2_Vs2
  rw [hys] at y2 ⊢
  rcases hz with ⟨hzb, hzw⟩ | ⟨hzb, hzw⟩ <;> rcases h11 with ⟨h12, w, hw, hwi, hC⟩ | ⟨h12, hC, hwn⟩
  ·-- both wait
   rw [hzb, h12, hC]
   unfold WaR.C
   have hbw : b.wait s.id = some (w.t, w.p, w.s) := by rw [← hwi]; exact hm.wof hw
   have k1 := hg.w1 _ _ hzw
   have k2 := hg'.w1 _ _ hbw
   have e1 := y2.symm.trans k1.1
   injection e1 with e1
   injection e1 with e1 e2
   have e3 := hbs.symm.trans k2.1
   injection e3 with e3
   injection e3 with e3 e4
   dsimp only at e1 e2 e3 e4
   have hzt : z.t = w.t := e1.symm.trans e3
   rw [hzt] at hzw ⊢
   have hsn : a.said s.id = none := hg.nosaid hzw
   have hsn' : b.said s.id = none := hg'.nosaid hbw
   have hsb : sa.b = false := by
    rcases hsa with ⟨_, h⟩ | ⟨h, _⟩
    ·rw [hsn] at h; cases h
    ·exact h
   have hsc : s.c ≠ 0 := by omega
   rw [hsb]
   by_cases hp : z.p = w.p
   case neg =>
    have hns : ¬ SameAt a b s := fun h => by
     have h1 := h.2.1
     rw [hzw, hbw] at h1
     injection h1 with h1
     injection h1 with _ h1
     injection h1 with h1 _
     exact hp h1
    refine o1_Vs2 ?_
    repeat refine rq_ ?_
    refine o3_Vs2 ?_; rw [decide_eq_true rfl]
    repeat refine rq_ ?_
    refine wq_pu (pu_strv (bs := z.p) (Vw.of_own (e := 5) (A := z.A) (c := z.c) at_) rfl rfl rfl rfl) rfl ?_
    repeat refine rq_ ?_
    refine wq_pu (pu_strv (bs := w.p) ((hv.p w hw).mono sub_) rfl rfl rfl rfl) rfl ?_; refine wq_yes rfl rfl ?_; refine wq_pu (pu_sne k1.2.2.2.1 k2.2.2.2.1 hp rfl rfl) rfl ?_
    repeat refine rq_ ?_
    refine sq_end ?_; exact o2_Vs2
   by_cases hp2 : z.s = w.s
   case neg =>
    have hns : ¬ SameAt a b s := fun h => by
     have h1 := h.2.1
     rw [hzw, hbw] at h1
     injection h1 with h1
     injection h1 with _ h1
     injection h1 with _ h1
     exact hp2 h1
    refine o1_Vs2 ?_
    repeat refine rq_ ?_
    refine o3_Vs2 ?_; rw [decide_eq_true rfl]
    repeat refine rq_ ?_
    refine wq_pu (pu_strv (bs := z.p) (Vw.of_own (e := 5) (A := z.A) (c := z.c) at_) rfl rfl rfl rfl) rfl ?_
    repeat refine rq_ ?_
    refine wq_pu (pu_strv (bs := w.p) ((hv.p w hw).mono sub_) rfl rfl rfl rfl) rfl ?_; refine wq_yes rfl rfl ?_; refine wq_pu (pu_str_neq_same rfl (by rw [hp]; rfl)) rfl ?_
    repeat refine rq_ ?_
    refine wq_pu (pu_strv (bs := z.s) (Vw.of_own (e := 5) (A := z.B) (c := z.d) at_) rfl rfl rfl rfl) rfl ?_
    repeat refine rq_ ?_
    refine wq_pu (pu_strv (bs := w.s) ((hv.s w hw).mono sub_) rfl rfl rfl rfl) rfl ?_; refine wq_yes rfl rfl ?_; refine wq_pu (pu_sne k1.2.2.2.2 k2.2.2.2.2 hp2 rfl rfl) rfl ?_
    repeat refine rq_ ?_
    refine sq_end ?_; exact o2_Vs2
   refine o1_Vs2 ?_
   repeat refine rq_ ?_
   refine o3_Vs2 ?_; rw [decide_eq_true rfl]
   repeat refine rq_ ?_
   refine wq_pu (pu_strv (bs := z.p) (Vw.of_own (e := 5) (A := z.A) (c := z.c) at_) rfl rfl rfl rfl) rfl ?_
   repeat refine rq_ ?_
   refine wq_pu (pu_strv (bs := w.p) ((hv.p w hw).mono sub_) rfl rfl rfl rfl) rfl ?_; refine wq_yes rfl rfl ?_; refine wq_pu (pu_str_neq_same rfl (by rw [hp]; rfl)) rfl ?_
   repeat refine rq_ ?_
   refine wq_pu (pu_strv (bs := z.s) (Vw.of_own (e := 5) (A := z.B) (c := z.d) at_) rfl rfl rfl rfl) rfl ?_
   repeat refine rq_ ?_
   refine wq_pu (pu_strv (bs := w.s) ((hv.s w hw).mono sub_) rfl rfl rfl rfl) rfl ?_; refine wq_yes rfl rfl ?_; refine wq_pu (pu_str_neq_same rfl (by rw [hp2]; rfl)) rfl ?_
   repeat refine rq_ ?_
   refine sq_end ?_; exact hend false ⟨fun _ => ⟨y2, by rw [hzw, hbw, hp, hp2], by rw [hsn, hsn']⟩, fun _ => rfl⟩ has_ sub_
  ·-- it waits, the law's doesn't
   rw [hzb, h12, hC]
   unfold WaR.C
   have hns : ¬ SameAt a b s := fun h => by
    have h1 := h.2.1
    rw [hzw] at h1
    have h2 := hm.wis s.id
    rw [hwn, ← h1] at h2
    cases h2
   refine o1_Vs2 ?_
   repeat refine rq_ ?_
   refine o3_Vs2 ?_; rw [decide_eq_true rfl]
   repeat refine rq_ ?_
   refine sq_end ?_; exact o2_Vs2
  ·-- the law's waits, it doesn't
   rw [hzb, h12, hC]
   unfold WaR.C
   have hns : ¬ SameAt a b s := fun h => by
    have h1 := h.2.1
    have hbw : b.wait s.id = some (w.t, w.p, w.s) := by rw [← hwi]; exact hm.wof hw
    rw [hzw, hbw] at h1
    cases h1
   refine o1_Vs2 ?_
   repeat refine rq_ ?_
   refine o3_Vs2 ?_; rw [decide_eq_true rfl]
   repeat refine rq_ ?_
   refine sq_end ?_; exact o2_Vs2
  ·-- none waits
   rw [hzb, h12, hC]
   unfold WaR.C
   have hbw : b.wait s.id = none := by
    have h2 := hm.wis s.id
    rw [hwn] at h2
    exact Option.isSome_eq_false_iff.1 h2.symm |> Option.isNone_iff_eq_none.1
   have d1 := hg.d1 _ _ _ y2
   have d2 := hg'.d1 _ _ _ hbs
   rcases hsa with ⟨hsb, hsd⟩ | ⟨hsb, hsd⟩
   ·rw [hsb]
    have hc0 : s.c = 0 := d1.1 (by rw [hsd]; rfl)
    obtain ⟨l', hl'⟩ := Option.isSome_iff_exists.1 (d2.2 hc0)
    obtain ⟨d, hd, hdi, hdl⟩ := hm.dsome hl'
    obtain ⟨x, hx, rfl⟩ := List.mem_map.1 hd
    have hxi : x.id = s.id := hdi
    have hxl : x.l = l' := hdl
    have hgx : MGet (M.sd.map SXM.ent) s.id.v (.string (strOfNums x.l)) := by
     have := kget (M := SXM) hx
     rw [← hxi]; exact this
    have b1 := (hg.d3 _ _ hsd).2
    have b2 := (hg'.d3 _ _ hl').2
    rw [← hxl] at b2 hl'
    by_cases hp : sa.l = x.l
    ·refine o1_Vs2 ?_
     repeat refine rq_ ?_
     refine o3_Vs2 ?_; rw [decide_eq_true rfl]
     repeat refine rq_ ?_
     refine wq_pu (pu_strv (bs := sa.l) (Vw.of_own (e := 5) (A := sa.A) (c := sa.c) at_) rfl rfl rfl rfl) rfl ?_
     repeat refine rq_ ?_
     refine sq_end ?_; rw [show ((strOfNums sa.l).toList == (strOfNums x.l).toList) = true by rw [strs_dec b1 b2, decide_eq_true hp]]; exact hend false ⟨fun _ => ⟨y2, by rw [hzw, hbw], by rw [hsd, hl', hp]⟩, fun _ => rfl⟩ has_ sub_
    ·have hns : ¬ SameAt a b s := fun h => by
      have h1 := h.2.2
      rw [hsd, hl'] at h1
      injection h1 with h1
      exact hp h1
     refine o1_Vs2 ?_
     repeat refine rq_ ?_
     refine o3_Vs2 ?_; rw [decide_eq_true rfl]
     repeat refine rq_ ?_
     refine wq_pu (pu_strv (bs := sa.l) (Vw.of_own (e := 5) (A := sa.A) (c := sa.c) at_) rfl rfl rfl rfl) rfl ?_
     repeat refine rq_ ?_
     refine sq_end ?_; rw [show ((strOfNums sa.l).toList == (strOfNums x.l).toList) = false by rw [strs_dec b1 b2, decide_eq_false hp]]; exact o2_Vs2
   ·rw [hsb]
    have hc0 : s.c ≠ 0 := fun h => by
     have := d1.2 h
     rw [hsd] at this
     cases this
    have hbd : b.said s.id = none := by
     cases h : b.said s.id with
     | none => rfl
     | some x => exact absurd (d2.1 (by rw [h]; rfl)) hc0
    refine o1_Vs2 ?_
    repeat refine rq_ ?_
    refine o3_Vs2 ?_; rw [decide_eq_true rfl]
    repeat refine rq_ ?_
    refine sq_end ?_; exact hend false ⟨fun _ => ⟨y2, by rw [hzw, hbw], by rw [hsd, hbd]⟩, fun _ => rfl⟩ has_ sub_
end
section
theorem gotB_some {b : BK} {A : Option Addr} {c : Nat} : gotB (some b) A c = bkC b.st (tc A b.l.length c b.m b.k) b.cl := by unfold gotB; rfl
theorem gotF_some {b : BK} {A : Option Addr} {c : Nat} : gotF (some b) A c = eo A b.l.length c b.l := by unfold gotF; rfl
namespace pVs3
theorem nthx_ (h : φ := by first | exact bkC_n0 | exact bkC_n1 | exact bkC_n2 | exact bkC_n19' | exact tc_n0 | exact tc_n1 | exact rpC_n16 | exact rpC_n17 | exact rpC_n18 | exact Seen.nt _ | exact Seen.nc _ | rfl) : φ := h
theorem midx_ (h : φ := by first | exact mdC_t | exact mdC_r | exact rpC_id | exact bkC_mid | exact tc_mid | exact Seen.mid _ | exact Mid.all) : φ := h
theorem szx_ (h : φ := by ((try simp only [WaR.C, rpZ, gotB_len, Wt.cells, rpC_len, bytes_length, Id.len, BK.len, mdC_len, bkC_len tc_len, tc_len, Seen.len]); (first | done | rfl); first | done | fail)) : φ := h
theorem onex_ (h : φ := by first | exact gotB_one | exact mdC_one rfl | exact one_bytes _ | exact rpC_one rfl rfl | exact BK.one _ | exact Seen.one _ | exact bkC_one tc_one | exact tc_one) : φ := h
end pVs3
open pVs3
theorem o1_Vs3 (h : φ := by exact se_ret1 false ⟨fun h => (by cases h), fun h => absurd h hno⟩ rfl rfl sub_) : φ := h
theorem msame_ok {K : List Fa} {g : Nat} {t : Ta} {r : Rl} {lim : Int} {q : StM} {M : Md} {a b : Ab} (T : TR_ t r lim) (hq : Hq q a) (hm : Hm M b) (hg : GA t r lim a) (hg' : GA t r lim b) (hv : MV K M) :
  Fn Tryz.prog 39 #[.pointer (some ⟨g, 0, none⟩), .pointer (some ⟨M.g, 0, none⟩)] (sF g t r lim q (mdF t r lim M K)) (Ret (fun v : Bool => (v = true ↔ a = b)) (fun v => .bool v) (fun _ => sF g t r lim q (mdF t r lim M K))) := by
 have hsl := hq.sslen hg T
 have hmn := hm.n
 have hmn2 := hg'.n
 have hl1 := T.l1
 have hol := t.out_le T.te
 refine fn_know (kM_nodup (M := BM) (m := M.mf) (d := .int .u64) (fs := M.fs) (ck := M.cf) at_) ?_; rintro ⟨hndB, hksB⟩; refine fe_ Tryz.func39 Tryz.ntmps39 [(0, .pointer (some ⟨g, 0, none⟩)), (1, .pointer (some ⟨M.g, 0, none⟩))] ?_; refine go_ ?_; refine sc_env [(0, .pointer (some ⟨g, 0, none⟩)), (1, .pointer (some ⟨M.g, 0, none⟩))] has_ ?_; refine sameA T hq hg ?_ ?_
 ·exact nop_
 intro l L hl hL; refine se_envK hl ?_; refine se_subK hL ?_
 by_cases hlen : LenOk q M
 case neg =>
  rw [decide_eq_false hlen]; refine go_ ?_; exact se_ret1 false ⟨fun h => (by cases h), fun h => absurd (same_len hq.hd hm hg h) hlen⟩ rfl rfl sub_
 rw [decide_eq_true hlen]; refine go_ ?_; refine sc_bjoin (α := Unit) (fun _ => [(0, .pointer (some ⟨g, 0, none⟩)), (1, .pointer (some ⟨M.g, 0, none⟩))]) (fun _ => sF g t r lim q (mdF t r lim M K)) (fun _ => ∀ u ∈ M.ss, SameAt a b u) ?_ ?_
 ·refine sc_for (α := Nat) (fun j => [(0, .pointer (some ⟨g, 0, none⟩)), (1, .pointer (some ⟨M.g, 0, none⟩)), (53, .slice M.sA M.ss.length M.sc), (54, .int .i64 M.ss.length), (55, .int .i64 j)]) (fun _ => sF g t r lim q (mdF t r lim M K)) (fun j => j ≤ M.ss.length ∧ ∀ k u, k < j → M.ss[k]? = some u → SameAt a b u) (fun j => M.ss.length - j) 0 has_ sub_ ⟨Nat.zero_le _, fun k u hk => absurd hk (Nat.not_lt_zero _)⟩ ?_; rintro j ⟨hj, hall⟩
  by_cases hlt : j < M.ss.length
  case neg =>
   refine go_ ?_
   exact se_mid () has_ sub_ (fun u hu => by
     obtain ⟨k, hk⟩ := List.getElem?_of_mem hu
     exact hall k u (by have := (List.getElem?_eq_some_iff.1 hk).1; omega) hk)
  obtain ⟨s, hs⟩ : ∃ s, M.ss[j]? = some s := ⟨_, List.getElem?_eq_getElem hlt⟩
  have hsm : s ∈ M.ss := List.mem_of_getElem? hs
  have hmid := sn_mid hs
  have hk := s.id.klaw
  obtain ⟨A, hA⟩ : ∃ A, M.sA = A := ⟨_, rfl⟩
  rw [hA]; refine sc_form (e := 62) (size := 18) (A := A) (m := M.ss.length) (c := M.sc) (xs := rows Seen.cells M.ss) (by rw [← hA]; exact at_) (by omega) ?_; rintro g0 rfl; refine go_ ?_; refine sl_pu (pu_ldrs (Vw.of_own (e := 62) (A := some ⟨g0, 0, none⟩) (c := M.sc) (by rw [← hA]; exact at_)) (by omega) rfl hmid rfl rfl (by rw [Seen.len]; rfl)) rfl ?_; refine go_ ?_; refine al_ ?_; intro g6; refine go_ ?_; refine slc_ rfl rfl sub_ (sSeen_ok (K := blk g6 62 s.cells :: mdF t r lim M K) (g := g) (t := t) (r := r) (lim := lim) (q := q) (id := s.id) hq.srt (by omega)) ?_; rintro _ -; refine go_ ?_; refine al_ ?_; intro g7; refine go_ ?_; refine slc_ rfl rfl sub_ (sWaits_any (K := blk g7 62 (gotI q.ss s.id).cells :: blk g6 62 s.cells :: mdF t r lim M K) (g := g) (t := t) (r := r) (lim := lim) (q := q) (a := a) s.id hq hg) ?_; rintro z hz; refine go_ ?_; refine al_ ?_; intro g9; refine go_ ?_
  refine sc_join (α := Nat × Bool × List Value) (fun y => [(0, .pointer (some ⟨g, 0, none⟩)), (1, .pointer (some ⟨M.g, 0, none⟩)), (6, .pointer (some ⟨g6, 0, none⟩)), (7, .pointer (some ⟨g7, 0, none⟩)), (8, .bool (hasI q.ss s.id)), (9, .pointer (some ⟨g9, 0, none⟩)), (10, .bool z.b), (11, .pointer (some ⟨y.1, 0, none⟩)), (12, .bool y.2.1), (53, .slice (some ⟨g0, 0, none⟩) M.ss.length M.sc), (54, .int .i64 M.ss.length), (55, .int .i64 j)])
   (fun y => blk y.1 49 y.2.2 :: blk g9 49 z.C :: blk g7 62 (gotI q.ss s.id).cells :: blk g6 62 s.cells :: u8o z.A z.c z.p :: u8o z.B z.d z.s :: sF g t r lim q (mdF t r lim M K)) (fun y => (y.2.1 = true ∧ ∃ w ∈ M.ws, w.id = s.id ∧ y.2.2 = w.cells) ∨ (y.2.1 = false ∧ y.2.2 = rpZ ∧ wfind M.ws s.id = none)) ?_ ?_
  ·cases hf : wfind M.ws s.id with
   | none =>
    have hno : MNo (M.ws.map WM.ent) s.id.v := kno (M := WM) (wfind_none hf)
    refine dr_ [mdB t r lim M, blk g6 62 s.cells, wM M.mw M.ws M.cw] 13 ?_; refine y4_ 0 1 2 3 ?_; refine y4_ 4 5 6 7 ?_; refine y2_ 8 9 ?_; refine w1_ 10 ?_; refine al_ ?_; intro g11; refine v1_ 11 ?_; refine sto_ ?_; refine vy_ 12 ?_; refine wx_ ?_; exact se_mid (g11, false, rpZ) has_ sub_ (.inr ⟨rfl, rfl, rfl⟩)
   | some w =>
    obtain ⟨hwi, -⟩ := wfind_split hf
    have hwm := (wfind_some hf).1
    have hgw : MGet (M.ws.map WM.ent) s.id.v (.agg w.cells.toArray) := by rw [← hwi]; exact kget (M := WM) hwm
    refine dr_ [mdB t r lim M, blk g6 62 s.cells, wM M.mw M.ws M.cw] 13 ?_; refine y4_ 0 1 2 3 ?_; refine y4_ 4 5 6 7 ?_; refine y2_ 8 9 ?_; refine w1_ 10 ?_; refine al_ ?_; intro g11; refine v1_ 11 ?_; refine sto_ ?_; refine vy_ 12 ?_; refine wx_ ?_; exact se_mid (g11, true, w.cells) has_ sub_ (.inl ⟨rfl, w, hwm, hwi, rfl⟩)
  rintro ⟨g11, i12, C11⟩ h11
  dsimp only at h11 ⊢
  refine go_ ?_; refine slc_ rfl rfl sub_ (sSaid_any (K := blk g11 49 C11 :: blk g9 49 z.C :: blk g7 62 (gotI q.ss s.id).cells :: blk g6 62 s.cells :: u8o z.A z.c z.p :: u8o z.B z.d z.s :: mdF t r lim M K) (g := g) (t := t) (r := r) (lim := lim) (q := q) (a := a) s.id hq hg) ?_; rintro sa hsa; refine go_ ?_; refine sc_env (sE10 g M.g (some ⟨g0, 0, none⟩) M.ss.length M.sc j g6 g7 g9 g11 (hasI q.ss s.id) z.b i12 (.slice sa.A sa.l.length sa.c) sa.b) has_ ?_; refine sc_sub (L' := blk g11 49 C11 :: blk g9 49 z.C :: blk g7 62 (gotI q.ss s.id).cells :: blk g6 62 s.cells :: u8o sa.A sa.c sa.l :: u8o z.A z.c z.p :: u8o z.B z.d z.s :: sF g t r lim q (mdF t r lim M K)) sub_ ?_; refine sameC (M := M) (a := a) (b := b) (s := s) hq hm hg hg' hv hsm hz hsa h11 ?_ ?_
  ·exact nop_
  intro l L v hvv hl hL; refine se_envK hl ?_; refine se_subK hL ?_
  cases v with
  | true =>
   refine go_ ?_; exact se_ret1 false ⟨fun h => (by cases h), fun h => absurd (hvv.2 (same_at hm h hsm)) (by decide)⟩ rfl rfl sub_
  | false =>
   refine go_ ?_
   exact se_round (j + 1) has_ sub_ ⟨hlt, fun k u hk hu => by
     rcases Nat.lt_or_ge k j with h1 | h1
     · exact hall k u h1 hu
     · obtain rfl : k = j := by omega
       rw [hs] at hu
       cases hu
       exact hvv.1 rfl⟩ (by omega)
 rintro _ hss; refine go_ ?_; refine sl_range (g := M.mf) rfl at_ rfl rfl ?_; intro r0; refine go_ ?_; refine sc_bjoin (α := Unit) (fun _ => []) (fun _ => sF g t r lim q (mdF t r lim M K)) (fun _ => ∀ u ∈ M.fs, a.win u.st = some (u.l, u.m, u.k, u.cl)) ?_ ?_
 ·refine sc_for (α := List BK) (fun us => [(0, .pointer (some ⟨g, 0, none⟩)), (157, .pointer (some ⟨r0, 0, none⟩))]) (fun us => itr r0 M.mf M.cf (us.map BM.ent) :: sF g t r lim q (mdF t r lim M K)) (fun us => us.Nodup ∧ (∀ u ∈ us, u ∈ M.fs) ∧ ∀ u ∈ us, a.win u.st = some (u.l, u.m, u.k, u.cl)) (fun us => M.fs.length - us.length) [] has_ sub_ ⟨List.nodup_nil, (fun _ h => by cases h), (fun _ h => by cases h)⟩ ?_; rintro us ⟨hun, hus, huw⟩; refine sc_seq ?_; refine sc_region ?_; refine sl_next (g := M.mf) (ck := M.cf) (es := M.fs.map BM.ent) rfl at_ pick_ (fun y hy => by obtain ⟨u, hu, rfl⟩ := List.mem_map.1 hy; exact List.mem_map_of_mem (hus u hu)) rfl (fun hall => ?_) (fun y hy hn2 => ?_)
  ·have hp : us.Perm M.fs := (List.perm_ext_iff_of_nodup hun hndB).2 fun x => ⟨hus x, fun hx => by
     obtain ⟨u, hu, he⟩ := List.mem_map.1 (hall _ (List.mem_map_of_mem hx))
     rwa [← kent_inj (M := BM) hksB (hus u hu) hx he]⟩
   refine go_ ?_; exact se_mid () has_ sub_ (fun u hu => huw u (hp.mem_iff.2 hu))
  ·obtain ⟨f, hf, rfl⟩ := List.mem_map.1 hy
   have hfu : f ∉ us := fun h => hn2 (List.mem_map_of_mem h)
   have hnd' : (us ++ [f]).Nodup := List.nodup_append.2 ⟨hun, List.nodup_cons.2 ⟨by simp, List.nodup_nil⟩, fun a ha b hb e => by rw [List.mem_singleton] at hb; exact hfu (by rw [← hb, ← e]; exact ha)⟩
   have hsub : ∀ u ∈ us ++ [f], u ∈ M.fs := fun u h => by
    rcases List.mem_append.1 h with h | h
    ·exact hus u h
    ·rw [List.mem_singleton] at h
     rw [h]; exact hf
   obtain ⟨z, hz⟩ := sub_splitK hnd' hndB hsub
   have hlenz := hz.length_eq
   rw [List.length_append, List.length_append, List.length_singleton] at hlenz
   have hmm : us.map BM.ent ++ [BM.ent f] = (us ++ [f]).map BM.ent := by simp
   have hval : (BM.ent f).val = .agg (bkC f.st (tc f.A f.l.length f.c f.m f.k) f.cl).toArray := rfl
   have hvk : (BM.ent f).key = .int .u64 f.st := rfl
   have hfl := (hg'.b1 _ _ (hm.bof hf)).1
   refine go_ ?_; rw [hvk, hval, hmm]; refine go_ ?_; refine al_ ?_; intro g16; refine go_ ?_; refine slc_ rfl rfl sub_ (sWindow_ok (K := blk g16 70 (bkC f.st (tc f.A f.l.length f.c f.m f.k) f.cl) :: itr r0 M.mf M.cf ((us ++ [f]).map BM.ent) :: mdF t r lim M K) (g := g) (t := t) (r := r) (lim := lim) (q := q) (s := f.st) (fun b hb => by have := (hq.fsok hg b hb).2.1; omega)) ?_; rintro ⟨A1, c1⟩ -; dsimp only
   have hbw := hm.bof hf
   cases hx : bfind q.fs f.st with
   | none =>
    have hno : a ≠ b := fun h => by
     have h1 := same_win hm h hf
     have h2 := hq.hd.bis f.st
     rw [hx, h1] at h2
     cases h2
    dsimp only [Option.isSome]
    refine go_ ?_; refine al_ ?_; intro g17; refine go_ ?_; exact o1_Vs3
   | some x =>
    obtain ⟨hxm, hxs⟩ := bfind_some hx
    have haw := hq.hd.bof hxm
    rw [hxs] at haw
    have hxl := (hg.b1 _ _ haw).1
    have hxl' : x.l.length ≤ 1000000 := by
     have h9 := hxl
     dsimp only at h9
     omega
    rw [gotB_some, gotF_some, hxs]
    dsimp only [Option.isSome]
    by_cases hcl : x.cl = f.cl
    case neg =>
     have hno : a ≠ b := fun h => by
      have h1 := haw.symm.trans (same_win hm h hf)
      injection h1 with h1
      injection h1 with _ h1
      injection h1 with _ h1
      injection h1 with _ h1
      exact hcl h1
     have hcc : (x.cl = true ∧ f.cl = false) ∨ (x.cl = false ∧ f.cl = true) := by
      cases h1 : x.cl <;> cases h2 : f.cl
      ·exact absurd (h1.trans h2.symm) hcl
      ·exact .inr ⟨rfl, rfl⟩
      ·exact .inl ⟨rfl, rfl⟩
      ·exact absurd (h1.trans h2.symm) hcl
     rcases hcc with ⟨h1, h2⟩ | ⟨h1, h2⟩
     ·rw [h1, h2]; refine go_ ?_; refine al_ ?_; intro g17; refine go_ ?_; exact o1_Vs3
     ·rw [h1, h2]; refine go_ ?_; refine al_ ?_; intro g17; refine go_ ?_; exact o1_Vs3
    rw [hcl]; refine go_ ?_; refine al_ ?_; intro g17
    cases hfc : f.cl <;>
    ·refine go_ ?_; refine slc_ rfl rfl Sub.refl (tsame_ex (xs := x.l) (ys := f.l) (Vw.of_own (e := 102) (A := A1) (c := c1) at_) ((hv.b f hf).mono sub_) hxl') ?_; rintro _ -
     by_cases he : x.l = f.l ∧ x.m = f.m ∧ x.k.l = f.k.l
     ·rw [decide_eq_true he]; refine go_ ?_
      exact se_round (us ++ [f]) has_ sub_ ⟨hnd', hsub, fun u hu => by
        rcases List.mem_append.1 hu with h | h
        · exact huw u h
        · rw [List.mem_singleton] at h
          rw [h, haw, he.1, he.2.1, Id.ext_ he.2.2, hcl]⟩ (by rw [List.length_append, List.length_singleton]; omega)
     ·have hno : a ≠ b := fun h => by
       have h1 := haw.symm.trans (same_win hm h hf)
       injection h1 with h1
       injection h1 with h2 h1
       injection h1 with h3 h1
       injection h1 with h4 h1
       exact he ⟨h2, h3, by rw [h4]⟩
      rw [decide_eq_false he]; refine go_ ?_; exact o1_Vs3
 rintro _ hbb; refine go_ ?_; exact se_ret1 true ⟨fun _ => same_sound hq.hd hm hg hg' hlen.1 hlen.2.1 hlen.2.2 hss hbb, fun _ => rfl⟩ rfl rfl sub_
end
end
end Go.Proofs.YtocaabnbmcpjmaaGreat
