/- Several texts of one claim, one behind the other. -/
import Derived.Test.YtocaabnbmcpjmaaGreatB20
import Derived.Test.YtocaabnbmcpjmaaGreatB15
import Derived.Test.YtocaabnbmcpjmaaGreatB18
import Derived.Test.YtocaabnbmcpjmaaGreatB06
import Derived.Test.YtocaabnbmcpjmaaGreatB11
set_option linter.unusedVariables false
set_option linter.unusedSimpArgs false
set_option maxRecDepth 100000
set_option maxHeartbeats 16000000
namespace Go.Proofs.YtocaabnbmcpjmaaGreat
variable {φ ψ : Prop}
section
open Go.RowKit Go.MapKept
attribute [local irreducible] Go.Calls Go.Exit.then Go.Exit.inBlock Go.bodyPost Go.Code.wp Go.wpList takeL recordL hashL recL allL decR
section
def comE (r : Rl) (q : StM) (id : Id) : Int := match wfind q.ws id with | none => 19 | some w => fitsE r q.fs w.t
theorem comE_none {r : Rl} {q : StM} {id : Id} (h : wfind q.ws id = none) : comE r q id = 19 := by unfold comE; rw [h]
theorem comE_some {r : Rl} {q : StM} {id : Id} {w : Wt} (h : wfind q.ws id = some w) : comE r q id = fitsE r q.fs w.t := by unfold comE; rw [h]
theorem rcCom_len {id : Id} {b d : List Int} : (2 :: rcCom id b d).length = 25 + b.length + d.length := by
 have h4 : (le (b.length : Int) 4).length = 4 := le_len _ _
 have h5 : (le (d.length : Int) 4).length = 4 := le_len _ _
 simp [rcCom, id.len, h4, h5]
 omega
theorem rcCom_bytes {id : Id} {b d : List Int} (hb : IsBytes b) (hd : IsBytes d) : IsBytes (2 :: rcCom id b d) := fun x hx => by
 rcases List.mem_cons.1 hx with e | e
 ·omega
 ·unfold rcCom at e
  rcases List.mem_append.1 e with e | e
  ·exact id.ok x e
  ·rcases List.mem_append.1 e with e | e
   ·rcases List.mem_append.1 e with e | e
    ·exact le_bytes _ _ x e
    ·exact hb x e
   ·rcases List.mem_append.1 e with e | e
    ·exact le_bytes _ _ x e
    ·exact hd x e
structure CoR where
 q : StM
 f : DF
 ck : Nat
def scP (t : Ta) (r : Rl) (q : StM) (id : Id) (xs said : List Int) (ls : List (List Int)) (σ : Nat) : Option CoR → Prop
 | none => comE r q id ≠ 0
 | some z => comE r q id = 0 ∧ JFl (ls ++ [2 :: rcCom id (vecB t.fl xs) said]) σ z.f ∧ ComP t r q id xs said z.q
def scH (g gd md : Nat) (t : Ta) (r : Rl) (lim limd : Int) (q : StM) (id : Id) (xs said : List Int) (ls : List (List Int)) (fs : List DF) (ckd : Nat) (K : List Fa) : Option CoR → List Fa
 | none => sF g t r lim q (jC q.gj gd sj (cellsA ls) :: dB gd md limd :: dM md fs ckd :: dS fs :: K)
 | some z => sF g t r lim z.q (jC z.q.gj gd sj (cellsA (ls ++ [2 :: rcCom id (vecB t.fl xs) said])) :: dB gd md limd :: dM md [z.f] z.ck :: dS [z.f] :: K)
namespace pUb
theorem nthx_ (h : φ := by first | rfl | exact rpC_n16 | exact rpC_n17 | exact rpC_n18 | exact stC9_n9) : φ := h
theorem midx_ (h : φ := by first | exact rpC_id | exact stC9_ci | exact stC9_mid | exact Mid.all) : φ := h
theorem szx_ (h : φ := by ((try simp only [Wt.cells, rpC_len, bytes_length, Id.len, Seen.len]); (first | done | rfl); first | done | fail)) : φ := h
theorem onex_ (h : φ := by first | exact one_bytes _ | exact rpC_one rfl rfl | exact Seen.one _ | exact eC_one _) : φ := h
end pUb
open pUb
theorem fCom_ok {K : List Fa} {b c g5 g14 g7 : Nat} {A : Option Addr} {id : Id} {pA sA : Option Addr} {pc sc : Nat} {p s : List Int} {ty : TypeId} (h5 : At (blk g5 ty (bytes id.l)) K) {ty2 ty3 : TypeId} (h14 : At (blk g14 ty2 [.slice pA p.length pc]) K) (h7 : At (blk g7 ty3 [.slice sA s.length sc]) K)
  (hp : Vw K (fun w => Reads w 1 pA p.length (bytes p))) (hs : Vw K (fun w => Reads w 1 sA s.length (bytes s))) (hpl : p.length ≤ 100000) (hsl : s.length ≤ 100000) :
  Fn Tryz.prog 66 ([Value.pointer (some ⟨b, 0, none⟩)] ++ [Value.pointer (some ⟨g5, 0, none⟩), .pointer (some ⟨g14, 0, none⟩), .pointer (some ⟨g7, 0, none⟩)]).toArray (wrb b A [2].length c :: u8o A c [2] :: K) (Ret (fun _ : Option Addr × Nat => True) (fun _ => .tuple #[]) (fun q => wrb b q.1 (2 :: rcCom id p s).length q.2 :: u8o q.1 q.2 (2 :: rcCom id p s) :: K)) := by
 have hil := id.len
 have h4 : (le (p.length : Int) 4).length = 4 := le_len _ _
 refine fe_ Tryz.func66 Tryz.ntmps66 [(0, .pointer (some ⟨b, 0, none⟩)), (1, .pointer (some ⟨g5, 0, none⟩)), (2, .pointer (some ⟨g14, 0, none⟩)), (3, .pointer (some ⟨g7, 0, none⟩))] ?_; refine go_ ?_
 have hid : Vw K (fun w => Reads w 1 (some ⟨g5, 0, none⟩) 16 (bytes id.l)) := by
  have := Vw.of_blk_mid h5 (Mid.all (cl := bytes id.l))
  rwa [id.len] at this
 refine slc_ rfl rfl sub_ (wRaw (b := b) (A := A) (c := c) (bs := [2]) (xs := id.l) (m := 16) hid (by decide)) ?_; rintro ⟨A1, c1⟩ -; dsimp only; refine go_ ?_; refine slc_ rfl rfl sub_ (wLong (b := b) (A := A1) (c := c1) (bs := [2] ++ id.l) (xs := p) hp (by simp; omega)) ?_; rintro ⟨A3, c3⟩ -; dsimp only; refine go_ ?_; refine slc_ rfl rfl sub_ (wLong (b := b) (A := A3) (c := c3) (bs := [2] ++ id.l ++ (le p.length 4 ++ p)) (xs := s) hs (by simp; omega)) ?_; rintro ⟨A4, c4⟩ -; dsimp only; refine go_ ?_; rw [show [2] ++ id.l ++ (le p.length 4 ++ p) ++ (le s.length 4 ++ s) = 2 :: rcCom id p s from by simp [rcCom]]; exact se_end0 (A4, c4) trivial rfl rfl sub_
theorem sCommit_ok {K : List Fa} {g gd md σ ckd : Nat} {t : Ta} {r : Rl} {lim limd : Int} {q : StM} {ls : List (List Int)} {fs : List DF} {id : Id} {xs said : List Int} {C B : Option Addr} {cc d : Nat} (hs : Srt q.ss) (hn : q.ss.length ≤ 1000000) (ht : t.err = 0) (hrw : 0 ≤ r.w) (hmx : r.mx ≤ 256)
  (hwt : ∀ w, wfind q.ws id = some w → 0 ≤ w.t ∧ w.t ≤ 18446744073709551615) (hfl : t.fl = 1 ∨ t.fl = 2) (hxl : t.out = xs.length) (hx : ∀ x ∈ xs, InF t.fl x) (hfs : ∀ b ∈ q.fs, 0 ≤ b.m ∧ t.out = b.l.length ∧ Els b.l)
  (hxr : Vw K (fun w => Reads w 2 C xs.length (rows eC xs))) (hsr : Vw K (fun w => Reads w 1 B said.length (bytes said))) (hsb : IsBytes said) (hsl : said.length ≤ 2000) (hns : ∀ w, wfind q.ws id = some w → ∀ s ∈ q.sd, s.id ≠ id)
  (hJ : comE r q id = 0 → JSt ls fs ckd σ ∧ cellsA ls ≤ 16000 ∧ (((cellsA ls + manyL (2 :: rcCom id (vecB t.fl xs) said).length) * 64 : Nat) : Int) ≤ limd ∧ limd ≤ 1048576) :
  Fn Tryz.prog 21 #[.pointer (some ⟨g, 0, none⟩), id.v, .slice C xs.length cc, .slice B said.length d] (sF g t r lim q (jC q.gj gd sj (cellsA ls) :: dB gd md limd :: dM md fs ckd :: dS fs :: K))
   (Ret (scP t r q id xs said ls σ) (fun _ => .int .i64 (comE r q id)) (scH g gd md t r lim limd q id xs said ls fs ckd K)) := by
 refine fe_ Tryz.func21 Tryz.ntmps21 [(0, .pointer (some ⟨g, 0, none⟩)), (1, id.v), (2, .slice C xs.length cc), (3, .slice B said.length d)] ?_
 have hk := id.klaw
 have hol := t.out_le ht
 obtain ⟨K1, hK1⟩ : ∃ K1, K1 = jC q.gj gd sj (cellsA ls) :: dB gd md limd :: dM md fs ckd :: dS fs :: K := ⟨_, rfl⟩
 rw [← hK1]
 have hx1 : Vw K1 (fun w => Reads w 2 C xs.length (rows eC xs)) := by rw [hK1]; exact hxr.mono sub_
 have hs1 : Vw K1 (fun w => Reads w 1 B said.length (bytes said)) := by rw [hK1]; exact hsr.mono sub_
 cases hf : wfind q.ws id with
 | none =>
  have hno : MNo (q.ws.map WM.ent) id.v := kno (M := WM) (wfind_none hf)
  have he : comE r q id = 19 := comE_none hf
  rw [he]; refine go_ ?_; refine bx_ ?_; intro g5; refine go_ ?_; refine bx_ ?_; intro g7; refine go_ ?_; refine dr_ [sB g t q.gj q.gi q.gb q.mw q.ms q.life, blk g5 47 (bytes id.l), wM q.mw q.ws q.cw] 12 ?_; refine y4_ 0 1 2 3 ?_; refine y4_ 4 5 6 7 ?_; refine wy_ 8 ?_; refine w1_ 9 ?_; refine al_ ?_; intro g9; refine v1_ 10 ?_; refine sto_ ?_; refine vy_ 11 ?_; refine wx_ ?_; refine go_ ?_; exact se_ret1 none (show comE r q id ≠ 0 by rw [he]; decide) rfl rfl (by dsimp only [scH]; rw [hK1]; exact sub_)
 | some w =>
  obtain ⟨rfl, X, Y, hXY, hdel⟩ := wfind_split hf
  have hg : MGet (q.ws.map WM.ent) w.id.v (.agg w.cells.toArray) := kget (M := WM) (wfind_some hf).1
  obtain ⟨hw0, hw1⟩ := hwt w hf
  refine go_ ?_; refine bx_ ?_; intro g5; refine go_ ?_; refine bx_ ?_; intro g7; refine go_ ?_; refine dr_ [sB g t q.gj q.gi q.gb q.mw q.ms q.life, blk g5 47 (bytes w.id.l), wM q.mw q.ws q.cw] 12 ?_; refine y4_ 0 1 2 3 ?_; refine y4_ 4 5 6 7 ?_; refine wy_ 8 ?_; refine w1_ 9 ?_; refine al_ ?_; intro g9; refine v1_ 10 ?_; refine sto_ ?_; refine vy_ 11 ?_; refine wx_ ?_; refine go_ ?_; refine slc_ rfl rfl Sub.refl (out_ok t.kd t.fl t.bt t.ln t.wt t.ch) ?_; rintro _ -; rw [show outN t.kd t.ln = (xs.length : Int) from hxl]; refine go_ ?_; refine sc_for (fun j : Nat => [(0, .pointer (some ⟨g, 0, none⟩)), (2, .slice C xs.length cc), (5, .pointer (some ⟨g5, 0, none⟩)), (7, .pointer (some ⟨g7, 0, none⟩)), (9, .pointer (some ⟨g9, 0, none⟩)), (43, .slice C xs.length cc), (44, .int .i64 xs.length), (45, .int .i64 j)]) (fun _ => blk g9 49 w.cells :: blk g7 27 [.slice B said.length d] :: blk g5 47 (bytes w.id.l) :: sF g t r lim q K1) (fun j => j ≤ xs.length) (fun j => xs.length - j) 0 has_ sub_ (Nat.zero_le _) ?_; intro j hj
  by_cases hlt : j < xs.length
  ·refine sc_know (vw_form (hx1.mono sub_) (by omega)) ?_; rintro ⟨ad, rfl⟩
   obtain ⟨x, hxe⟩ : ∃ x, xs[j]? = some x := ⟨_, List.getElem?_eq_getElem (by omega)⟩
   have hxi := hx x (List.mem_of_getElem? hxe)
   refine go_ ?_; refine sl_pu (pu_ldrs (hx1.mono sub_) (by omega) rfl (rows_mid eC_len hxe) rfl rfl rfl) rfl ?_; refine al_ ?_; intro g12; refine go_ ?_; refine dr_ [sB g t q.gj q.gi q.gb q.mw q.ms q.life, blk g12 102 (eC x)] 9 ?_; refine y4_ 0 1 2 3 ?_; refine y2_ 4 5 ?_; refine wy_ 6 ?_; refine w1_ 7 ?_; refine slc_ rfl rfl Sub.refl (fIn_ok hfl (inF_El hfl hxi)) ?_; rintro _ -; rw [show decide (x < pF t.fl) = true from decide_eq_true hxi.2]; refine vy_ 8 ?_; refine wx_ ?_; refine go_ ?_; exact se_round (j + 1) has_ sub_ hlt (by omega)
  ·obtain rfl : j = xs.length := by omega
   refine go_ ?_; refine sc_join (α := Unit) (fun _ => [(0, .pointer (some ⟨g, 0, none⟩)), (2, .slice C xs.length cc), (5, .pointer (some ⟨g5, 0, none⟩)), (7, .pointer (some ⟨g7, 0, none⟩)), (13, .int .i64 (fitsE r q.fs w.t))]) (fun _ => blk g7 27 [.slice B said.length d] :: blk g5 47 (bytes w.id.l) :: sF g t r lim q K1) (fun _ => True) ?_ ?_
   ·refine dr_ [sB g t q.gj q.gi q.gb q.mw q.ms q.life, blk g9 49 w.cells] 8 ?_; refine y4_ 0 1 2 3 ?_; refine y2_ 4 5 ?_; refine w1_ 6 ?_; refine slc_ rfl rfl Sub.refl (fits_ok (g := q.gb) (m := q.mb) (ck := q.cb) (t := t) (r := r) (fs := q.fs) (now := w.t) at_ at_ hrw ⟨hw0, hw1⟩) ?_; rintro _ -; refine vy_ 7 ?_; refine wx_ ?_; exact se_mid () has_ sub_ trivial
   rintro _ -; rw [comE_some hf]
   by_cases h0 : fitsE r q.fs w.t = 0
   ·have hc0 : comE r q w.id = 0 := (comE_some hf).trans h0
    obtain ⟨hJ1, hJ2, hJ3, hJ4⟩ := hJ hc0
    rw [h0]; refine go_ ?_; refine slc_ rfl rfl Sub.refl (fVec_ok hfl hx (hx1.mono sub_) (by omega) rfl) ?_; rintro ⟨A2, c2⟩ -; dsimp only
    have hvl := vecB_len t.fl xs
    have hsz : 0 < szF t.fl ∧ szF t.fl ≤ 16 := by rcases szF_or hfl with h | h <;> omega
    have hmul : xs.length * szF t.fl ≤ 64 * 16 := Nat.mul_le_mul (by omega) hsz.2
    refine go_ ?_; refine al_ ?_; intro g14; refine go_ ?_; subst hK1
    refine sl_call rfl rfl (by kernel_rfl) rfl sub_ (note_ok (K := blk g14 27 [.slice A2 (vecB t.fl xs).length c2] :: u8o A2 c2 (vecB t.fl xs) :: blk g7 27 [.slice B said.length d] :: blk g5 47 (bytes w.id.l) :: ixb q.gi q.iA q.ss.length q.ic lim :: ixo q.iA q.ic q.ss :: bB q.gb t r q.mb :: bM q.mb q.fs q.cb :: bS q.fs :: wM q.mw q.ws q.cw :: wS q.ws :: dMm q.ms q.sd q.cs :: dSs q.sd :: K)
      (g := g) (gj := q.gj) (gi := q.gi) (gb := q.gb) (mw := q.mw) (ms := q.ms) (gd := gd) (md := md) (t := t) (life := q.life) (lim := limd) (kind := 2) (f := 66) (caps := [.pointer (some ⟨g5, 0, none⟩), .pointer (some ⟨g14, 0, none⟩), .pointer (some ⟨g7, 0, none⟩)]) (bs := rcCom w.id (vecB t.fl xs) said)
      (by kernel_rfl) hJ1 (rcCom_bytes (vecB_bytes _ _) hsb) (by rw [rcCom_len]; omega) hJ2 hJ3 hJ4 (fun b A c => fCom_ok at_ at_ at_ (Vw.of_own (e := 5) (A := A2) (c := c2) at_) (hsr.mono sub_) (by omega) (by omega))) ?_
    rintro ⟨f, ck2⟩ hf2
    dsimp only at hf2 ⊢
    refine go_ ?_; refine sl_know (fun w hw => own_len (e := 5) (size := 1) (A := A2) (c := c2) (xs := bytes (vecB t.fl xs)) hw at_) ?_; rintro ⟨-, l1, l2⟩; rw [show Value.slice A2 (vecB t.fl xs).length c2 = .slice A2 (xs.length * szF t.fl) c2 by rw [hvl]]
    refine sl_call rfl rfl (by kernel_rfl) rfl sub_ (scommit_ok (K := u8o A2 c2 (vecB t.fl xs) :: jC q.gj gd sj (cellsA (ls ++ [2 :: rcCom w.id (vecB t.fl xs) said])) :: dB gd md limd :: dM md [f] ck2 :: dS [f] :: K) (g := g) (t := t) (r := r) (lim := lim) (q := q) (id := w.id) (w := w) (xs := xs) (said := said) (A := A2) (c := c2) (B := B) (d := d) hs hn ht hrw hmx hf hw0 hfl hxl hx h0 hfs
      (by rw [← hvl]; exact ⟨Vw.of_own (e := 5) (A := A2) (c := c2) .here, l1, by omega, l2, rfl, vecB_bytes _ _⟩) (hsr.mono sub_) (by omega) (hns w hf)) ?_
    rintro q2 hq2
    have hgj : q2.gj = q.gj := by obtain ⟨w', A1, c1, b', fs', cb', sA, sc, _, _, _, rfl⟩ := hq2; rfl
    rw [← hgj]; refine go_ ?_; exact se_ret1 (some ⟨q2, f, ck2⟩) ⟨hc0, hf2, hq2⟩ rfl rfl (by dsimp only [scH]; exact sub_)
   ·refine go_ ?_; exact se_ret1 none (show comE r q w.id ≠ 0 by rw [comE_some hf]; exact h0) rfl rfl (by dsimp only [scH]; rw [hK1]; exact sub_)
end
theorem Evt.by_ok {t : Ta} {r : Rl} {lim : Int} {a : Ab × Int} {e : Evt} (T : TR_ t r lim) (h : e.can t r lim a) : IsBytes (e.by_ t) ∧ (e.by_ t).length ≤ 4000 := by
 cases e with
 | acc id tm p s =>
  obtain ⟨-, -, -, h1, h2, h3, h4⟩ := h
  exact ⟨rcAcc_bytes h3 h4, by show (1 :: rcAcc id tm p s).length ≤ 4000; rw [rcAcc_len]; omega⟩
 | com id xs said =>
  obtain ⟨x, -, -, h1, -, h3, h4⟩ := h
  have hvl := vecB_len t.fl xs
  have hol := t.out_le T.te
  have hsz : 0 < szF t.fl ∧ szF t.fl ≤ 16 := by rcases szF_or T.fl with h | h <;> omega
  have hmul : xs.length * szF t.fl ≤ 64 * 16 := Nat.mul_le_mul (by omega) hsz.2
  exact ⟨rcCom_bytes (vecB_bytes _ _) h3, by show (2 :: rcCom id (vecB t.fl xs) said).length ≤ 4000; rw [rcCom_len]; omega⟩
 | rej id c => exact ⟨rcRej_bytes, by show (3 :: rcRej id c).length ≤ 4000; rw [rcRej_len]; omega⟩
 | shut s => exact ⟨rcShut_bytes, by show (4 :: rcShut s).length ≤ 4000; rw [rcShut_len]; omega⟩
 | life n => exact ⟨rcLife_bytes, by have h6 : (le n 6).length = 6 := le_len _ _; show (5 :: rcLife n).length ≤ 4000; simp [rcLife, h6]⟩
theorem CanE.by_ok {t : Ta} {r : Rl} {lim : Int} {rs : List Evt} (T : TR_ t r lim) (h : CanE t r lim rs) : ∀ x ∈ rs.map (Evt.by_ t), IsBytes x ∧ x.length ≤ 4000 := fun x hx => by
 obtain ⟨e, he, rfl⟩ := List.mem_map.1 hx
 obtain ⟨j, hj⟩ := List.getElem?_of_mem he
 exact Evt.by_ok T (h j e hj)
theorem CanE.life {t : Ta} {r : Rl} {lim : Int} {rs : List Evt} (h : CanE t r lim rs) : 0 ≤ (runE t r rs).2 := by
 suffices ∀ k, k ≤ rs.length → 0 ≤ (runE t r (rs.take k)).2 by
  have := this rs.length (Nat.le_refl _)
  rwa [List.take_length] at this
 intro k
 induction k with
 | zero => intro _; exact Int.le_refl _
 | succ k ih =>
  intro hk
  have hj : rs[k]? = some rs[k] := List.getElem?_eq_getElem hk
  have h1 := h k _ hj
  have h2 := ih (by omega)
  rw [List.take_succ_eq_append_getElem hk, runE_snoc]
  revert h1
  generalize rs[k] = e
  intro h1
  cases e with
  | life n => show 0 ≤ n; have := h1.1; omega
  | _ => exact h2
def OevP (t : Ta) (r : Rl) (rs : List Evt) (z : OpR) : Prop := Hq z.q (runE t r rs).1 ∧ z.q.life = (runE t r rs).2 + 1 ∧ JFl ((rs ++ [Evt.life ((runE t r rs).2 + 1)]).map (Evt.by_ t)) (cellsA ((rs ++ [Evt.life ((runE t r rs).2 + 1)]).map (Evt.by_ t)) * 64) z.f
def OevH (t : Ta) (r : Rl) (lim limd : Int) (gd md : Nat) (rs : List Evt) (K : List Fa) (z : OpR) : List Fa :=
 sF z.g t r lim z.q (jC z.q.gj gd sj (cellsA ((rs ++ [Evt.life ((runE t r rs).2 + 1)]).map (Evt.by_ t))) :: dB gd md limd :: dM md [z.f] z.ck :: dS [z.f] :: K)
theorem open_core {K0 : List Fa} {fsd : List DF} {gd md ckd : Nat} {limd : Int} {t : Ta} {r : Rl} {limit : Int} {rs : List Evt} {ψ : JO → Prop} {Kp : JO → Fa} (T : TR_ t r (min (max limit 0) 256))
  (hr : rErr r t = 0) (hC : CanE t r (min (max limit 0) 256) rs) (hlf : (runE t r rs).2 ≤ 999999) (hcc : cellsA (rs.map (Evt.by_ t)) ≤ 15000) (hlm : limd = 1048576)
  (hjo : ∀ E : List Fa, Fn Tryz.prog 42 #[.pointer (some ⟨gd, 0, none⟩), .string sj] (dB gd md limd :: dM md fsd ckd :: dS fsd :: E) (Ret ψ (fun p => .tuple #[.pointer (some ⟨p.gj, 0, none⟩), .slice p.R p.xs.length p.c, .int .i64 0]) (fun p => jC p.gj gd sj (cellsA (rs.map (Evt.by_ t))) :: dB gd md limd :: dM md p.fs p.ck :: dS p.fs :: Kp p :: E)))
  (hJS : ∀ p, ψ p → JSt (rs.map (Evt.by_ t)) p.fs p.ck 0 ∧ p.xs.map Sx.l = rs.map (Evt.by_ t) ∧ (p.xs ≠ [] → Vw [Kp p] (fun w => Reads w 1 p.R p.xs.length (sxV p.xs))))
  (hRd : ∀ (p : JO) (j : Nat) (x : Sx), ψ p → p.xs[j]? = some x → x.l.length ≤ 65536 → Rd [Kp p] x.A x.l.length x.c x.l) :
  Fn Tryz.prog 9 #[.pointer (some ⟨gd, 0, none⟩), .agg t.c.toArray, .agg r.c.toArray, .int .i64 limit] (dB gd md limd :: dM md fsd ckd :: dS fsd :: K0)
   (Ret (OevP t r rs) (fun z => .tuple #[.pointer (some ⟨z.g, 0, none⟩), .int .i64 0]) (OevH t r (min (max limit 0) 256) limd gd md rs K0)) := by
 have hln : (rs.map (Evt.by_ t)).length = rs.length := List.length_map ..
 refine (open_ok (K0 := K0) (fsd := fsd) (gd := gd) (md := md) (ckd := ckd) (σ := 0) (limd := limd) (t := t) (r := r) (limit := limit) (ls := rs.map (Evt.by_ t)) (ψ := ψ) (Ev := fun _ => False) (Kp := Kp)
   (I := fun p _ j q => q.gj = p.gj ∧ Hq q (runE t r (rs.take j)).1 ∧ q.life = (runE t r (rs.take j)).2) hr hcc (by rw [hlm]; omega) (by omega) hjo (fun p hp => ?_) (fun p g q hp h1 h2 h3 h4 h5 h6 => ?_) (fun p g j x q K' hp hx hz hI => ?_) (fun p g q hI => ?_)).say fun z w hz hw => ?_
 ·obtain ⟨h1, h2, h3⟩ := hJS p hp
  have := congrArg List.length h2
  rw [List.length_map] at this
  exact ⟨h1, this, h3⟩
 ·refine ⟨h1, ⟨?_, ?_⟩, h6⟩
  ·rw [h2]; exact .nil
  ·rw [h2, h3, h4, h5]; exact Hd.no
 ·obtain ⟨i1, i2, i3⟩ := hI
  obtain ⟨h1, h2, h3⟩ := hJS p hp
  have hxe : (rs.map (Evt.by_ t))[j]? = some x.l := by rw [← h2, List.getElem?_map, hx]; rfl
  rw [List.getElem?_map] at hxe
  obtain ⟨e, he, hel⟩ := Option.map_eq_some_iff.1 hxe
  have hb := (hC.by_ok T x.l (by rw [← hel]; exact List.mem_map_of_mem (List.mem_of_getElem? he))).2
  have hrd := hRd p j x hp hx (by omega)
  have hjl := (List.getElem?_eq_some_iff.1 he).1
  have hs : rs.take (j + 1) = rs.take j ++ [e] := by
   rw [List.take_succ_eq_append_getElem hjl, (List.getElem?_eq_some_iff.1 he).2]
  rw [show x.v = .slice x.A x.l.length x.c from rfl]
  refine (again_evt (K := K') (Z := [Kp p]) (g := g) (a := runE t r (rs.take j)) (e := e) T hz (by rw [hel]; exact hrd) i2 ⟨i3, CanE.life (hC.take j)⟩ (CanE.ga T.l0 (hC.take j)) (hC j e he)).say fun q' w hq hw => ⟨(0, q'), ⟨fun _ => ?_, fun h => absurd rfl h⟩, rfl, hw⟩
  obtain ⟨k1, k2, k3⟩ := hq
  rw [hs, runE_snoc]; exact ⟨k3.trans i1, k1, k2⟩
 ·obtain ⟨i1, i2, i3⟩ := hI
  rw [hln, List.take_length] at i3
  exact ⟨i1, by rw [i3]; exact hC.life, by rw [i3]; omega⟩
 ·rcases z with p | z
  ·exact hz.2.elim
  ·obtain ⟨p, q, hp, ⟨i1, i2, i3⟩, hzq, hjf⟩ := hz
   rw [hln, List.take_length] at i2 i3
   have hby : (rs ++ [Evt.life ((runE t r rs).2 + 1)]).map (Evt.by_ t) = rs.map (Evt.by_ t) ++ [5 :: rcLife (q.life + 1)] := by
    rw [List.map_append, i3]
    rfl
   refine ⟨z, ⟨?_, ?_, ?_⟩, rfl, ?_⟩
   ·rw [hzq]; exact ⟨i2.srt, i2.hd⟩
   ·rw [hzq]; show q.life + 1 = _; rw [i3]
   ·rw [hby]; exact hjf
   ·unfold OevH
    rw [hby, show q.life + 1 = z.q.life by rw [hzq]]; exact hw
theorem cells_mono_le (ls : List (List Int)) (k : Nat) : cellsA (ls.take k) ≤ cellsA ls := by
 have h := cells_mono (ls := ls) (a := k) (b := max k ls.length) (Nat.le_max_left ..)
 rwa [List.take_of_length_le (i := max k ls.length) (Nat.le_max_right ..)] at h
theorem open_evt {K0 : List Fa} {gd md ckd mm k : Nat} {limd : Int} {t : Ta} {r : Rl} {limit : Int} {rs : List Evt} {f : DF} (T : TR_ t r (min (max limit 0) 256)) (hr : rErr r t = 0) (hC : CanE t r (min (max limit 0) 256) rs) (hlf : (runE t r (rs.take k)).2 ≤ 999999) (hcc : cellsA (rs.map (Evt.by_ t)) ≤ 15000) (hlm : limd = 1048576)
  (hs : f.s = sj) (hl : f.l = (allL (rs.map (Evt.by_ t))).take mm) (hmm : mm ≤ (allL (rs.map (Evt.by_ t))).length) (hsy : f.sy ≤ f.l.length) (hW : Whole (rs.map (Evt.by_ t)) mm k) :
  Fn Tryz.prog 9 #[.pointer (some ⟨gd, 0, none⟩), .agg t.c.toArray, .agg r.c.toArray, .int .i64 limit] (dB gd md limd :: dM md [f] ckd :: dS [f] :: K0)
   (Ret (OevP t r (rs.take k)) (fun z => .tuple #[.pointer (some ⟨z.g, 0, none⟩), .int .i64 0]) (OevH t r (min (max limit 0) 256) limd gd md (rs.take k) K0)) := by
 have hb := hC.by_ok T
 have hmt : (rs.take k).map (Evt.by_ t) = (rs.map (Evt.by_ t)).take k := List.map_take ..
 refine open_core (ψ := JcP ((rs.take k).map (Evt.by_ t))) (Kp := KpC) T hr (hC.take k) hlf ?_ hlm (fun E => ?_) (fun p hp => ⟨hp.2.2, hp.1, fun _ => kpc_row p⟩) (fun p j x hp hx hlen => kpc_rd hp hx hlen)
 ·rw [hmt]; exact Nat.le_trans (cells_mono_le _ k) hcc
 ·rw [hmt]; exact jopen_cut (gd := gd) (md := md) (ckd := ckd) (limd := limd) hs hl hmm hsy hW (fun x hx => by have := (hb x hx).2; omega) (fun x hx => (hb x hx).1) (by omega) E
theorem open_first {K0 : List Fa} {gd md : Nat} {limd : Int} {t : Ta} {r : Rl} {limit : Int} (T : TR_ t r (min (max limit 0) 256)) (hr : rErr r t = 0) (hlm : limd = 1048576) :
  Fn Tryz.prog 9 #[.pointer (some ⟨gd, 0, none⟩), .agg t.c.toArray, .agg r.c.toArray, .int .i64 limit] (dB gd md limd :: dM md [] 0 :: dS [] :: K0)
   (Ret (OevP t r []) (fun z => .tuple #[.pointer (some ⟨z.g, 0, none⟩), .int .i64 0]) (OevH t r (min (max limit 0) 256) limd gd md [] K0)) := by
 refine open_core (rs := []) (ψ := fun p : JO => p.xs = [] ∧ p.fs = [] ∧ p.ck = 0) (Kp := KpN) T hr (fun j e h => by cases h) (show (0 : Int) ≤ 999999 by decide) (show 0 ≤ 15000 by decide) hlm (fun E => jopen_new E) (fun p hp => ⟨.inl ⟨rfl, hp.2.1, hp.2.2, rfl⟩, by rw [hp.1]; rfl, fun h => absurd hp.1 h⟩) (fun p j x hp hx => by rw [hp.1] at hx; cases hx)
section
namespace pUg
theorem nthx_ (h : φ := by first | rfl | exact rpC_n16 | exact rpC_n17 | exact rpC_n18 | exact stC9_n9) : φ := h
theorem midx_ (h : φ := by first | exact rpC_id | exact stC9_mid | exact stC9_ci | exact Mid.all) : φ := h
theorem szx_ (h : φ := by ((try simp only [rpZ, Wt.cells, rpC_len, bytes_length, Id.len, Seen.len]); (first | done | rfl); first | done | fail)) : φ := h
theorem onex_ (h : φ := by first | exact one_bytes _ | exact rpC_one rfl rfl | exact Seen.one _) : φ := h
theorem setx_ (h : φ := by first | exact rpC_set16 | exact rpC_set17 | exact rpC_set18) : φ := h
end pUg
open pUg
theorem o1_Ug (k : ψ) (h : Hide ψ → φ := by (intro k; refine slc_ rfl rfl Sub.refl (clone_ok (A := none) (bs := []) (n := 0) (c := 0) (fun w hw => ⟨rfl, fun h => absurd h (by decide)⟩) (by decide)) ?_; exact k.out)) : φ := h ⟨k⟩
theorem e1_Ug (h : φ := by (refine vy_ 6 ?_; refine w1_ 5 ?_; refine o1_Ug ?_; rintro ⟨A2, c2⟩ -; refine v1_ 7 ?_; refine sto_ ?_; refine vy_ 8 ?_; refine w1_ 9 ?_; refine sto_ ?_; refine vx_ ?_; exact se_mid ((A1, c1), (A2, c2)) has_ sub_ trivial)) : φ := h
theorem sWaits_no {K : List Fa} {g : Nat} {t : Ta} {r : Rl} {lim : Int} {q : StM} {id : Id} (hf : wfind q.ws id = none) :
  Fn Tryz.prog 17 #[.pointer (some ⟨g, 0, none⟩), id.v] (sF g t r lim q K)
   (Ret (fun _ : (Option Addr × Nat) × (Option Addr × Nat) => True) (fun z => .tuple #[.agg (rpC id0 0 (.slice z.1.1 0 z.1.2) (.slice z.2.1 0 z.2.2)).toArray, .bool false]) (fun z => u8o z.1.1 z.1.2 [] :: u8o z.2.1 z.2.2 [] :: sF g t r lim q K)) := by
 refine fe_ Tryz.func17 Tryz.ntmps17 [(0, .pointer (some ⟨g, 0, none⟩)), (1, id.v)] ?_
 have hno : MNo (q.ws.map WM.ent) id.v := kno (M := WM) (wfind_none hf)
 have hk := id.klaw
 refine go_ ?_; refine bx_ ?_; intro g3; refine al_ ?_; intro g4; refine go_ ?_; refine sc_join (α := Nat) (fun g6 => [(4, .pointer (some ⟨g4, 0, none⟩)), (6, .pointer (some ⟨g6, 0, none⟩)), (7, .bool false)]) (fun g6 => blk g6 49 rpZ :: blk g4 49 rpZ :: sF g t r lim q K) (fun _ => True) ?_ ?_
 ·refine dr_ [sB g t q.gj q.gi q.gb q.mw q.ms q.life, blk g3 47 (bytes id.l), wM q.mw q.ws q.cw] 12 ?_; refine y4_ 0 1 2 3 ?_; refine wy_ 4 ?_; refine w2_ 5 9 ?_ ?_
  ·repeat refine su_ ?_
   refine vy_ 6 ?_; refine y2_ 7 8 ?_; refine w1_ 9 ?_; refine al_ ?_; intro g6; refine v1_ 10 ?_; refine sto_ ?_; refine vy_ 11 ?_; refine wx_ ?_; exact se_mid g6 has_ sub_ trivial
  ·refine al_ ?_; intro g6; refine v1_ 5 ?_
   repeat refine su_ ?_
   refine vy_ 6 ?_; refine y2_ 7 8 ?_; refine w1_ 10 ?_; refine sto_ ?_; refine vy_ 11 ?_; refine wx_ ?_; exact se_mid g6 has_ sub_ trivial
 rintro g6 -
 unfold rpZ
 refine go_ ?_
 refine sc_join (α := (Option Addr × Nat) × (Option Addr × Nat)) (fun _ => [(4, .pointer (some ⟨g4, 0, none⟩)), (6, .pointer (some ⟨g6, 0, none⟩)), (7, .bool false)])
  (fun z => blk g6 49 (rpC id0 0 (.slice z.1.1 0 z.1.2) (.slice z.2.1 0 z.2.2)) :: u8o z.1.1 z.1.2 [] :: u8o z.2.1 z.2.2 [] :: blk g4 49 rpZ :: sF g t r lim q K) (fun _ => True) ?_ ?_
 ·refine dr_ [] 10 ?_; refine y2_ 0 3 ?_; refine w2_ 1 4 ?_ ?_
  ·repeat refine su_ ?_
   refine v2_ 2 4 ?_ ?_
   ·refine o1_Ug ?_; rintro ⟨A1, c1⟩ -; refine v1_ 4 ?_
    repeat refine su_ ?_
    exact e1_Ug
   ·repeat refine su_ ?_
    refine v1_ 2 ?_; refine o1_Ug ?_; rintro ⟨A1, c1⟩ -; exact e1_Ug
  ·repeat refine su_ ?_
   refine v1_ 1 ?_
   repeat refine su_ ?_
   refine v1_ 2 ?_; refine o1_Ug ?_; rintro ⟨A1, c1⟩ -; exact e1_Ug
 rintro ⟨⟨A1, c1⟩, ⟨A2, c2⟩⟩ -; dsimp only; refine go_ ?_; exact se_ret_ct ((A1, c1), (A2, c2)) trivial rfl rfl at_ rfl rfl (by rw [rpC_len]; rfl) rfl rfl sub_
structure WaR where
 id : Id
 t : Int
 p : List Int
 s : List Int
 A : Option Addr
 c : Nat
 B : Option Addr
 d : Nat
 b : Bool
def WaR.C (z : WaR) : List Value := rpC z.id z.t (.slice z.A z.p.length z.c) (.slice z.B z.s.length z.d)
def WaR.ok (z : WaR) (o : Option (Int × List Int × List Int)) : Prop := (z.b = true ∧ o = some (z.t, z.p, z.s)) ∨ (z.b = false ∧ o = none)
theorem sWaits_any {K : List Fa} {g : Nat} {t : Ta} {r : Rl} {lim : Int} {q : StM} {a : Ab} (id : Id) (hq : Hq q a) (hg : GA t r lim a) :
  Fn Tryz.prog 17 #[.pointer (some ⟨g, 0, none⟩), id.v] (sF g t r lim q K)
   (Ret (fun z : WaR => z.ok (a.wait id)) (fun z => .tuple #[.agg z.C.toArray, .bool z.b]) (fun z => u8o z.A z.c z.p :: u8o z.B z.d z.s :: sF g t r lim q K)) := by
 cases h : a.wait id with
 | none =>
  have hf : wfind q.ws id = none := kf_none' (hq.hd.wnone h)
  exact (sWaits_no hf).say fun z w _ hw => ⟨⟨id0, 0, [], [], z.1.1, z.1.2, z.2.1, z.2.2, false⟩, .inr ⟨rfl, rfl⟩, rfl, hw⟩
 | some x =>
  obtain ⟨w0, hf, hm, rfl, h1, h2, h3⟩ := hq.hd.wsome h
  have h4 := hg.w1 _ x h
  exact (sWaits_yes hm (by rw [h2]; omega) (by rw [h3]; omega)).say fun z w _ hw => ⟨⟨w0.id, w0.t, w0.p, w0.s, z.1.1, z.1.2, z.2.1, z.2.2, true⟩, .inl ⟨rfl, by rw [h1, h2, h3]⟩, rfl, hw⟩
structure SaR where
 A : Option Addr
 c : Nat
 l : List Int
 b : Bool
def SaR.ok (z : SaR) (o : Option (List Int)) : Prop := (z.b = true ∧ o = some z.l) ∨ (z.b = false ∧ o = none)
theorem sSaid_any {K : List Fa} {g : Nat} {t : Ta} {r : Rl} {lim : Int} {q : StM} {a : Ab} (id : Id) (hq : Hq q a) (hg : GA t r lim a) :
  Fn Tryz.prog 16 #[.pointer (some ⟨g, 0, none⟩), id.v] (sF g t r lim q K) (Ret (fun z : SaR => z.ok (a.said id)) (fun z => .tuple #[.slice z.A z.l.length z.c, .bool z.b]) (fun z => u8o z.A z.c z.l :: sF g t r lim q K)) := by
 cases h : a.said id with
 | none => exact (sSaid_no (hq.nosd h)).say fun z w _ hw => ⟨⟨z.1, z.2, [], false⟩, .inr ⟨rfl, rfl⟩, rfl, hw⟩
 | some x =>
  obtain ⟨d, hd, h1, h2⟩ := hq.hd.dsome h
  obtain ⟨s, hs, rfl⟩ := List.mem_map.1 hd
  have e1 : s.id = id := h1
  have e2 : s.l = x := h2
  subst e1 e2
  have h4 := (hg.d3 _ _ h).1
  exact (sSaid_yes hs (by omega)).say fun z w _ hw => ⟨⟨z.1, z.2, s.l, true⟩, .inl ⟨rfl, rfl⟩, rfl, hw⟩
end
end
section
open Go.RowKit
def fb (f : Func) : Code := match f.body with
 | some c => c
 | none => .skip
def cAt : List Bool → Code → Code
 | [], c => c
 | true :: r, .seq a _ => cAt r a
 | false :: r, .seq _ b => cAt r b
 | true :: r, .cond _ a _ => cAt r a
 | false :: r, .cond _ _ b => cAt r b
 | _ :: r, .block _ a => cAt r a
 | _ :: r, .loop a => cAt r a
 | _ :: r, .scope a => cAt r a
 | _, c => c
section
variable {P : Program} {Q : Exit → Act → World → Prop} {n : Nat} {l : Env} {L : List Fa} {x y : Code} {α : Type} {E : α → Env} {H : α → List Fa} {R : α → Prop} {id : Nat}
end
end
section
open Go.RowKit Go.MapKept
attribute [local irreducible] Go.Calls Go.Exit.then Go.Exit.inBlock Go.bodyPost Go.Code.wp Go.wpList takeL recordL hashL recL allL decR ofId
section
structure Stx where
 id : Id
 l : List Int
 bn : Nat
def SXM : MK Stx := ⟨fun s => s.id.v, fun s => .string (strOfNums s.l), fun s => s.bn, fun _ => star []⟩
def Stx.pr (s : Stx) : Id × List Int := (s.id, s.l)
def Wt.st0 (w : Wt) : Wt := { w with bn := 0 }
def BK.st0 (b : BK) : BK := { b with bn := 0 }
def Stx.st0 (s : Stx) : Stx := { s with bn := 0 }
def renW (us : List Wt) : List Wt := us.mapIdx fun i w => { w with bn := i }
def renS (us : List Stx) : List Stx := us.mapIdx fun i w => { w with bn := i }
def renB (us : List BK) : List BK := us.mapIdx fun i w => { w with bn := i }
theorem renW_snoc (us : List Wt) (w : Wt) : renW (us ++ [w]) = renW us ++ [{ w with bn := us.length }] := by simp [renW, List.mapIdx_append]
theorem renS_snoc (us : List Stx) (w : Stx) : renS (us ++ [w]) = renS us ++ [{ w with bn := us.length }] := by simp [renS, List.mapIdx_append]
theorem renB_snoc (us : List BK) (w : BK) : renB (us ++ [w]) = renB us ++ [{ w with bn := us.length }] := by simp [renB, List.mapIdx_append]
theorem snoc_indU {α : Type} {P : List α → Prop} (h0 : P []) (h1 : ∀ l x, P l → P (l ++ [x])) (l : List α) : P l := by
 suffices ∀ r : List α, P r.reverse by
  have := this l.reverse
  rwa [List.reverse_reverse] at this
 intro r
 induction r with
 | nil => exact h0
 | cons x r ih => rw [List.reverse_cons]; exact h1 _ _ ih
theorem renW_st0 (us : List Wt) : (renW us).map Wt.st0 = us.map Wt.st0 := snoc_indU (P := fun us => (renW us).map Wt.st0 = us.map Wt.st0) rfl (fun l x ih => by rw [renW_snoc, List.map_append, List.map_append, ih]; rfl) us
theorem renS_st0 (us : List Stx) : (renS us).map Stx.st0 = us.map Stx.st0 := snoc_indU (P := fun us => (renS us).map Stx.st0 = us.map Stx.st0) rfl (fun l x ih => by rw [renS_snoc, List.map_append, List.map_append, ih]; rfl) us
theorem renB_st0 (us : List BK) : (renB us).map BK.st0 = us.map BK.st0 := snoc_indU (P := fun us => (renB us).map BK.st0 = us.map BK.st0) rfl (fun l x ih => by rw [renB_snoc, List.map_append, List.map_append, ih]; rfl) us
theorem mem_st0 {α : Type} {f : α → α} {us vs : List α} (h : us.map f = vs.map f) {x : α} (hx : x ∈ us) : ∃ y ∈ vs, f x = f y := by
 have := List.mem_map_of_mem (f := f) hx
 rw [h] at this
 obtain ⟨y, h1, h2⟩ := List.mem_map.1 this
 exact ⟨y, h1, h2.symm⟩
theorem renW_key {us : List Wt} {x : Wt} (h : ∀ u ∈ us, u.id.v ≠ x.id.v) : ∀ u ∈ renW us, WM.key u ≠ x.id.v := fun u hu => by
 obtain ⟨y, h1, h2⟩ := mem_st0 (renW_st0 us) hu
 have h3 : u.id = y.id := show u.st0.id = y.st0.id by rw [h2]
 show u.id.v ≠ _
 rw [h3]; exact h y h1
theorem renS_key {us : List Stx} {x : Stx} (h : ∀ u ∈ us, u.id.v ≠ x.id.v) : ∀ u ∈ renS us, SXM.key u ≠ x.id.v := fun u hu => by
 obtain ⟨y, h1, h2⟩ := mem_st0 (renS_st0 us) hu
 have h3 : u.id = y.id := show u.st0.id = y.st0.id by rw [h2]
 show u.id.v ≠ _
 rw [h3]; exact h y h1
theorem renB_key {us : List BK} {x : BK} (h : ∀ u ∈ us, Value.int .u64 u.st ≠ .int .u64 x.st) : ∀ u ∈ renB us, BM.key u ≠ .int .u64 x.st := fun u hu => by
 obtain ⟨y, h1, h2⟩ := mem_st0 (renB_st0 us) hu
 have h3 : u.st = y.st := show u.st0.st = y.st0.st by rw [h2]
 show Value.int .u64 u.st ≠ _
 rw [h3]; exact h y h1
structure Md where
 g : Nat
 sA : Option Addr
 sc : Nat
 ss : List Seen
 mw : Nat
 cw : Nat
 ws : List Wt
 md : Nat
 cd : Nat
 sd : List Stx
 mf : Nat
 cf : Nat
 fs : List BK
def mdC (t : Ta) (r : Rl) (lim : Int) (S : Value) (w d f : Option Nat) : List Value := t.c ++ (r.c ++ [.int .i64 lim, S, .map w, .map d, .map f])
theorem mdC_len {t : Ta} {r : Rl} {lim : Int} {S : Value} {w d f : Option Nat} : (mdC t r lim S w d f).length = 16 := rfl
theorem mdC_t {t : Ta} {r : Rl} {lim : Int} {S : Value} {w d f : Option Nat} : Mid (mdC t r lim S w d f) 0 t.c := Mid.head
theorem mdC_r {t : Ta} {r : Rl} {lim : Int} {S : Value} {w d f : Option Nat} : Mid (mdC t r lim S w d f) 8 r.c := Mid.of_append (a := t.c) rfl
theorem mdC_one {t : Ta} {r : Rl} {lim : Int} {S : Value} {w d f : Option Nat} (hS : S.oneCell' = true) : ∀ v ∈ mdC t r lim S w d f, v.oneCell' = true := by
 intro v hv
 rcases List.mem_append.1 hv with h | h
 ·exact t.one v h
 ·rcases List.mem_append.1 h with h | h
  ·exact r.one v h
  ·simp only [List.mem_cons, List.not_mem_nil, or_false] at h
   rcases h with rfl | rfl | rfl | rfl | rfl
   ·rfl
   ·exact hS
   ·rfl
   ·rfl
   ·rfl
theorem mdC_set {t : Ta} {r : Rl} {lim : Int} {S S' : Value} {w d f : Option Nat} : SetAt 12 S' (mdC t r lim S w d f) (mdC t r lim S' w d f) := SetAt.tail (k := 8) (a := t.c) (i := 4) rfl (SetAt.there (SetAt.there (SetAt.there (SetAt.there SetAt.here))))
abbrev mdB (t : Ta) (r : Rl) (lim : Int) (M : Md) : Fa := blk M.g 94 (mdC t r lim (.slice M.sA M.ss.length M.sc) (some M.mw) (some M.md) (some M.mf))
abbrev sxM (m : Nat) (sd : List Stx) (ck : Nat) : Fa := kM SXM m (.array 16 5) sd ck
abbrev mdF (t : Ta) (r : Rl) (lim : Int) (M : Md) (K : List Fa) : List Fa := mdB t r lim M :: ixo M.sA M.sc M.ss :: wM M.mw M.ws M.cw :: sxM M.md M.sd M.cd :: bM M.mf M.fs M.cf :: K
structure CopyOf (M M' : Md) : Prop where
 ss : M'.ss = M.ss
 ws : (M'.ws.map Wt.st0).Perm (M.ws.map Wt.st0)
 sd : (M'.sd.map Stx.st0).Perm (M.sd.map Stx.st0)
 fs : (M'.fs.map BK.st0).Perm (M.fs.map BK.st0)
namespace pVm0
theorem midx_ (h : φ := by first | exact mdC_t | exact mdC_r | exact Mid.all) : φ := h
theorem szx_ (h : φ := by ((try simp only [Wt.cells, rpC_len, bytes_length, Id.len, BK.len, mdC_len]); (first | done | rfl); first | done | fail)) : φ := h
theorem onex_ (h : φ := by first | exact mdC_one rfl | exact one_bytes _ | exact rpC_one rfl rfl | exact BK.one _) : φ := h
theorem setx_ (h : φ := by exact mdC_set) : φ := h
end pVm0
open pVm0
theorem o1_Vm0 (k : ψ) (h : Hide ψ → φ := by (intro k; refine sl_build (size := 18) (e := 62) (cells := []) rfl (fun W => by kernel_rfl) rfl (by decide) rfl ?_; exact k.out)) : φ := h ⟨k⟩
theorem o2_Vm0 (k : ψ) (h : Hide ψ → φ := by (intro k; refine sl_app (k := 0) (xs := []) rfl pick_ rfl (hv.mono sub_) (rows_one_cell Seen.one ss) rfl Tryz.infoSeen (by decide) (by decide) rfl (by unfold maxLen; omega) (by omega) ?_; exact k.out)) : φ := h ⟨k⟩
theorem o3_Vm0 (k : ψ) (h : Hide ψ → φ := by (intro k; refine sl_makeMap (d := .array 16 5) rfl ?_; exact k.out)) : φ := h ⟨k⟩
theorem o4_Vm0 (k : ψ) (h : Hide ψ → φ := by (intro k; refine sl_makeMap (d := .int .u64) rfl ?_; exact k.out)) : φ := h ⟨k⟩
theorem o5_Vm0 (k : ψ) (h : Hide ψ → φ := by (intro k; refine sl_pu (pu_build (v := .agg (mdC t r lim (.slice A2 ss.length c2) (some mw2) (some md2) (some mf2)).toArray) rfl (fun W => by kernel_rfl)) rfl ?_; exact k.out)) : φ := h ⟨k⟩
theorem o6_Vm0 (h : φ := by exact se_mid ((g3, A2, c2), mw2, md2, mf2) has_ sub_ trivial) : φ := h
theorem e1_Vm0 (h : φ := by (refine v1_ 21 ?_; refine o5_Vm0 ?_; refine v1_ 22 ?_; refine bx_ ?_; intro g3; refine vy_ 23 ?_; refine wx_ ?_; exact o6_Vm0)) : φ := h
theorem e2_Vm0 (h : φ := by (refine v1_ 17 ?_; refine o2_Vm0 ?_; intro A2 c2; rw [List.nil_append, Nat.zero_add]; exact e1_Vm0)) : φ := h
theorem e3_Vm0 (h : φ := by (refine o2_Vm0 ?_; intro A2 c2; rw [List.nil_append, Nat.zero_add]; refine v1_ 20 ?_; refine o4_Vm0 ?_; intro mf2; exact e1_Vm0)) : φ := h
theorem e4_Vm0 (h : φ := by (refine o2_Vm0 ?_; intro A2 c2; rw [List.nil_append, Nat.zero_add]; refine v1_ 19 ?_; refine o3_Vm0 ?_; intro md2; exact e1_Vm0)) : φ := h
theorem copyA0 {K : List Fa} {t : Ta} {r : Rl} {lim : Int} {g sc : Nat} {sA : Option Addr} {ss : List Seen} {v1 v2 v3 : Option Nat} (hn : ss.length ≤ 1000) (hv : Vw K (fun w => Reads w 18 sA ss.length (rows Seen.cells ss))) {Q' : Exit → Act → World → Prop} (hN : NoP Q') (hend : ∀ g3 A2 c2 mw2 md2 mf2, SC Tryz.prog (cAt [false, false] (fb Tryz.f29)) Q' 82 [(0, .pointer (some ⟨g, 0, none⟩)), (3, .pointer (some ⟨g3, 0, none⟩))] (blk g3 94 (mdC t r lim (.slice A2 ss.length c2) (some mw2) (some md2) (some mf2)) :: ixo A2 c2 ss :: wM mw2 [] 0 :: sxM md2 [] 0 :: bM mf2 [] 0 :: blk g 94 (mdC t r lim (.slice sA ss.length sc) v1 v2 v3) :: K)) :
  SC Tryz.prog (cAt [false] (fb Tryz.f29)) Q' 82 [(0, .pointer (some ⟨g, 0, none⟩))] (blk g 94 (mdC t r lim (.slice sA ss.length sc) v1 v2 v3) :: K) := by
 refine sc_mid (α := (Nat × Option Addr × Nat) × Nat × Nat × Nat) (fun z => [(0, .pointer (some ⟨g, 0, none⟩)), (3, .pointer (some ⟨z.1.1, 0, none⟩))]) (fun z => blk z.1.1 94 (mdC t r lim (.slice z.1.2.1 ss.length z.1.2.2) (some z.2.1) (some z.2.2.1) (some z.2.2.2)) :: ixo z.1.2.1 z.1.2.2 ss :: wM z.2.1 [] 0 :: sxM z.2.2.1 [] 0 :: bM z.2.2.2 [] 0 :: blk g 94 (mdC t r lim (.slice sA ss.length sc) v1 v2 v3) :: K) (fun _ => True) ?_ (fun z _ => hend _ _ _ _ _ _)
 refine dr_ [blk g 94 (mdC t r lim (.slice sA ss.length sc) v1 v2 v3)] 24 ?_; refine y4_ 0 1 2 3 ?_; refine y4_ 4 5 6 7 ?_; refine y4_ 8 9 10 11 ?_; refine y4_ 13 14 15 16 ?_; refine w4_ 12 18 19 20 ?_ ?_ ?_ ?_
 ·refine o1_Vm0 ?_; intro g1; refine wn_ ?_; refine w4_ 17 18 19 20 ?_ ?_ ?_ ?_
  ·refine o2_Vm0 ?_; intro A2 c2; rw [List.nil_append, Nat.zero_add]; refine wn_ ?_; refine w3_ 18 19 20 ?_ ?_ ?_
   ·refine o3_Vm0 ?_; intro mw2; refine v2_ 19 20 ?_ ?_
    ·refine o3_Vm0 ?_; intro md2; refine v1_ 20 ?_; refine o4_Vm0 ?_; intro mf2; exact e1_Vm0
    ·refine o4_Vm0 ?_; intro mf2; refine v1_ 19 ?_; refine o3_Vm0 ?_; intro md2; exact e1_Vm0
   ·refine o3_Vm0 ?_; intro md2; refine v2_ 18 20 ?_ ?_
    ·refine o3_Vm0 ?_; intro mw2; refine v1_ 20 ?_; refine o4_Vm0 ?_; intro mf2; exact e1_Vm0
    ·refine o4_Vm0 ?_; intro mf2; refine v1_ 18 ?_; refine o3_Vm0 ?_; intro mw2; exact e1_Vm0
   ·refine o4_Vm0 ?_; intro mf2; refine v2_ 18 19 ?_ ?_
    ·refine o3_Vm0 ?_; intro mw2; refine v1_ 19 ?_; refine o3_Vm0 ?_; intro md2; exact e1_Vm0
    ·refine o3_Vm0 ?_; intro md2; refine v1_ 18 ?_; refine o3_Vm0 ?_; intro mw2; exact e1_Vm0
  ·refine o3_Vm0 ?_; intro mw2; refine wn_ ?_; refine w3_ 17 19 20 ?_ ?_ ?_
   ·refine o2_Vm0 ?_; intro A2 c2; rw [List.nil_append, Nat.zero_add]; refine v2_ 19 20 ?_ ?_
    ·refine o3_Vm0 ?_; intro md2; refine v1_ 20 ?_; refine o4_Vm0 ?_; intro mf2; exact e1_Vm0
    ·refine o4_Vm0 ?_; intro mf2; refine v1_ 19 ?_; refine o3_Vm0 ?_; intro md2; exact e1_Vm0
   ·refine o3_Vm0 ?_; intro md2; refine v2_ 17 20 ?_ ?_
    ·exact e3_Vm0
    ·refine o4_Vm0 ?_; intro mf2; exact e2_Vm0
   ·refine o4_Vm0 ?_; intro mf2; refine v2_ 17 19 ?_ ?_
    ·exact e4_Vm0
    ·refine o3_Vm0 ?_; intro md2; exact e2_Vm0
  ·refine o3_Vm0 ?_; intro md2; refine wn_ ?_; refine w3_ 17 18 20 ?_ ?_ ?_
   ·refine o2_Vm0 ?_; intro A2 c2; rw [List.nil_append, Nat.zero_add]; refine v2_ 18 20 ?_ ?_
    ·refine o3_Vm0 ?_; intro mw2; refine v1_ 20 ?_; refine o4_Vm0 ?_; intro mf2; exact e1_Vm0
    ·refine o4_Vm0 ?_; intro mf2; refine v1_ 18 ?_; refine o3_Vm0 ?_; intro mw2; exact e1_Vm0
   ·refine o3_Vm0 ?_; intro mw2; refine v2_ 17 20 ?_ ?_
    ·exact e3_Vm0
    ·refine o4_Vm0 ?_; intro mf2; exact e2_Vm0
   ·refine o4_Vm0 ?_; intro mf2; refine v2_ 17 18 ?_ ?_
    ·refine o2_Vm0 ?_; intro A2 c2; rw [List.nil_append, Nat.zero_add]; refine v1_ 18 ?_; refine o3_Vm0 ?_; intro mw2; exact e1_Vm0
    ·refine o3_Vm0 ?_; intro mw2; exact e2_Vm0
  ·refine o4_Vm0 ?_; intro mf2; refine wn_ ?_; refine w3_ 17 18 19 ?_ ?_ ?_
   ·refine o2_Vm0 ?_; intro A2 c2; rw [List.nil_append, Nat.zero_add]; refine v2_ 18 19 ?_ ?_
    ·refine o3_Vm0 ?_; intro mw2; refine v1_ 19 ?_; refine o3_Vm0 ?_; intro md2; exact e1_Vm0
    ·refine o3_Vm0 ?_; intro md2; refine v1_ 18 ?_; refine o3_Vm0 ?_; intro mw2; exact e1_Vm0
   ·refine o3_Vm0 ?_; intro mw2; refine v2_ 17 19 ?_ ?_
    ·exact e4_Vm0
    ·refine o3_Vm0 ?_; intro md2; exact e2_Vm0
   ·refine o3_Vm0 ?_; intro md2; refine v2_ 17 18 ?_ ?_
    ·refine o2_Vm0 ?_; intro A2 c2; rw [List.nil_append, Nat.zero_add]; refine v1_ 18 ?_; refine o3_Vm0 ?_; intro mw2; exact e1_Vm0
    ·refine o3_Vm0 ?_; intro mw2; exact e2_Vm0
 ·refine o3_Vm0 ?_; intro mw2; refine wn_ ?_; refine w3_ 12 19 20 ?_ ?_ ?_
  ·refine o1_Vm0 ?_; intro g1; refine wn_ ?_; refine w3_ 17 19 20 ?_ ?_ ?_
   ·refine o2_Vm0 ?_; intro A2 c2; rw [List.nil_append, Nat.zero_add]; refine v2_ 19 20 ?_ ?_
    ·refine o3_Vm0 ?_; intro md2; refine v1_ 20 ?_; refine o4_Vm0 ?_; intro mf2; exact e1_Vm0
    ·refine o4_Vm0 ?_; intro mf2; refine v1_ 19 ?_; refine o3_Vm0 ?_; intro md2; exact e1_Vm0
   ·refine o3_Vm0 ?_; intro md2; refine v2_ 17 20 ?_ ?_
    ·exact e3_Vm0
    ·refine o4_Vm0 ?_; intro mf2; exact e2_Vm0
   ·refine o4_Vm0 ?_; intro mf2; refine v2_ 17 19 ?_ ?_
    ·exact e4_Vm0
    ·refine o3_Vm0 ?_; intro md2; exact e2_Vm0
  ·refine o3_Vm0 ?_; intro md2; refine v2_ 12 20 ?_ ?_
   ·refine o1_Vm0 ?_; intro g1; refine v2_ 17 20 ?_ ?_
    ·exact e3_Vm0
    ·refine o4_Vm0 ?_; intro mf2; exact e2_Vm0
   ·refine o4_Vm0 ?_; intro mf2; refine v1_ 12 ?_; refine o1_Vm0 ?_; intro g1; exact e2_Vm0
  ·refine o4_Vm0 ?_; intro mf2; refine v2_ 12 19 ?_ ?_
   ·refine o1_Vm0 ?_; intro g1; refine v2_ 17 19 ?_ ?_
    ·exact e4_Vm0
    ·refine o3_Vm0 ?_; intro md2; exact e2_Vm0
   ·refine o3_Vm0 ?_; intro md2; refine v1_ 12 ?_; refine o1_Vm0 ?_; intro g1; exact e2_Vm0
 ·refine o3_Vm0 ?_; intro md2; refine wn_ ?_; refine w3_ 12 18 20 ?_ ?_ ?_
  ·refine o1_Vm0 ?_; intro g1; refine wn_ ?_; refine w3_ 17 18 20 ?_ ?_ ?_
   ·refine o2_Vm0 ?_; intro A2 c2; rw [List.nil_append, Nat.zero_add]; refine v2_ 18 20 ?_ ?_
    ·refine o3_Vm0 ?_; intro mw2; refine v1_ 20 ?_; refine o4_Vm0 ?_; intro mf2; exact e1_Vm0
    ·refine o4_Vm0 ?_; intro mf2; refine v1_ 18 ?_; refine o3_Vm0 ?_; intro mw2; exact e1_Vm0
   ·refine o3_Vm0 ?_; intro mw2; refine v2_ 17 20 ?_ ?_
    ·exact e3_Vm0
    ·refine o4_Vm0 ?_; intro mf2; exact e2_Vm0
   ·refine o4_Vm0 ?_; intro mf2; refine v2_ 17 18 ?_ ?_
    ·refine o2_Vm0 ?_; intro A2 c2; rw [List.nil_append, Nat.zero_add]; refine v1_ 18 ?_; refine o3_Vm0 ?_; intro mw2; exact e1_Vm0
    ·refine o3_Vm0 ?_; intro mw2; exact e2_Vm0
  ·refine o3_Vm0 ?_; intro mw2; refine v2_ 12 20 ?_ ?_
   ·refine o1_Vm0 ?_; intro g1; refine v2_ 17 20 ?_ ?_
    ·exact e3_Vm0
    ·refine o4_Vm0 ?_; intro mf2; exact e2_Vm0
   ·refine o4_Vm0 ?_; intro mf2; refine v1_ 12 ?_; refine o1_Vm0 ?_; intro g1; exact e2_Vm0
  ·refine o4_Vm0 ?_; intro mf2; refine v2_ 12 18 ?_ ?_
   ·refine o1_Vm0 ?_; intro g1; refine v2_ 17 18 ?_ ?_
    ·refine o2_Vm0 ?_; intro A2 c2; rw [List.nil_append, Nat.zero_add]; refine v1_ 18 ?_; refine o3_Vm0 ?_; intro mw2; exact e1_Vm0
    ·refine o3_Vm0 ?_; intro mw2; exact e2_Vm0
   ·refine o3_Vm0 ?_; intro mw2; refine v1_ 12 ?_; refine o1_Vm0 ?_; intro g1; exact e2_Vm0
 ·refine o4_Vm0 ?_; intro mf2; refine wn_ ?_; refine w3_ 12 18 19 ?_ ?_ ?_
  ·refine o1_Vm0 ?_; intro g1; refine wn_ ?_; refine w3_ 17 18 19 ?_ ?_ ?_
   ·refine o2_Vm0 ?_; intro A2 c2; rw [List.nil_append, Nat.zero_add]; refine v2_ 18 19 ?_ ?_
    ·refine o3_Vm0 ?_; intro mw2; refine v1_ 19 ?_; refine o3_Vm0 ?_; intro md2; exact e1_Vm0
    ·refine o3_Vm0 ?_; intro md2; refine v1_ 18 ?_; refine o3_Vm0 ?_; intro mw2; exact e1_Vm0
   ·refine o3_Vm0 ?_; intro mw2; refine v2_ 17 19 ?_ ?_
    ·exact e4_Vm0
    ·refine o3_Vm0 ?_; intro md2; exact e2_Vm0
   ·refine o3_Vm0 ?_; intro md2; refine v2_ 17 18 ?_ ?_
    ·refine o2_Vm0 ?_; intro A2 c2; rw [List.nil_append, Nat.zero_add]; refine v1_ 18 ?_; refine o3_Vm0 ?_; intro mw2; exact e1_Vm0
    ·refine o3_Vm0 ?_; intro mw2; exact e2_Vm0
  ·refine o3_Vm0 ?_; intro mw2; refine v2_ 12 19 ?_ ?_
   ·refine o1_Vm0 ?_; intro g1; refine v2_ 17 19 ?_ ?_
    ·exact e4_Vm0
    ·refine o3_Vm0 ?_; intro md2; exact e2_Vm0
   ·refine o3_Vm0 ?_; intro md2; refine v1_ 12 ?_; refine o1_Vm0 ?_; intro g1; exact e2_Vm0
  ·refine o3_Vm0 ?_; intro md2; refine v2_ 12 18 ?_ ?_
   ·refine o1_Vm0 ?_; intro g1; refine v2_ 17 18 ?_ ?_
    ·refine o2_Vm0 ?_; intro A2 c2; rw [List.nil_append, Nat.zero_add]; refine v1_ 18 ?_; refine o3_Vm0 ?_; intro mw2; exact e1_Vm0
    ·refine o3_Vm0 ?_; intro mw2; exact e2_Vm0
   ·refine o3_Vm0 ?_; intro mw2; refine v1_ 12 ?_; refine o1_Vm0 ?_; intro g1; exact e2_Vm0
theorem copyA {K : List Fa} {t : Ta} {r : Rl} {lim : Int} {M : Md} (hn : M.ss.length ≤ 1000) {Q' : Exit → Act → World → Prop} (hN : NoP Q') (hend : ∀ g3 A2 c2 mw2 md2 mf2, SC Tryz.prog (cAt [false, false] (fb Tryz.f29)) Q' 82 [(0, .pointer (some ⟨M.g, 0, none⟩)), (3, .pointer (some ⟨g3, 0, none⟩))] (blk g3 94 (mdC t r lim (.slice A2 M.ss.length c2) (some mw2) (some md2) (some mf2)) :: ixo A2 c2 M.ss :: wM mw2 [] 0 :: sxM md2 [] 0 :: bM mf2 [] 0 :: mdF t r lim M K)) :
  SC Tryz.prog (cAt [false] (fb Tryz.f29)) Q' 82 [(0, .pointer (some ⟨M.g, 0, none⟩))] (mdF t r lim M K) :=
 copyA0 (K := ixo M.sA M.sc M.ss :: wM M.mw M.ws M.cw :: sxM M.md M.sd M.cd :: bM M.mf M.fs M.cf :: K) hn (Vw.of_own (e := 62) (A := M.sA) (c := M.sc) .here) hN hend
end
end
end Go.Proofs.YtocaabnbmcpjmaaGreat
