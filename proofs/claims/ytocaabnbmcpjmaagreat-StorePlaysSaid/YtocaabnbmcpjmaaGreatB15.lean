/- Several texts of one claim, one behind the other. -/
import Derived.Test.YtocaabnbmcpjmaaGreatB14
import Derived.Test.YtocaabnbmcpjmaaGreatB12
import Derived.Test.YtocaabnbmcpjmaaGreatB03
import Derived.Test.YtocaabnbmcpjmaaGreatB05
set_option linter.unusedVariables false
set_option linter.unusedSimpArgs false
set_option maxRecDepth 100000
set_option maxHeartbeats 16000000
namespace Go.Proofs.YtocaabnbmcpjmaaGreat
variable {φ ψ : Prop}
section
open Go.RowKit Go.MapKept
attribute [local irreducible] Go.Calls Go.Exit.then Go.Exit.inBlock Go.bodyPost Go.Code.wp Go.wpList takeL recordL hashL recL allL
section
theorem lev_le {n : Int} {k : Nat} (h0 : 0 ≤ n) (h1 : n < 2 ^ (8 * k)) : leV (le n k) = n := by
 rw [leV_le n h0, Int.emod_eq_of_lt h0 h1]
theorem lev_one (b : Int) : leV [b] = b := by simp [leV]
theorem take_app {α : Type} {a b : List α} {k : Nat} (h : a.length = k) : (a ++ b).take k = a ∧ (a ++ b).drop k = b := ⟨List.take_left' h, List.drop_left' h⟩
theorem gLong_ok {p r : List Int} (hp : p.length ≤ 65536) : gLong ((le p.length 4 ++ p) ++ r) = .inr (p, r) := by
 have h4 : (le (p.length : Int) 4).length = 4 := le_len _ _
 have ht : ((le (p.length : Int) 4 ++ p) ++ r).take 4 = le p.length 4 := by rw [List.append_assoc]; exact (take_app h4).1
 have hd : ((le (p.length : Int) 4 ++ p) ++ r).drop 4 = p ++ r := by rw [List.append_assoc]; exact (take_app h4).2
 have hv : leV (le (p.length : Int) 4) = p.length := lev_le (by omega) (by omega)
 have hl : ((le (p.length : Int) 4 ++ p) ++ r).length = 4 + (p.length + r.length) := by rw [List.length_append, List.length_append, h4]; omega
 unfold gLong
 rw [ht, hd, hv, hl, if_neg (by omega), if_neg (by omega), if_neg (by rw [Int.toNat_natCast]; omega), Int.toNat_natCast, (take_app rfl).1, List.append_assoc, List.drop_append, List.drop_of_length_le (by rw [h4]; omega), h4, List.nil_append, show 4 + p.length - 4 = p.length from by omega, (take_app rfl).2]
theorem gLong_end {p : List Int} (hp : p.length ≤ 65536) : gLong (le p.length 4 ++ p) = .inr (p, []) := by
 have := gLong_ok (r := []) hp
 rwa [List.append_nil] at this
theorem dec_life {n : Int} (h0 : 0 ≤ n) (h1 : n < 281474976710656) : decR (5 :: rcLife n) = .inr (.life n, 0) := by
 have h6 : (le n 6).length = 6 := le_len _ _
 have hv : leV (le n 6) = n := lev_le h0 (by omega)
 unfold decR rcLife
 rw [if_neg (by simp)]; rw [show (5 :: le n 6).take 1 = [5] from rfl, show (5 :: le n 6).drop 1 = le n 6 from rfl, lev_one, if_neg (by decide), if_neg (by decide), if_neg (by decide), if_neg (by decide), if_pos rfl]
 unfold dLife
 rw [if_neg (by omega), List.take_of_length_le (by omega), List.drop_of_length_le (by omega), hv]
 rfl
theorem dec_acc {id : Id} {t : Int} {p s : List Int} (h0 : 0 ≤ t) (h1 : t < 281474976710656) (hp : p.length ≤ 65536) (hs : s.length ≤ 65536) : decR (1 :: rcAcc id t p s) = .inr (.acc id.l t p s, 0) := by
 have h6 : (le t 6).length = 6 := le_len _ _
 have hv : leV (le t 6) = t := lev_le h0 (by omega)
 have hi := id.len
 unfold decR rcAcc
 rw [if_neg (by simp)]; rw [show ∀ l : List Int, (1 :: l).take 1 = [1] from fun _ => rfl, show ∀ l : List Int, (1 :: l).drop 1 = l from fun _ => rfl, lev_one, if_pos rfl]
 unfold dAcc
 rw [if_neg (by simp [hi]), (take_app hi).1, (take_app hi).2]
 unfold dAcc2
 rw [if_neg (by simp [h6]), (take_app h6).1, (take_app h6).2, hv]
 unfold dAcc3
 rw [gLong_ok hp]; dsimp only
 unfold dAcc4
 rw [gLong_end hs]
 rfl
theorem rcLife_bytes {n : Int} : IsBytes (5 :: rcLife n) := fun x hx => by
 rcases List.mem_cons.1 hx with e | e
 ·omega
 ·exact le_bytes _ _ x e
theorem rcAcc_bytes {id : Id} {t : Int} {p s : List Int} (hp : IsBytes p) (hs : IsBytes s) : IsBytes (1 :: rcAcc id t p s) := fun x hx => by
 rcases List.mem_cons.1 hx with e | e
 ·omega
 ·unfold rcAcc at e
  rcases List.mem_append.1 e with e | e
  ·exact id.ok x e
  ·rcases List.mem_append.1 e with e | e
   ·exact le_bytes _ _ x e
   ·rcases List.mem_append.1 e with e | e
    ·rcases List.mem_append.1 e with e | e
     ·exact le_bytes _ _ x e
     ·exact hp x e
    ·rcases List.mem_append.1 e with e | e
     ·exact le_bytes _ _ x e
     ·exact hs x e
theorem rcAcc_len {id : Id} {t : Int} {p s : List Int} : (1 :: rcAcc id t p s).length = 31 + p.length + s.length := by
 have h6 : (le t 6).length = 6 := le_len _ _
 have h4 : (le (p.length : Int) 4).length = 4 := le_len _ _
 have h5 : (le (s.length : Int) 4).length = 4 := le_len _ _
 simp [rcAcc, id.len, h6, h4, h5]
 omega
namespace pSkp
theorem nthx_ (h : φ := by first | rfl | exact stC9_n9) : φ := h
theorem midx_ (h : φ := by first | exact stC9_mid | exact stC9_ci | exact Mid.all) : φ := h
theorem szx_ (h : φ := by ((first | done | rfl | (simp only [rpC_len]; rfl)); first | done | fail)) : φ := h
theorem setx_ (h : φ := by exact stC9_set) : φ := h
end pSkp
open pSkp
theorem dLife_ok {K : List Fa} {g go gl gj gi gb mw ms : Nat} {t : Ta} {life n : Int} :
  Fn Tryz.prog 95 #[.pointer (some ⟨gl, 0, none⟩), .pointer (some ⟨go, 0, none⟩)] (blk gl 36 [.int .u64 n] :: goB go g :: sB g t gj gi gb mw ms life :: K) (Ret (fun _ : Unit => True) (fun _ => .int .i64 0) (fun _ => sB g t gj gi gb mw ms n :: K)) := by
 refine fe_ Tryz.func95 Tryz.ntmps95 [(0, .pointer (some ⟨gl, 0, none⟩)), (1, .pointer (some ⟨go, 0, none⟩))] ?_; refine go_ ?_; exact r1_ ()
theorem again_life {K Z : List Fa} {g nn c : Nat} {A : Option Addr} {t : Ta} {r : Rl} {lim n : Int} {q : StM} (h0 : 0 ≤ n) (h1 : n < 281474976710656) (hz : Sub K Z) (h : Rd Z A nn c (5 :: rcLife n)) :
  Fn Tryz.prog 44 #[.pointer (some ⟨g, 0, none⟩), .slice A nn c] (sF g t r lim q K) (Ret (fun z : Int × StM => z = (0, { q with life := n })) (fun z => .int .i64 z.1) (fun z => sF g t r lim z.2 K)) := by
 refine again_do (r := .life n) (Z := Z) (by exact Sub.skip (Sub.skip (Sub.skip (Sub.skip (Sub.skip (Sub.skip (Sub.skip (Sub.skip (Sub.skip (Sub.skip hz)))))))))) h (dec_life h0 h1) (fun go x => ?_); refine Fn.sub ((dLife_ok (gl := x.g1) (go := go) (g := g) (t := t) (gj := q.gj) (gi := q.gi) (gb := q.gb) (mw := q.mw) (ms := q.ms) (life := q.life) (n := n)).say fun _ w _ hw => ⟨(0, { q with life := n }), rfl, rfl, hw⟩) ?_; exact Sub.refl
theorem dAcc_ok {K : List Fa} {g go g1 : Nat} {t : Ta} {r : Rl} {lim : Int} {q : StM} {id : Id} {tm : Int} {pA sA : Option Addr} {pc sc : Nat} {p s : List Int} (hs : Srt q.ss) (hn : q.ss.length ≤ 1000000) (ht : 0 ≤ tm ∧ tm ≤ 18446744073709551615) (hno : hasI q.ss id = false → wfind q.ws id = none) :
  Fn Tryz.prog 91 #[.pointer (some ⟨go, 0, none⟩), .pointer (some ⟨g1, 0, none⟩)] (blk g1 49 (rpC id tm (.slice pA p.length pc) (.slice sA s.length sc)) :: u8o pA pc p :: u8o sA sc s :: goB go g :: sF g t r lim q K)
   (Ret (fun z : Int × StM => ∃ A1 c1, z = ((addI lim q.ss ⟨id, tm, 30, ht, by decide⟩).1, { q with iA := A1, ic := c1, ss := (addI lim q.ss ⟨id, tm, 30, ht, by decide⟩).2, ws := if (addI lim q.ss ⟨id, tm, 30, ht, by decide⟩).1 = 0 then q.ws ++ [⟨id, tm, pA, pc, p, sA, sc, s, q.cw⟩] else q.ws, cw := if (addI lim q.ss ⟨id, tm, 30, ht, by decide⟩).1 = 0 then q.cw + 1 else q.cw })) (fun z => .int .i64 z.1) (fun z => sF g t r lim z.2 K)) := by
 refine fe_ Tryz.func91 Tryz.ntmps91 [(0, .pointer (some ⟨go, 0, none⟩)), (1, .pointer (some ⟨g1, 0, none⟩))] ?_; refine go_ ?_; refine slc_ rfl rfl sub_ (saccept_ok (K := bB q.gb t r q.mb :: bM q.mb q.fs q.cb :: bS q.fs :: dMm q.ms q.sd q.cs :: dSs q.sd :: K) (g := g) (gj := q.gj) (gi := q.gi) (gb := q.gb) (mw := q.mw) (ms := q.ms) (t := t) (life := q.life) (lim := lim) (iA := q.iA) (ic := q.ic) (ck := q.cw) (ss := q.ss) (ws := q.ws) (id := id) (tm := tm) (pA := pA) (sA := sA) (pc := pc) (sc := sc) (p := p) (s := s) hs hn ht hno) ?_; rintro ⟨A1, c1⟩ -
 generalize addI lim q.ss ⟨id, tm, 30, ht, by decide⟩ = ad
 dsimp only; refine go_ ?_
 by_cases h0 : ad.1 = 0
 ·simp only [h0, if_true]
  exact se_ret1 ((0, { q with iA := A1, ic := c1, ss := ad.2, ws := q.ws ++ [⟨id, tm, pA, pc, p, sA, sc, s, q.cw⟩], cw := q.cw + 1 }) : Int × StM) ⟨A1, c1, rfl⟩ rfl rfl sub_
 ·simp only [h0, if_false]
  exact se_ret1 ((ad.1, { q with iA := A1, ic := c1, ss := ad.2 }) : Int × StM) ⟨A1, c1, rfl⟩ rfl rfl sub_
end
attribute [local irreducible] decR
def StM.acc (q : StM) (lim : Int) (sn : Seen) (A1 : Option Addr) (c1 : Nat) (w : Wt) : StM := { q with iA := A1, ic := c1, ss := (addI lim q.ss sn).2, ws := if (addI lim q.ss sn).1 = 0 then q.ws ++ [w] else q.ws, cw := if (addI lim q.ss sn).1 = 0 then q.cw + 1 else q.cw }
theorem again_acc {K Z : List Fa} {g nn c : Nat} {A : Option Addr} {t : Ta} {r : Rl} {lim tm : Int} {q : StM} {id : Id} {p s : List Int} (ht : 0 ≤ tm ∧ tm ≤ 18446744073709551615) (h1 : tm < 281474976710656) (hp : p.length ≤ 65536) (hsl : s.length ≤ 65536) (hz : Sub K Z) (h : Rd Z A nn c (1 :: rcAcc id tm p s))
  (hs : Srt q.ss) (hn : q.ss.length ≤ 1000000) (hno : hasI q.ss id = false → wfind q.ws id = none) :
  Fn Tryz.prog 44 #[.pointer (some ⟨g, 0, none⟩), .slice A nn c] (sF g t r lim q K)
   (Ret (fun z : Int × StM => ∃ A1 c1 pA pc sA sc, z = ((addI lim q.ss ⟨id, tm, 30, ht, by decide⟩).1, q.acc lim ⟨id, tm, 30, ht, by decide⟩ A1 c1 ⟨id, tm, pA, pc, p, sA, sc, s, q.cw⟩)) (fun z => .int .i64 z.1) (fun z => sF g t r lim z.2 K)) := by
 refine again_do (r := .acc id.l tm p s) (Z := Z) (by exact Sub.skip (Sub.skip (Sub.skip (Sub.skip (Sub.skip (Sub.skip (Sub.skip (Sub.skip (Sub.skip (Sub.skip hz)))))))))) h (dec_acc ht.1 h1 hp hsl) (fun go x => ?_)
 refine Fn.sub ((dAcc_ok (g := g) (go := go) (g1 := x.g1) (t := t) (r := r) (lim := lim) (q := q) (id := id) (tm := tm) (pA := x.A) (pc := x.c) (sA := x.B) (sc := x.d) (p := p) (s := s) (K := K) hs hn ht hno).say fun z w hq hw => ?_) Sub.refl
 obtain ⟨A1, c1, rfl⟩ := hq
 exact ⟨_, ⟨A1, c1, x.A, x.c, x.B, x.d, rfl⟩, rfl, hw⟩
abbrev KpN : JO → Fa := fun _ => star []
theorem jopen_new {gd md : Nat} {limd : Int} (E : List Fa) : Fn Tryz.prog 42 #[.pointer (some ⟨gd, 0, none⟩), .string sj] (dB gd md limd :: dM md [] 0 :: dS [] :: E)
  (Ret (fun p : JO => p.xs = [] ∧ p.fs = [] ∧ p.ck = 0) (fun p => .tuple #[.pointer (some ⟨p.gj, 0, none⟩), .slice p.R p.xs.length p.c, .int .i64 0]) (fun p => jC p.gj gd sj (cellsA []) :: dB gd md limd :: dM md p.fs p.ck :: dS p.fs :: KpN p :: E)) := by
 refine (open_new (K := E) (g := gd) (m := md) (lim := limd) (s := sj)).say fun q w _ hw => ⟨⟨q.gj, q.R, q.c, [], [], 0⟩, ⟨rfl, rfl, rfl⟩, rfl, ?_⟩
 refine hw.sub ?_; exact Sub.cons .here (Sub.cons .here (Sub.cons .here (Sub.cons .here (sub_star0 Sub.refl))))
abbrev KpC : JO → Fa := fun p => star [own 27 1 p.R p.xs.length p.c (sxV p.xs), star (sxO p.xs)]
def JcP (ls : List (List Int)) (p : JO) : Prop := p.xs.map Sx.l = ls ∧ (∀ x ∈ p.xs, x.ok) ∧ JSt ls p.fs p.ck 0
theorem jopen_cut {gd md ckd mm r : Nat} {limd : Int} {ls : List (List Int)} {f : DF} (hs : f.s = sj) (hl : f.l = (allL ls).take mm) (hmm : mm ≤ (allL ls).length) (hsy : f.sy ≤ f.l.length) (hW : Whole ls mm r) (hls : ∀ x ∈ ls, x.length ≤ 65536) (hlb : ∀ x ∈ ls, IsBytes x) (hc : cellsA ls ≤ 16000) (E : List Fa) :
  Fn Tryz.prog 42 #[.pointer (some ⟨gd, 0, none⟩), .string sj] (dB gd md limd :: dM md [f] ckd :: dS [f] :: E)
  (Ret (JcP (ls.take r)) (fun p : JO => .tuple #[.pointer (some ⟨p.gj, 0, none⟩), .slice p.R p.xs.length p.c, .int .i64 0]) (fun p => jC p.gj gd sj (cellsA (ls.take r)) :: dB gd md limd :: dM md p.fs p.ck :: dS p.fs :: KpC p :: E)) := by
 refine (open_cut (K := E) (g := gd) (m := md) (ck := ckd) (lim := limd) hs hl hmm hsy hW hls hlb hc).say fun o w ho hw => ?_
 obtain ⟨⟨h1, h2⟩, h3, h4, h5⟩ := ho
 have hfl : f.l.length = mm := by rw [hl, List.length_take]; omega
 have hlo := hW.lo
 have hfo : o.f.l.length = cellsA (ls.take r) * 64 := by rw [h4, allL_len]
 refine ⟨⟨o.gj, o.q.R, o.q.c, o.q.xs, [o.f], ckd⟩, ⟨h1, h2, .inr ⟨o.f, rfl, h3, h4, ?_, Nat.zero_le _⟩⟩, rfl, ?_⟩
 ·rw [h5, hfo]
  split <;> omega
 ·have h6 : Sep w (o.q.row :: o.q.st :: jC o.gj gd sj (cellsA (ls.take r)) :: dB gd md limd :: dM md [o.f] ckd :: dS [o.f] :: E) := hw.sub (by ((repeat (first | exact Sub.refl | exact Sub.nil | (apply Sub.cons; (repeat (first | exact Pick.here | apply Pick.there)); show Sub _ _) | apply Sub.skip)); first | done | fail))
  have h7 := star_in (G := [o.q.row, o.q.st]) w h6
  exact h7.sub (by ((repeat (first | exact Sub.refl | exact Sub.nil | (apply Sub.cons; (repeat (first | exact Pick.here | apply Pick.there)); show Sub _ _) | apply Sub.skip)); first | done | fail))
theorem kpc_row (p : JO) : Vw [KpC p] (fun w => Reads w 1 p.R p.xs.length (sxV p.xs)) := fun w hw => by
 have h1 := star_out w hw
 exact Vw.of_own (e := 27) .here w h1
theorem kpc_rd {ls : List (List Int)} {p : JO} (hp : JcP ls p) {j : Nat} {x : Sx} (hx : p.xs[j]? = some x) (hlen : x.l.length ≤ 65536) : Rd [KpC p] x.A x.l.length x.c x.l := by
 obtain ⟨h1, h2, h3⟩ := hp
 have hm := List.mem_of_getElem? hx
 obtain ⟨⟨k1, k2⟩, k3, k4⟩ := h2 x hm
 refine ⟨fun w hw => ?_, k1, by omega, k2, rfl, k4⟩
 have h4 := star_out w hw
 have h5 : Sep w [star (sxO p.xs)] := h4.tl
 have h6 := kstar_get (f := x.fa) (G := sxO p.xs) (L := [star (sxO p.xs)]) .here (List.mem_map.2 ⟨x, hm, rfl⟩) w h5
 exact Reads.of_own (own_PK h6)
end
section
open Go.RowKit Go.MapKept
attribute [local irreducible] Go.Calls Go.Exit.then Go.Exit.inBlock Go.bodyPost Go.Code.wp Go.wpList hashL ofId
section
abbrev bzL : List Value := [.int .u64 0, .slice none 0 0, .int .i64 0, .int .u8 0, .int .u8 0, .int .u8 0, .int .u8 0, .int .u8 0, .int .u8 0, .int .u8 0, .int .u8 0, .int .u8 0, .int .u8 0, .int .u8 0, .int .u8 0, .int .u8 0, .int .u8 0, .int .u8 0, .int .u8 0, .bool false]
theorem bs_get {L : List Fa} {fs : List BK} {b : BK} (h : At (bS fs) L) (hf : b ∈ fs) : Vw L (fun w => Reads w 2 b.A b.l.length (rows eC b.l)) := fun w hw => Reads.of_own (own_PK (ks_get (M := BM) h hf w hw))
namespace pGh
theorem nthx_ (h : φ := by first | exact bkC_n0 | exact bkC_n1 | exact bkC_n2 | exact bkC_n19' | exact tc_n0 | exact tc_n1) : φ := h
theorem midx_ (h : φ := by first | exact boC_mt | exact boC_mr | exact bkC_mid | exact Ta.mid _ | exact tc_mid | exact Mid.all) : φ := h
theorem szx_ (h : φ := by ((try simp only [bkC_len tc_len, tc_len, BK.len, bytes_length, Id.len]); (first | done | rfl); first | done | fail)) : φ := h
theorem onex_ (h : φ := by first | exact BK.one _ | exact bkC_one tc_one | exact tc_one | exact Ta.one _ | exact Rl.one _ | exact one_bytes _) : φ := h
theorem setx_ (h : φ := by first | exact tc_set0 | exact bkC_set19 tc_len) : φ := h
end pGh
open pGh
theorem o1_Gh (h : φ := by exact r1_ ()) : φ := h
theorem o2_Gh (k : ψ) (h : Hide ψ → φ := by (intro k; refine slc_ rfl rfl sub_ (start_ok hw h) ?_; exact k.out)) : φ := h ⟨k⟩
theorem o3_Gh (h : φ := by exact se_mid g5 has_ sub_ trivial) : φ := h
theorem e1_Gh (h : φ := by (refine vy_ 11 ?_; refine y2_ 12 13 ?_; refine w1_ 15 ?_; refine sto_ ?_; refine vy_ 16 ?_; refine wx_ ?_; exact o3_Gh)) : φ := h
theorem fits_ok {K : List Fa} {g m ck : Nat} {t : Ta} {r : Rl} {fs : List BK} {now : Int} (hB : At (bB g t r m) K) (hM : At (bM m fs ck) K) (hw : 0 ≤ r.w) (h : 0 ≤ now ∧ now ≤ 18446744073709551615) :
  Fn Tryz.prog 50 #[.pointer (some ⟨g, 0, none⟩), .int .u64 now] K (Ret (fun _ : Unit => True) (fun _ => .int .i64 (fitsE r fs now)) (fun _ => K)) := by
 refine fe_ Tryz.func50 Tryz.ntmps50 [(0, .pointer (some ⟨g, 0, none⟩)), (1, .int .u64 now)] ?_
 by_cases h1 : 1099511627776 < now
 ·rw [show fitsE r fs now = 15 by unfold fitsE; rw [if_pos h1]]; refine go_ ?_; exact o1_Gh
 have hml : ((fs.map BM.ent).length : Int) = fs.length := by rw [List.length_map]
 cases hf : bfind fs (stN r.w now) with
 | none =>
  have hno := bno hf
  rw [show fitsE r fs now = if fs.length = 32 then 5 else if r.mx ≤ 0 then 18 else 0 by unfold fitsE; rw [if_neg h1, hf]]; refine go_ ?_; refine sc_join (α := Nat) (fun g5 => [(0, .pointer (some ⟨g, 0, none⟩)), (5, .pointer (some ⟨g5, 0, none⟩)), (6, .bool false)]) (fun g5 => blk g5 70 bzL :: K) (fun _ => True) ?_ ?_
  ·refine dr_ [bB g t r m, bM m fs ck] 17 ?_; refine y4_ 0 1 2 3 ?_; refine y4_ 4 5 6 7 ?_; refine wy_ 8 ?_; refine w2_ 9 14 ?_ ?_
   ·refine o2_Gh ?_; rintro _ -; refine v2_ 10 14 ?_ ?_
    ·repeat refine su_ ?_
     refine vy_ 11 ?_; refine y2_ 12 13 ?_; refine w1_ 14 ?_; refine al_ ?_; intro g5; refine v1_ 15 ?_; refine sto_ ?_; refine vy_ 16 ?_; refine wx_ ?_; exact o3_Gh
    ·refine al_ ?_; intro g5; refine v1_ 10 ?_
     repeat refine su_ ?_
     exact e1_Gh
   ·refine al_ ?_; intro g5; refine v1_ 9 ?_; refine o2_Gh ?_; rintro _ -; refine v1_ 10 ?_
    repeat refine su_ ?_
    exact e1_Gh
  rintro g5 -
  by_cases h2 : fs.length = 32
  ·rw [if_pos h2]
   have h3 : ((fs.map BM.ent).length : Int) = 32 := by rw [hml, h2]; rfl
   refine go_ ?_; exact o1_Gh
  rw [if_neg h2]
  have h3 : ((fs.map BM.ent).length : Int) ≠ 32 := by rw [hml]; omega
  by_cases h4 : r.mx ≤ 0
  ·rw [if_pos h4]; refine go_ ?_
   ((refine sq_region (by kernel_rfl) (by kernel_rfl) ?_; (repeat refine rq_ ?_); refine sq_end ?_))
   refine go_ ?_; exact o1_Gh
  ·rw [if_neg h4]; refine go_ ?_
   ((refine sq_region (by kernel_rfl) (by kernel_rfl) ?_; (repeat refine rq_ ?_); refine sq_end ?_))
   refine go_ ?_; exact o1_Gh
 | some b =>
  obtain ⟨hb, hbs⟩ := bfind_some hf
  have hg := bget hb
  rw [hbs] at hg
  rw [show fitsE r fs now = if b.cl then 16 else if r.mx ≤ b.m then 18 else 0 by unfold fitsE; rw [if_neg h1, hf]]; refine go_ ?_; refine sc_join (α := Nat) (fun g5 => [(0, .pointer (some ⟨g, 0, none⟩)), (5, .pointer (some ⟨g5, 0, none⟩)), (6, .bool true)]) (fun g5 => blk g5 70 (bkC (stN r.w now) (tc b.A b.l.length b.c b.m b.k) b.cl) :: K) (fun _ => True) ?_ ?_
  ·refine dr_ [bB g t r m, bM m fs ck] 17 ?_; refine y4_ 0 1 2 3 ?_; refine y4_ 4 5 6 7 ?_; refine wy_ 8 ?_; refine w2_ 9 14 ?_ ?_
   ·refine o2_Gh ?_; rintro _ -; refine v2_ 10 14 ?_ ?_
    ·repeat refine su_ ?_
     refine vy_ 11 ?_; refine y2_ 12 13 ?_; refine w1_ 14 ?_; refine al_ ?_; intro g5; refine v1_ 15 ?_; refine sto_ ?_; refine vy_ 16 ?_; refine wx_ ?_; exact o3_Gh
    ·refine al_ ?_; intro g5; refine v1_ 10 ?_
     repeat refine su_ ?_
     exact e1_Gh
   ·refine al_ ?_; intro g5; refine v1_ 9 ?_; refine o2_Gh ?_; rintro _ -; refine v1_ 10 ?_
    repeat refine su_ ?_
    exact e1_Gh
  rintro g5 -
  cases hc : b.cl with
  | true =>
   rw [if_pos rfl]; refine go_ ?_; exact o1_Gh
  | false =>
   rw [if_neg (by decide)]
   by_cases h4 : r.mx ≤ b.m
   ·rw [if_pos h4]; refine go_ ?_
    ((refine sq_region (by kernel_rfl) (by kernel_rfl) ?_; (repeat refine rq_ ?_); refine sq_end ?_))
    refine go_ ?_; exact o1_Gh
   ·rw [if_neg h4]; refine go_ ?_
    ((refine sq_region (by kernel_rfl) (by kernel_rfl) ?_; (repeat refine rq_ ?_); refine sq_end ?_))
    refine go_ ?_; exact o1_Gh
theorem bgetC_ok {K : List Fa} {g m ck : Nat} {t : Ta} {r : Rl} {fs : List BK} {b : BK} (hB : At (bB g t r m) K) (hM : At (bM m fs ck) K) (hS : At (bS fs) K) (hb : b ∈ fs) (hn : b.l.length ≤ 1000000) :
  Fn Tryz.prog 58 #[.pointer (some ⟨g, 0, none⟩), .int .u64 b.st] K (Ret (fun _ : Option Addr × Nat => True) (fun q => .tuple #[.agg (bkC b.st (tc q.1 b.l.length q.2 b.m b.k) b.cl).toArray, .bool true]) (fun q => eo q.1 b.l.length q.2 b.l :: K)) := by
 refine fe_ Tryz.func58 Tryz.ntmps58 [(0, .pointer (some ⟨g, 0, none⟩)), (1, .int .u64 b.st)] ?_
 have hg := bget hb
 have hr := bs_get hS hb
 refine go_ ?_; refine al_ ?_; intro g1; refine go_ ?_; refine al_ ?_; intro g2; refine go_ ?_; refine slc_ rfl rfl sub_ (copied_ok (hr.mono sub_) hn) ?_; rintro ⟨A2, c2⟩ -; refine go_ ?_; refine sl_store_mid (cl := tc A2 b.l.length c2 b.m b.k) rfl pick_ rfl (by rw [tc_len]; rfl) (by rw [tc_len, bkC_len tc_len]; decide) tc_one ?_; rw [bkC_put tc_len tc_len]; refine go_ ?_; exact se_ret_ct (A2, c2) trivial rfl rfl at_ rfl rfl (by rw [bkC_len tc_len]; rfl) rfl rfl sub_
theorem bgetC_no {K : List Fa} {g m ck : Nat} {t : Ta} {r : Rl} {fs : List BK} {s : Int} (hB : At (bB g t r m) K) (hM : At (bM m fs ck) K) (hb : ∀ b ∈ fs, b.st ≠ s) :
  Fn Tryz.prog 58 #[.pointer (some ⟨g, 0, none⟩), .int .u64 s] K (Ret (fun _ : Option Addr × Nat => True) (fun q => .tuple #[.agg (bkC 0 (tc q.1 0 q.2 0 zId) false).toArray, .bool false]) (fun q => eo q.1 0 q.2 [] :: K)) := by
 refine fe_ Tryz.func58 Tryz.ntmps58 [(0, .pointer (some ⟨g, 0, none⟩)), (1, .int .u64 s)] ?_
 have hno : MNo (fs.map BM.ent) (.int .u64 s) := kno (M := BM) fun b hb' e => by
  have e' : Value.int .u64 b.st = .int .u64 s := e
  injection e' with _ e'
  exact hb b hb' e'
 have hz : Vw K (fun w => Reads w 2 none 0 (rows eC [])) := fun w hw => ⟨rfl, fun h => absurd h (by decide)⟩
 refine go_ ?_; refine al_ ?_; intro g1; refine go_ ?_; refine al_ ?_; intro g2; refine go_ ?_; rw [bz_eq]; refine go_ ?_; refine slc_ rfl rfl sub_ (copied_ok (c := 0) (m := 0) (k := zId) (hz.mono sub_) (by decide)) ?_; rintro ⟨A2, c2⟩ -; refine go_ ?_; refine sl_store_mid (cl := tc A2 0 c2 0 zId) rfl pick_ rfl (by rw [tc_len]; rfl) (by rw [tc_len, bkC_len tc_len]; decide) tc_one ?_; rw [bkC_put tc_len tc_len]; refine go_ ?_; exact se_ret_ct (A2, c2) trivial rfl rfl at_ rfl rfl (by rw [bkC_len tc_len]; rfl) rfl rfl sub_
theorem rules_ok {K : List Fa} {g m : Nat} {t : Ta} {r : Rl} (hB : At (bB g t r m) K) : Fn Tryz.prog 60 #[.pointer (some ⟨g, 0, none⟩)] K (Ret (fun _ : Unit => True) (fun _ => .agg r.c.toArray) (fun _ => K)) := by
 refine fe_ Tryz.func60 Tryz.ntmps60 [(0, .pointer (some ⟨g, 0, none⟩))] ?_; refine go_ ?_; refine al_ ?_; intro g1; refine go_ ?_; exact se_ret_c () trivial rfl rfl at_ rfl rfl rfl rfl sub_
end
end
section
open Go.RowKit Go.MapKept
attribute [local irreducible] Go.Calls Go.Exit.then Go.Exit.inBlock Go.bodyPost Go.Code.wp Go.wpList takeL recordL hashL recL allL decR
section
def accE (r : Rl) (lim : Int) (q : StM) (id : Id) (tm : Int) (np ns : Nat) : Int :=
 if hasI q.ss id then 14 else if 16384 < np ∨ 16384 < ns then 4 else if lim - q.ss.length < 1 then 18 else fitsE r q.fs tm
theorem accE_zero {r : Rl} {lim : Int} {q : StM} {id : Id} {tm : Int} {np ns : Nat} (h : accE r lim q id tm np ns = 0) : hasI q.ss id = false ∧ np ≤ 16384 ∧ ns ≤ 16384 ∧ (q.ss.length : Int) < lim ∧ fitsE r q.fs tm = 0 ∧ tm ≤ 1099511627776 := by
 unfold accE at h
 split at h
 ·cases h
 ·rename_i h1
  split at h
  ·cases h
  ·split at h
   ·cases h
   ·refine ⟨by simpa using h1, by omega, by omega, by omega, h, ?_⟩
    unfold fitsE at h
    split at h
    ·cases h
    ·omega
theorem accE_add {r : Rl} {lim : Int} {q : StM} {id : Id} {tm : Int} {np ns : Nat} (ht : 0 ≤ tm ∧ tm ≤ 18446744073709551615) (h : accE r lim q id tm np ns = 0) : addI lim q.ss ⟨id, tm, 30, ht, by decide⟩ = (0, insAt q.ss ⟨id, tm, 30, ht, by decide⟩) := by
 obtain ⟨h1, h2, h3, h4, h5, h6⟩ := accE_zero h
 unfold addI
 rw [if_neg (by dsimp only; omega), if_neg (by rw [h1]; decide), if_neg (by omega)]
namespace pSks
theorem nthx_ (h : φ := by first | rfl | exact rpC_n16 | exact rpC_n17 | exact rpC_n18 | exact stC9_n9) : φ := h
theorem midx_ (h : φ := by first | exact rpC_id | exact stC9_mid | exact stC9_ci | exact Mid.all) : φ := h
theorem szx_ (h : φ := by ((try simp only [rpC_len, bytes_length, Id.len, Seen.len]); (first | done | rfl); first | done | fail)) : φ := h
theorem onex_ (h : φ := by first | exact one_bytes _ | exact rpC_one rfl rfl | exact Seen.one _) : φ := h
theorem setx_ (h : φ := by first | exact rpC_set16 | exact rpC_set17 | exact rpC_set18) : φ := h
end pSks
open pSks
structure AcR where
 q : StM
 f : DF
 ck : Nat
def saP (e : Int) (lim tm : Int) (ht : 0 ≤ tm ∧ tm ≤ 18446744073709551615) (q : StM) (id : Id) (p s : List Int) (ls : List (List Int)) (σ : Nat) : Option AcR → Prop
 | none => e ≠ 0
 | some z => e = 0 ∧ JFl (ls ++ [1 :: rcAcc id tm p s]) σ z.f ∧ ∃ A1 c1 pA pc sA sc, z.q = q.acc lim ⟨id, tm, 30, ht, by decide⟩ A1 c1 ⟨id, tm, pA, pc, p, sA, sc, s, q.cw⟩
def saH (g gd md : Nat) (t : Ta) (r : Rl) (lim limd tm : Int) (q : StM) (id : Id) (p s : List Int) (ls : List (List Int)) (fs : List DF) (ckd : Nat) (K : List Fa) : Option AcR → List Fa
 | none => sF g t r lim q (jC q.gj gd sj (cellsA ls) :: dB gd md limd :: dM md fs ckd :: dS fs :: K)
 | some z => sF g t r lim z.q (jC z.q.gj gd sj (cellsA (ls ++ [1 :: rcAcc id tm p s])) :: dB gd md limd :: dM md [z.f] z.ck :: dS [z.f] :: K)
theorem o1_Sks (h : φ := by exact se_ret1 none (show (_ : Int) ≠ 0 from by decide) rfl rfl (by rw [hK1]; exact sub_)) : φ := h
theorem e1_Sks (h : φ := by (refine v1_ 5 ?_; refine slc_ rfl rfl Sub.refl (clone_ok (hsv.mono sub_) (by omega)) ?_; rintro ⟨A2, c2⟩ -; refine vy_ 6 ?_; refine w1_ 7 ?_; refine sto_ ?_; refine vy_ 8 ?_; refine w1_ 9 ?_; refine sto_ ?_; refine vx_ ?_; exact se_mid ((A1, c1), (A2, c2)) has_ sub_ trivial)) : φ := h
theorem sAccept_ok {K : List Fa} {g gd md σ ckd : Nat} {t : Ta} {r : Rl} {lim limd tm : Int} {q : StM} {ls : List (List Int)} {fs : List DF} {id : Id} {pA sA : Option Addr} {p s : List Int} {pc sc : Nat} (hrw : 0 ≤ r.w) (hlm : 0 ≤ lim ∧ lim ≤ 256) (ht : 0 ≤ tm ∧ tm ≤ 18446744073709551615) (hs : Srt q.ss) (hn : q.ss.length ≤ 1000000)
  (hno : hasI q.ss id = false → wfind q.ws id = none) (hpv : Vw K (fun w => Reads w 1 pA p.length (bytes p))) (hsv : Vw K (fun w => Reads w 1 sA s.length (bytes s)))
  (hJ : accE r lim q id tm p.length s.length = 0 → JSt ls fs ckd σ ∧ IsBytes (1 :: rcAcc id tm p s) ∧ (1 :: rcAcc id tm p s).length ≤ 5000 ∧ cellsA ls ≤ 16000 ∧ (((cellsA ls + manyL (1 :: rcAcc id tm p s).length) * 64 : Nat) : Int) ≤ limd ∧ limd ≤ 1048576) :
  Fn Tryz.prog 10 #[.pointer (some ⟨g, 0, none⟩), .agg (rpC id tm (.slice pA p.length pc) (.slice sA s.length sc)).toArray] (sF g t r lim q (jC q.gj gd sj (cellsA ls) :: dB gd md limd :: dM md fs ckd :: dS fs :: K))
   (Ret (saP (accE r lim q id tm p.length s.length) lim tm ht q id p s ls σ) (fun _ => .int .i64 (accE r lim q id tm p.length s.length)) (saH g gd md t r lim limd tm q id p s ls fs ckd K)) := by
 refine fe_ Tryz.func10 Tryz.ntmps10 [(0, .pointer (some ⟨g, 0, none⟩)), (1, .agg (rpC id tm (.slice pA p.length pc) (.slice sA s.length sc)).toArray)] ?_; refine go_ ?_; refine bx_ ?_; intro g3; refine go_ ?_
 obtain ⟨K1, hK1⟩ : ∃ K1, K1 = jC q.gj gd sj (cellsA ls) :: dB gd md limd :: dM md fs ckd :: dS fs :: K := ⟨_, rfl⟩
 rw [← hK1]; refine sc_join (α := Nat) (fun _ => [(0, .pointer (some ⟨g, 0, none⟩)), (3, .pointer (some ⟨g3, 0, none⟩)), (6, .bool (hasI q.ss id))]) (fun _ => blk g3 49 (rpC id tm (.slice pA p.length pc) (.slice sA s.length sc)) :: sF g t r lim q K1) (fun _ => True) ?_ ?_
 ·refine dr_ [sB g t q.gj q.gi q.gb q.mw q.ms q.life, blk g3 49 (rpC id tm (.slice pA p.length pc) (.slice sA s.length sc))] 13 ?_; refine y4_ 0 1 2 3 ?_; refine y2_ 4 5 ?_; refine w2_ 6 10 ?_ ?_
  ·refine slc_ rfl rfl (by exact Sub.cons pick_ (Sub.cons pick_ Sub.refl)) (get_ok (x := q.gi) (A := q.iA) (c := q.ic) (lim := lim) (ss := q.ss) id hs hn) ?_; rintro _ -; refine vy_ 7 ?_; refine y2_ 8 9 ?_; refine w1_ 10 ?_; refine al_ ?_; intro g5; refine v1_ 11 ?_; refine sl_store_whole (cl := (gotI q.ss id).cells) rfl pick_ rfl (by rw [Seen.len]; rfl) (by rw [Seen.len]; rfl) (Seen.one _) ?_; refine vy_ 12 ?_; refine wx_ ?_; exact se_mid 0 has_ sub_ trivial
  ·refine al_ ?_; intro g5; refine v1_ 6 ?_; refine slc_ rfl rfl (by exact Sub.cons pick_ (Sub.cons pick_ Sub.refl)) (get_ok (x := q.gi) (A := q.iA) (c := q.ic) (lim := lim) (ss := q.ss) id hs hn) ?_; rintro _ -; refine vy_ 7 ?_; refine y2_ 8 9 ?_; refine w1_ 11 ?_; refine sl_store_whole (cl := (gotI q.ss id).cells) rfl pick_ rfl (by rw [Seen.len]; rfl) (by rw [Seen.len]; rfl) (Seen.one _) ?_; refine vy_ 12 ?_; refine wx_ ?_; exact se_mid 0 has_ sub_ trivial
 rintro _ -
 cases hh : hasI q.ss id with
 | true =>
  rw [show accE r lim q id tm p.length s.length = 14 by unfold accE; rw [if_pos hh]]; refine go_ ?_; exact o1_Sks
 | false =>
  by_cases hl : 16384 < p.length ∨ 16384 < s.length
  ·rw [show accE r lim q id tm p.length s.length = 4 by unfold accE; rw [if_neg (by rw [hh]; decide), if_pos hl]]
   by_cases hl1 : 16384 < p.length
   ·refine go_ ?_; exact o1_Sks
   ·have hl2 : 16384 < s.length := by omega
    refine go_ ?_; exact o1_Sks
  ·have hl1 : ¬ 16384 < p.length := by omega
   have hl2 : ¬ 16384 < s.length := by omega
   by_cases h8 : lim - q.ss.length < 1
   ·rw [show accE r lim q id tm p.length s.length = 18 by unfold accE; rw [if_neg (by rw [hh]; decide), if_neg hl, if_pos h8]]; refine go_ ?_; refine slc_ rfl rfl (by exact Sub.cons pick_ Sub.refl) (room_ok (x := q.gi) (A := q.iA) (c := q.ic) (n := q.ss.length) hlm hn) ?_; rintro _ -; refine go_ ?_; exact o1_Sks
   ·rw [show accE r lim q id tm p.length s.length = fitsE r q.fs tm by unfold accE; rw [if_neg (by rw [hh]; decide), if_neg hl, if_neg h8]] at hJ ⊢
    refine go_ ?_; refine slc_ rfl rfl (by exact Sub.cons pick_ Sub.refl) (room_ok (x := q.gi) (A := q.iA) (c := q.ic) (n := q.ss.length) hlm hn) ?_; rintro _ -; refine go_ ?_; refine sc_join (α := Nat) (fun _ => [(0, .pointer (some ⟨g, 0, none⟩)), (3, .pointer (some ⟨g3, 0, none⟩)), (7, .int .i64 (fitsE r q.fs tm))]) (fun _ => blk g3 49 (rpC id tm (.slice pA p.length pc) (.slice sA s.length sc)) :: sF g t r lim q K1) (fun _ => True) ?_ ?_
    ·refine dr_ [sB g t q.gj q.gi q.gb q.mw q.ms q.life, blk g3 49 (rpC id tm (.slice pA p.length pc) (.slice sA s.length sc))] 8 ?_; refine y4_ 0 1 2 3 ?_; refine y2_ 4 5 ?_; refine w1_ 6 ?_; refine slc_ rfl rfl Sub.refl (fits_ok (g := q.gb) (m := q.mb) (ck := q.cb) (t := t) (r := r) (fs := q.fs) (now := tm) at_ at_ hrw ht) ?_; rintro _ -; refine vy_ 7 ?_; refine wx_ ?_; exact se_mid 0 has_ sub_ trivial
    rintro _ -
    by_cases hf : fitsE r q.fs tm = 0
    ·obtain ⟨hJ1, hJ2, hJ3, hJ4, hJ5, hJ6⟩ := hJ hf
     have haE : accE r lim q id tm p.length s.length = 0 := by unfold accE; rw [if_neg (by rw [hh]; decide), if_neg hl, if_neg h8, hf]
     have haI := accE_add ht haE
     rw [hf]; refine go_ ?_; subst hK1
     refine sc_join (α := (Option Addr × Nat) × (Option Addr × Nat)) (fun _ => [(0, .pointer (some ⟨g, 0, none⟩)), (3, .pointer (some ⟨g3, 0, none⟩))])
      (fun z => blk g3 49 (rpC id tm (.slice z.1.1 p.length z.1.2) (.slice z.2.1 s.length z.2.2)) :: u8o z.1.1 z.1.2 p :: u8o z.2.1 z.2.2 s :: sF g t r lim q (jC q.gj gd sj (cellsA ls) :: dB gd md limd :: dM md fs ckd :: dS fs :: K)) (fun _ => True) ?_ ?_
     ·refine dr_ [] 10 ?_; refine y2_ 0 3 ?_; refine w2_ 1 4 ?_ ?_
      ·repeat refine su_ ?_
       refine v2_ 2 4 ?_ ?_
       ·refine slc_ rfl rfl Sub.refl (clone_ok (hpv.mono sub_) (by omega)) ?_; rintro ⟨A1, c1⟩ -; refine v1_ 4 ?_
        repeat refine su_ ?_
        exact e1_Sks
       ·repeat refine su_ ?_
        refine v1_ 2 ?_; refine slc_ rfl rfl Sub.refl (clone_ok (hpv.mono sub_) (by omega)) ?_; rintro ⟨A1, c1⟩ -; exact e1_Sks
      ·repeat refine su_ ?_
       refine v1_ 1 ?_
       repeat refine su_ ?_
       refine v1_ 2 ?_; refine slc_ rfl rfl Sub.refl (clone_ok (hpv.mono sub_) (by omega)) ?_; rintro ⟨A1, c1⟩ -; exact e1_Sks
     rintro ⟨⟨A1, c1⟩, ⟨A2, c2⟩⟩ -; dsimp only; refine go_ ?_
     refine sl_call rfl rfl (by kernel_rfl) rfl sub_ (note_ok (K := blk g3 49 (rpC id tm (.slice A1 p.length c1) (.slice A2 s.length c2)) :: u8o A1 c1 p :: u8o A2 c2 s :: ixb q.gi q.iA q.ss.length q.ic lim :: ixo q.iA q.ic q.ss :: bB q.gb t r q.mb :: bM q.mb q.fs q.cb :: bS q.fs :: wM q.mw q.ws q.cw :: wS q.ws :: dMm q.ms q.sd q.cs :: dSs q.sd :: K)
       (g := g) (gj := q.gj) (gi := q.gi) (gb := q.gb) (mw := q.mw) (ms := q.ms) (gd := gd) (md := md) (t := t) (life := q.life) (lim := limd) (kind := 1) (f := 52) (caps := [.pointer (some ⟨g3, 0, none⟩)]) (bs := rcAcc id tm p s)
       (by kernel_rfl) hJ1 hJ2 hJ3 hJ4 hJ5 hJ6 (fun b A c => fAcc_ok at_ ht (Vw.of_own (e := 5) (A := A1) (c := c1) at_) (Vw.of_own (e := 5) (A := A2) (c := c2) at_) (by omega) (by omega))) ?_
     rintro ⟨f, ck2⟩ hf2
     dsimp only at hf2 ⊢
     have hsa := saccept_ok (K := blk g3 49 (rpC id tm (.slice A1 p.length c1) (.slice A2 s.length c2)) :: bB q.gb t r q.mb :: bM q.mb q.fs q.cb :: bS q.fs :: dMm q.ms q.sd q.cs :: dSs q.sd :: jC q.gj gd sj (cellsA (ls ++ [1 :: rcAcc id tm p s])) :: dB gd md limd :: dM md [f] ck2 :: dS [f] :: K) (g := g) (gj := q.gj) (gi := q.gi) (gb := q.gb) (mw := q.mw) (ms := q.ms) (t := t) (life := q.life) (lim := lim) (iA := q.iA) (ic := q.ic) (ck := q.cw) (ws := q.ws) (pA := A1) (sA := A2) (pc := c1) (sc := c2) (p := p) (s := s) hs hn ht hno
     rw [haI] at hsa
     simp only [↓reduceIte] at hsa
     refine go_ ?_; refine slc_ rfl rfl sub_ hsa ?_; rintro ⟨A3, c3⟩ -; dsimp only
     have hq2 : q.acc lim ⟨id, tm, 30, ht, by decide⟩ A3 c3 ⟨id, tm, A1, c1, p, A2, c2, s, q.cw⟩ = { q with iA := A3, ic := c3, ss := insAt q.ss ⟨id, tm, 30, ht, by decide⟩, ws := q.ws ++ [⟨id, tm, A1, c1, p, A2, c2, s, q.cw⟩], cw := q.cw + 1 } := by unfold StM.acc; rw [haI]; rfl
     refine go_ ?_; exact se_ret1 (some ⟨_, f, ck2⟩) ⟨rfl, hf2, A3, c3, A1, c1, A2, c2, hq2.symm⟩ rfl rfl sub_
    ·refine go_ ?_; exact se_ret1 none hf rfl rfl (by rw [hK1]; exact sub_)
end
end
section
open Go.RowKit Go.MapKept
attribute [local irreducible] Go.Calls Go.Exit.then Go.Exit.inBlock Go.bodyPost Go.Code.wp Go.wpList hashL ofId
section
def BK.add (b : BK) (fl : Int) (id : Id) (ys : List Int) (g : Nat) : BK := ⟨b.st, some ⟨g, 0, none⟩, b.l.length, addV fl b.l ys, b.m + 1, xorI b.k (ofId id), b.cl, b.bn⟩
theorem addV_len {f : Int} {xs ys : List Int} (h : ys.length = xs.length) : (addV f xs ys).length = xs.length := zipE_len rfl h
theorem bfa_eq {b : BK} {fl : Int} {id : Id} {ys : List Int} {g : Nat} (h : ys.length = b.l.length) : BM.fa (b.add fl id ys g) = eo (some ⟨g, 0, none⟩) b.l.length b.l.length (addV fl b.l ys) := by
 show eo (some ⟨g, 0, none⟩) (addV fl b.l ys).length b.l.length (addV fl b.l ys) = _
 rw [addV_len h]
theorem bval_eq {b : BK} {fl : Int} {id : Id} {ys : List Int} {g : Nat} (h : ys.length = b.l.length) : BM.val (b.add fl id ys g) = .agg (bkC b.st (tc (some ⟨g, 0, none⟩) b.l.length b.l.length (b.m + 1) (xorI b.k (ofId id))) b.cl).toArray := by
 show Value.agg (bkC b.st (tc (some ⟨g, 0, none⟩) (addV fl b.l ys).length b.l.length (b.m + 1) (xorI b.k (ofId id))) b.cl).toArray = _
 rw [addV_len h]
theorem fits_some {r : Rl} {fs : List BK} {now : Int} {b : BK} (h : fitsE r fs now = 0) (hf : bfind fs (stN r.w now) = some b) : now ≤ 1099511627776 ∧ b.cl = false ∧ b.m < r.mx := by
 unfold fitsE at h
 split at h
 ·cases h
 ·rw [hf] at h
  dsimp only at h
  split at h
  ·cases h
  ·split at h
   ·cases h
   ·rename_i h1 h2 h3
    exact ⟨by omega, by simpa using h2, by omega⟩
theorem fits_none {r : Rl} {fs : List BK} {now : Int} (h : fitsE r fs now = 0) (hf : bfind fs (stN r.w now) = none) : now ≤ 1099511627776 ∧ fs.length ≠ 32 ∧ 0 < r.mx := by
 unfold fitsE at h
 split at h
 ·cases h
 ·rw [hf] at h
  dsimp only at h
  split at h
  ·cases h
  ·split at h
   ·cases h
   ·rename_i h1 h2 h3
    exact ⟨by omega, h2, by omega⟩
theorem list18b {cs : List Value} (h : cs.length = 18) : ∃ a0 a1 a2 a3 a4 a5 a6 a7 a8 a9 a10 a11 a12 a13 a14 a15 a16 a17, cs = [a0, a1, a2, a3, a4, a5, a6, a7, a8, a9, a10, a11, a12, a13, a14, a15, a16, a17] := by
 match cs, h with
 | [a0, a1, a2, a3, a4, a5, a6, a7, a8, a9, a10, a11, a12, a13, a14, a15, a16, a17], _ => exact ⟨a0, a1, a2, a3, a4, a5, a6, a7, a8, a9, a10, a11, a12, a13, a14, a15, a16, a17, rfl⟩
theorem build_b2 (a0 a1 a2 a3 a4 a5 a6 a7 a8 a9 a10 a11 a12 a13 a14 a15 a16 a17 : Value) (s : Int) (W : World) : (Instr.build 70 #[(0, .int .u64 s), (1, .agg #[a0, a1, a2, a3, a4, a5, a6, a7, a8, a9, a10, a11, a12, a13, a14, a15, a16, a17])]).run Tryz.prog W = .ok (.agg #[.int .u64 s, a0, a1, a2, a3, a4, a5, a6, a7, a8, a9, a10, a11, a12, a13, a14, a15, a16, a17, .bool false]) W := by kernel_rfl
theorem build_buck {s : Int} {T : List Value} (hT : T.length = 18) (W : World) : (Instr.build 70 #[(0, .int .u64 s), (1, .agg T.toArray)]).run Tryz.prog W = .ok (.agg (bkC s T false).toArray) W := by
 obtain ⟨a0, a1, a2, a3, a4, a5, a6, a7, a8, a9, a10, a11, a12, a13, a14, a15, a16, a17, h⟩ := list18b hT
 have h1 := build_b2 a0 a1 a2 a3 a4 a5 a6 a7 a8 a9 a10 a11 a12 a13 a14 a15 a16 a17 s W
 rw [h]; exact h1
def bfst (s : Int) (t : Ta) (id : Id) (ys : List Int) (g ck : Nat) : BK := ⟨s, some ⟨g, 0, none⟩, ys.length, addV t.fl (List.replicate ys.length 0) ys, 1, xorI zId (ofId id), false, ck⟩
theorem bfst_fa {s : Int} {t : Ta} {id : Id} {ys : List Int} {g ck : Nat} : BM.fa (bfst s t id ys g ck) = eo (some ⟨g, 0, none⟩) ys.length ys.length (addV t.fl (List.replicate ys.length 0) ys) := by
 show eo (some ⟨g, 0, none⟩) (addV t.fl (List.replicate ys.length 0) ys).length ys.length (addV t.fl (List.replicate ys.length 0) ys) = _
 rw [addV_len (by simp), List.length_replicate]
theorem bfst_val {s : Int} {t : Ta} {id : Id} {ys : List Int} {g ck : Nat} : BM.val (bfst s t id ys g ck) = .agg (bkC s (tc (some ⟨g, 0, none⟩) ys.length ys.length 1 (xorI zId (ofId id))) false).toArray := by
 show Value.agg (bkC s (tc (some ⟨g, 0, none⟩) (addV t.fl (List.replicate ys.length 0) ys).length ys.length 1 (xorI zId (ofId id))) false).toArray = _
 rw [addV_len (by simp), List.length_replicate]
theorem els_rep (n : Nat) : Els (List.replicate n 0) := fun x hx => by
 rw [List.eq_of_mem_replicate hx]
 unfold El
 decide
open pGh
theorem badd_old {K : List Fa} {g m ck : Nat} {t : Ta} {r : Rl} {X Y : List BK} {b : BK} {now : Int} {id : Id} {B : Option Addr} {cb : Nat} {ys : List Int}
  (hw : 0 ≤ r.w) (h : 0 ≤ now) (ht : t.err = 0) (hf : fitsE r (X ++ b :: Y) now = 0) (hb : bfind (X ++ b :: Y) (stN r.w now) = some b) (hm : 0 ≤ b.m) (hr : r.mx ≤ 256) (ho : t.out = b.l.length) (ex : Els b.l) (ey : Els ys) (hy : Vw K (fun w => Reads w 2 B b.l.length (rows eC ys))) :
  Fn Tryz.prog 108 #[.pointer (some ⟨g, 0, none⟩), .int .u64 now, id.v, .slice B b.l.length cb] (bB g t r m :: bM m (X ++ b :: Y) ck :: bS (X ++ b :: Y) :: K) (Ret (fun _ : Nat => True) (fun _ => .int .i64 0) (fun g5 => bB g t r m :: bM m (X ++ b.add t.fl id ys g5 :: Y) ck :: bS (X ++ b.add t.fl id ys g5 :: Y) :: K)) := by
 refine fn_know (fun w hw' => vwe_len hy w hw'.tl.tl.tl) ?_; intro hly; refine fe_ Tryz.func108 Tryz.ntmps108 [(0, .pointer (some ⟨g, 0, none⟩)), (1, .int .u64 now), (2, id.v), (3, .slice B b.l.length cb)] ?_
 obtain ⟨hn1, hn2, hn3⟩ := fits_some hf hb
 obtain ⟨hbm, hbs⟩ := bfind_some hb
 have hg := bget hbm
 rw [hbs] at hg
 have hol := t.out_le ht
 refine go_ ?_; refine bx_ ?_; intro g1; refine go_ ?_; refine slc_ rfl rfl Sub.refl (fits_ok (g := g) (m := m) (ck := ck) (t := t) (r := r) (fs := X ++ b :: Y) at_ at_ hw (by omega)) ?_; rintro _ -; rw [hf]; refine go_ ?_; refine slc_ rfl rfl Sub.refl (start_ok hw (by omega)) ?_; rintro _ -; refine go_ ?_; refine al_ ?_; intro g2; refine go_ ?_
 refine sc_join (α := Nat × Nat) (fun q => [(0, .pointer (some ⟨g, 0, none⟩)), (10, .int .u64 (stN r.w now)), (11, .pointer (some ⟨g2, 0, none⟩)), (13, .pointer (some ⟨q.1, 0, none⟩)), (14, .int .i64 0)])
  (fun q => blk q.1 58 (tc (some ⟨q.2, 0, none⟩) b.l.length b.l.length (b.m + 1) (xorI b.k (ofId id))) :: eo (some ⟨q.2, 0, none⟩) b.l.length b.l.length (addV t.fl b.l ys) :: blk g2 70 (bkC (stN r.w now) (tc b.A b.l.length b.c b.m b.k) b.cl) :: bB g t r m :: bM m (X ++ b :: Y) ck :: bS (X ++ b :: Y) :: K) (fun _ => True) ?_ ?_
 ·refine dr_ [blk g2 70 (bkC (stN r.w now) (tc b.A b.l.length b.c b.m b.k) b.cl), bB g t r m, blk g1 47 (bytes id.l)] 15 ?_; refine y4_ 0 1 2 3 ?_; refine y4_ 4 5 6 7 ?_; refine w2_ 8 12 ?_ ?_
  ·refine slc_ rfl rfl sub_ (tadd_ok ht (by omega) ho ((bs_get (fs := X ++ b :: Y) (L := bS (X ++ b :: Y) :: K) .here hbm).mono sub_) (hy.mono sub_) ex ey) ?_; rintro g5 -; refine vy_ 9 ?_; refine y2_ 10 11 ?_; refine w1_ 12 ?_; refine al_ ?_; intro g6; refine v1_ 13 ?_; refine sto_ ?_; refine vy_ 14 ?_; refine wx_ ?_; exact se_mid (g6, g5) has_ sub_ trivial
  ·refine al_ ?_; intro g6; refine v1_ 8 ?_; refine slc_ rfl rfl sub_ (tadd_ok ht (by omega) ho ((bs_get (fs := X ++ b :: Y) (L := bS (X ++ b :: Y) :: K) .here hbm).mono sub_) (hy.mono sub_) ex ey) ?_; rintro g5 -; refine vy_ 9 ?_; refine y2_ 10 11 ?_; refine w1_ 13 ?_; refine sto_ ?_; refine vy_ 14 ?_; refine wx_ ?_; exact se_mid (g6, g5) has_ sub_ trivial
 rintro ⟨g6, g5⟩ -; dsimp only; refine go_ ?_; refine sl_store_mid (cl := tc (some ⟨g5, 0, none⟩) b.l.length b.l.length (b.m + 1) (xorI b.k (ofId id))) rfl pick_ rfl (by rw [tc_len]; rfl) (by rw [tc_len, bkC_len tc_len]; decide) tc_one ?_; rw [bkC_put tc_len tc_len]; refine go_ ?_; refine dr_ [blk g2 70 (bkC (stN r.w now) (tc (some ⟨g5, 0, none⟩) b.l.length b.l.length (b.m + 1) (xorI b.k (ofId id))) b.cl), bB g t r m] 7 ?_; refine y4_ 0 1 2 3 ?_; refine y2_ 4 5 ?_; refine w1_ 6 ?_; refine sl_kput (M := BM) (f := b) (f' := b.add t.fl id ys g5) rfl (by rw [← hbs]; rfl) (by rw [bval_eq hly, hbs]; rfl) rfl rfl pick_ rfl rfl rfl ?_; refine vx_ ?_; refine go_ ?_; refine se_subK (L' := eo (some ⟨g5, 0, none⟩) b.l.length b.l.length (addV t.fl b.l ys) :: bS (X ++ b :: Y) :: bB g t r m :: bM m (X ++ b.add t.fl id ys g5 :: Y) ck :: K) sub_ ?_; rw [← bfa_eq (b := b) (fl := t.fl) (id := id) (g := g5) hly]; refine se_ent (ks_swap (M := BM)) ?_; exact r1_ g5
theorem badd_new {K : List Fa} {g m ck : Nat} {t : Ta} {r : Rl} {fs : List BK} {now : Int} {id : Id} {B : Option Addr} {n cb : Nat} {ys : List Int}
  (hw : 0 ≤ r.w) (h : 0 ≤ now) (ht : t.err = 0) (hf : fitsE r fs now = 0) (hb : bfind fs (stN r.w now) = none) (ho : t.out = n) (ey : Els ys) (hy : Vw K (fun w => Reads w 2 B n (rows eC ys))) :
  Fn Tryz.prog 108 #[.pointer (some ⟨g, 0, none⟩), .int .u64 now, id.v, .slice B n cb] (bB g t r m :: bM m fs ck :: bS fs :: K) (Ret (fun _ : Nat => True) (fun _ => .int .i64 0) (fun g5 => bB g t r m :: bM m (fs ++ [bfst (stN r.w now) t id ys g5 ck]) (ck + 1) :: bS (fs ++ [bfst (stN r.w now) t id ys g5 ck]) :: K)) := by
 refine fn_know (fun w hw' => vwe_len hy w hw'.tl.tl.tl) ?_; intro hly; subst hly; refine fe_ Tryz.func108 Tryz.ntmps108 [(0, .pointer (some ⟨g, 0, none⟩)), (1, .int .u64 now), (2, id.v), (3, .slice B ys.length cb)] ?_
 obtain ⟨hn1, hn2, hn3⟩ := fits_none hf hb
 have hno := bno hb
 have hol := t.out_le ht
 refine go_ ?_; refine bx_ ?_; intro g1; refine go_ ?_; refine slc_ rfl rfl Sub.refl (fits_ok (g := g) (m := m) (ck := ck) (t := t) (r := r) (fs := fs) at_ at_ hw (by omega)) ?_; rintro _ -; rw [hf]; refine go_ ?_; refine slc_ rfl rfl Sub.refl (start_ok hw (by omega)) ?_; rintro _ -; refine go_ ?_; refine al_ ?_; intro g2; refine go_ ?_; refine slc_ rfl rfl sub_ (tnew_ok ht) ?_; rintro g3 -; rw [ho, Int.toNat_natCast]; refine sl_pu (pu_build (v := .agg (bkC (stN r.w now) (tc (some ⟨g3, 0, none⟩) ys.length ys.length 0 zId) false).toArray) rfl (build_buck tc_len)) rfl ?_; refine go_ ?_
 refine sc_join (α := Nat × Nat) (fun q => [(0, .pointer (some ⟨g, 0, none⟩)), (10, .int .u64 (stN r.w now)), (11, .pointer (some ⟨g2, 0, none⟩)), (13, .pointer (some ⟨q.1, 0, none⟩)), (14, .int .i64 0)])
  (fun q => blk q.1 58 (tc (some ⟨q.2, 0, none⟩) ys.length ys.length (0 + 1) (xorI zId (ofId id))) :: eo (some ⟨q.2, 0, none⟩) ys.length ys.length (addV t.fl (List.replicate ys.length 0) ys) :: blk g2 70 (bkC (stN r.w now) (tc (some ⟨g3, 0, none⟩) ys.length ys.length 0 zId) false) :: bB g t r m :: bM m fs ck :: bS fs :: K) (fun _ => True) ?_ ?_
 ·refine dr_ [blk g2 70 (bkC (stN r.w now) (tc (some ⟨g3, 0, none⟩) ys.length ys.length 0 zId) false), bB g t r m, blk g1 47 (bytes id.l)] 15 ?_; refine y4_ 0 1 2 3 ?_; refine y4_ 4 5 6 7 ?_; refine w2_ 8 12 ?_ ?_
  ·refine slc_ rfl rfl sub_ (tadd_ok ht (by decide) ho (Vw.of_own (e := 102) (A := some ⟨g3, 0, none⟩) (c := ys.length) (xs := rows eC (List.replicate ys.length 0)) at_) (hy.mono sub_) (els_rep _) ey) ?_; rintro g5 -; refine vy_ 9 ?_; refine y2_ 10 11 ?_; refine w1_ 12 ?_; refine al_ ?_; intro g6; refine v1_ 13 ?_; refine sto_ ?_; refine vy_ 14 ?_; refine wx_ ?_; exact se_mid (g6, g5) has_ sub_ trivial
  ·refine al_ ?_; intro g6; refine v1_ 8 ?_; refine slc_ rfl rfl sub_ (tadd_ok ht (by decide) ho (Vw.of_own (e := 102) (A := some ⟨g3, 0, none⟩) (c := ys.length) (xs := rows eC (List.replicate ys.length 0)) at_) (hy.mono sub_) (els_rep _) ey) ?_; rintro g5 -; refine vy_ 9 ?_; refine y2_ 10 11 ?_; refine w1_ 13 ?_; refine sto_ ?_; refine vy_ 14 ?_; refine wx_ ?_; exact se_mid (g6, g5) has_ sub_ trivial
 rintro ⟨g6, g5⟩ -; dsimp only; refine go_ ?_; refine sl_store_mid (cl := tc (some ⟨g5, 0, none⟩) ys.length ys.length (0 + 1) (xorI zId (ofId id))) rfl pick_ rfl (by rw [tc_len]; rfl) (by rw [tc_len, bkC_len tc_len]; decide) tc_one ?_; rw [bkC_put tc_len tc_len]; refine go_ ?_; refine dr_ [blk g2 70 (bkC (stN r.w now) (tc (some ⟨g5, 0, none⟩) ys.length ys.length (0 + 1) (xorI zId (ofId id))) false), bB g t r m] 7 ?_; refine y4_ 0 1 2 3 ?_; refine y2_ 4 5 ?_; refine w1_ 6 ?_; refine sl_knew (M := BM) (f' := bfst (stN r.w now) t id ys g5 ck) rfl rfl (by rw [bfst_val]; rfl) rfl rfl (fun b hb' e => by injection e with _ e'; exact bfind_none hb b hb' e') pick_ rfl rfl rfl ?_; refine vx_ ?_; refine go_ ?_; refine se_subK (L' := eo (some ⟨g5, 0, none⟩) ys.length ys.length (addV t.fl (List.replicate ys.length 0) ys) :: bS fs :: bB g t r m :: bM m (fs ++ [bfst (stN r.w now) t id ys g5 ck]) (ck + 1) :: K) sub_ ?_; rw [← bfst_fa (s := stN r.w now) (t := t) (id := id) (g := g5) (ck := ck)]; refine se_ent (ks_new (M := BM)) ?_; exact r1_ g5
end
end
section
open Go.RowKit
def nums (k : IntKind) (xs : List Int) : List Value := xs.map (Value.int k)
theorem range_all_eq : ∀ (xs ys : List Int), xs.length = ys.length → (List.range xs.length).all (fun i => xs.getD i 0 == ys.getD i 0) = (xs == ys)
 | [], [], _ => rfl
 | x :: xs, y :: ys, h => by
  have ih := range_all_eq xs ys (by simpa using h)
  rw [List.length_cons, List.range_succ_eq_map, List.all_cons, List.all_map]
  simp only [List.getD_cons_zero, Function.comp_def, List.getD_cons_succ, ih]
  simp [List.cons_beq_cons]
 | [], _ :: _, h => by simp at h
 | _ :: _, [], h => by simp at h
section
variable {P : Program} (w : World)
theorem run_equalIn_nums (d : Nat) (t e : TypeId) (n : Nat) (k k' : IntKind) (ht : P.underlying t = some (.array n e)) (he : P.underlying e = some (.int k')) (hsz : ∀ w, (sizeOf e).run P w = .ok 1 w)
  (xs ys : List Int) (hx : xs.length = n) (hy : ys.length = n) :
  (Op.equalIn (d + 2) t (.agg (nums k xs).toArray) (.agg (nums k ys).toArray)).run P w = .ok (xs == ys) w := by
 unfold nums
 rw [← range_all_eq xs ys (hx.trans hy.symm), hx, List.range_eq_range', Op.equalIn]
 simp only [Sem.run_bind, run_underlying ht, Result.andThen_ok, hsz, Std.Legacy.Range.forIn_eq_forIn_range', Std.Legacy.Range.size, Nat.sub_zero, Nat.add_sub_cancel, Nat.div_one]
 have hl : ∀ i ∈ List.range' 0 n 1, i < n := fun i hi => by simpa using (List.mem_range'_1.1 hi).2
 generalize List.range' 0 n 1 = l at hl ⊢
 induction l with
 | nil => simp
 | cons i l ih =>
  have hi : i < n := hl i (by simp)
  have px : (part e (xs.map (Value.int k)).toArray (i * 1)).run P w = .ok (.int k (xs.getD i 0)) w := by
   simp [part, isAgg, run_underlying he, List.getD, List.getElem?_eq_getElem (show i < xs.length by omega)]
  have py : (part e (ys.map (Value.int k)).toArray (i * 1)).run P w = .ok (.int k (ys.getD i 0)) w := by
   simp [part, isAgg, run_underlying he, List.getD, List.getElem?_eq_getElem (show i < ys.length by omega)]
  have pe : (Op.equalIn (d + 1) e (.int k (xs.getD i 0)) (.int k (ys.getD i 0))).run P w = .ok (xs.getD i 0 == ys.getD i 0) w := by
   rw [run_equalIn_int w d e k k' _ _ he]
  simp only [List.forIn_cons, Sem.run_bind, px, py, pe, Result.andThen_ok, List.all_cons]
  cases hb : (xs.getD i 0 == ys.getD i 0)
  ·simp
  ·simp only [Bool.not_true, Bool.false_eq_true, if_false, Sem.run_pure, Result.andThen_ok, Bool.true_and]
   exact ih fun j hj => hl j (by simp [hj])
end
section
variable {P : Program} {C : World → Prop} {n : Nat} {l : Env} {ty t t' e : TypeId} {x y : Operand} {xs ys : List Int} {N : Nat} {k k' : IntKind}
theorem pu_eqla (hx : ev l x = some (.agg (nums k xs).toArray)) (hy : ev l y = some (.agg (nums k ys).toArray)) (ht : P.underlying t = some (.array N e)) (he : P.underlying e = some (.int k')) (hz : szOf P e = some 1) (hg : P.eqGuardType P.depth t = false)
  (hxl : xs.length = N) (hyl : ys.length = N) : Pu P C n l (.binOp .eql t x y t') ty (.bool (decide (xs = ys))) := by
 unfold Pu
 intro a _ _ _ _ W hs _
 simp only [execOp, hs.ev hx, hs.ev hy]
 rw [Sem.run_bind, Sem.run_bind, run_eqGuard_agg (P := P) W _ t x y _ _ hg, Result.andThen_ok, run_eql_struct, run_equalIn_nums W 9998 t e N k k' ht he (run_size hz) xs ys hxl hyl]
 have e1 : (xs == ys) = decide (xs = ys) := by
  rw [Bool.eq_iff_iff]
  simp
 rw [e1]
 rfl
theorem pu_neqla (hx : ev l x = some (.agg (nums k xs).toArray)) (hy : ev l y = some (.agg (nums k ys).toArray)) (ht : P.underlying t = some (.array N e)) (he : P.underlying e = some (.int k')) (hz : szOf P e = some 1) (hg : P.eqGuardType P.depth t = false)
  (hxl : xs.length = N) (hyl : ys.length = N) : Pu P C n l (.binOp .neq t x y t') ty (.bool (!decide (xs = ys))) := by
 unfold Pu
 intro a _ _ _ _ W hs _
 simp only [execOp, hs.ev hx, hs.ev hy]
 rw [Sem.run_bind, Sem.run_bind, run_eqGuard_agg (P := P) W _ t x y _ _ hg, Result.andThen_ok, run_neq_struct, run_equalIn_nums W 9998 t e N k k' ht he (run_size hz) xs ys hxl hyl]
 have e1 : (xs == ys) = decide (xs = ys) := by
  rw [Bool.eq_iff_iff]
  simp
 rw [e1]
 rfl
end
end
section
open Go.RowKit Go.MapKept
attribute [local irreducible] Go.Calls Go.Exit.then Go.Exit.inBlock Go.bodyPost Go.Code.wp Go.wpList hashL ofId
section
theorem eC_nums (v : Int) : eC v = nums .u64 [v % 18446744073709551616, v / 18446744073709551616] := rfl
theorem eC_inj {v u : Int} (h : [v % 18446744073709551616, v / 18446744073709551616] = [u % 18446744073709551616, u / 18446744073709551616]) : v = u := by
 injection h with h1 h2
 injection h2 with h2 _
 omega
theorem eC_dec (v u : Int) : decide ([v % 18446744073709551616, v / 18446744073709551616] = [u % 18446744073709551616, u / 18446744073709551616]) = decide (v = u) := by
 rw [Bool.eq_iff_iff]
 simp only [decide_eq_true_eq]
 exact ⟨eC_inj, fun h => by rw [h]⟩
section
variable {C : World → Prop} {n : Nat} {l : Env} {ty t' : TypeId} {x y : Operand} {u v : Int}
theorem pu_neqle (hx : ev l x = some (.agg (eC u).toArray)) (hy : ev l y = some (.agg (eC v).toArray)) : Pu Tryz.prog C n l (.binOp .neq 102 x y t') ty (.bool (!decide (u = v))) := by
 rw [eC_nums] at hx hy
 have h := pu_neqla (P := Tryz.prog) (C := C) (n := n) (ty := ty) (t' := t') (t := 102) (N := 2) (e := 36) (k' := .u64) hx hy rfl rfl rfl (by kernel_rfl) rfl rfl
 rw [eC_dec] at h
 exact h
end
theorem pu_eqr {C : World → Prop} {n : Nat} {l : Env} {ty t' : TypeId} {x y : Operand} {r : Rl} (hx : ev l x = some (.agg r.c.toArray)) (hy : ev l y = some (.agg r.c.toArray)) : Pu Tryz.prog C n l (.binOp .eql 38 x y t') ty (.bool true) := by
 have h := pu_eqs (C := C) (n := n) (ty := ty) (t' := t') (q := decide (r.w = r.w) && (decide (r.mn = r.mn) && (decide (r.mx = r.mx) && true))) hx hy Tryz.underlying38 (by kernel_rfl) (by kernel_rfl) (fun w => ?_)
 ·simpa using h
 ·exact eqF_int (by decide) rfl Tryz.underlying36 rfl rfl (eqF_int (by decide) rfl Tryz.underlying3 rfl rfl (eqF_int (by decide) rfl Tryz.underlying3 rfl rfl eqF_nil))
def closeE (r : Rl) (fs : List BK) (s : Int) : Int := if 1099511627776 < s ∨ stN r.w s ≠ s then 15 else match bfind fs s with
 | none => 19
 | some b => if b.m < r.mn then 17 else 0
def BK.shut (b : BK) : BK := { b with cl := true }
open pGh
theorem closeE_0 {r : Rl} {fs : List BK} {s : Int} (h : closeE r fs s = 0) : s ≤ 1099511627776 ∧ stN r.w s = s ∧ ∃ b, bfind fs s = some b ∧ r.mn ≤ b.m := by
 unfold closeE at h
 split at h
 ·cases h
 ·rename_i h1
  cases hf : bfind fs s with
  | none =>
   rw [hf] at h
   cases h
  | some b =>
   rw [hf] at h
   dsimp only at h
   split at h
   ·cases h
   ·exact ⟨by omega, Decidable.byContradiction fun hc => h1 (.inr hc), b, rfl, by omega⟩
theorem close_ok {K : List Fa} {g m ck : Nat} {t : Ta} {r : Rl} {X Y : List BK} {b : BK} {s : Int} (hw : 0 ≤ r.w) (h : 0 ≤ s) (he : closeE r (X ++ b :: Y) s = 0) (hf : bfind (X ++ b :: Y) s = some b) (hn : b.l.length ≤ 1000000) :
  Fn Tryz.prog 59 #[.pointer (some ⟨g, 0, none⟩), .int .u64 s] (bB g t r m :: bM m (X ++ b :: Y) ck :: bS (X ++ b :: Y) :: K) (Ret (fun _ : Option Addr × Nat => True) (fun q => .tuple #[.agg (tc q.1 b.l.length q.2 b.m b.k).toArray, .int .i64 0]) (fun q => eo q.1 b.l.length q.2 b.l :: bB g t r m :: bM m (X ++ b.shut :: Y) ck :: bS (X ++ b.shut :: Y) :: K)) := by
 refine fe_ Tryz.func59 Tryz.ntmps59 [(0, .pointer (some ⟨g, 0, none⟩)), (1, .int .u64 s)] ?_
 obtain ⟨h1, h2, b', hf', h3⟩ := closeE_0 he
 rw [hf] at hf'
 injection hf' with hf'
 subst hf'
 obtain ⟨hb, hbs⟩ := bfind_some hf
 have hg := bget hb
 rw [hbs] at hg
 refine go_ ?_; refine al_ ?_; intro g1; refine go_ ?_; refine slc_ rfl rfl sub_ (start_ok hw (by omega)) ?_; rintro _ -; rw [h2]; refine go_ ?_; refine al_ ?_; intro g2; refine go_ ?_
 ((refine sq_region (by kernel_rfl) (by kernel_rfl) ?_; (repeat refine rq_ ?_); refine sq_end ?_))
 refine go_ ?_; refine dr_ [blk g2 70 (bkC s (tc b.A b.l.length b.c b.m b.k) true), bB g t r m] 7 ?_; refine y4_ 0 1 2 3 ?_; refine y2_ 4 5 ?_; refine w1_ 6 ?_; refine sl_kput (M := BM) (f := b) (f' := b.shut) rfl (by rw [← hbs]; rfl) (by rw [← hbs]; rfl) rfl rfl pick_ rfl rfl rfl ?_; refine vx_ ?_
 have hr : Vw (bS (X ++ b :: Y) :: K) (fun w => Reads w 2 b.A b.l.length (rows eC b.l)) := bs_get .here hb
 refine go_ ?_; refine slc_ rfl rfl sub_ (copied_ok (hr.mono sub_) hn) ?_; rintro ⟨A2, c2⟩ -; refine go_ ?_; rw [show bS (X ++ b.shut :: Y) = bS (X ++ b :: Y) from ks_same (M := BM) rfl]; exact se_ret_ct (A2, c2) trivial rfl rfl at_ rfl rfl (by rw [tc_len]; rfl) rfl rfl sub_
end
end
end Go.Proofs.YtocaabnbmcpjmaaGreat
