/- Several texts of one claim, one behind the other (Skp, Skq, Gh). -/
import Derived.Test.YtocaabnbmcpjmaaGreatB20
import Derived.Test.YtocaabnbmcpjmaaGreatB19
set_option linter.unusedVariables false
set_option linter.unusedSimpArgs false
/- Package store: records of reports and of lives, written and read; again at such; a journal opened. -/
namespace Go.Proofs.YtocaabnbmcpjmaaGreat
open Go.RowKit Go.MapKept
attribute [local irreducible] Go.Calls Go.Exit.then Go.Exit.inBlock Go.bodyPost Go.Code.wp Go.wpList takeL recordL hashL recL allL
theorem lev_le {n : Int} {k : Nat} (h0 : 0 ≤ n) (h1 : n < 2 ^ (8 * k)) : leV (le n k) = n := by
  rw [leV_le n h0, Int.emod_eq_of_lt h0 h1]
theorem lev_one (b : Int) : leV [b] = b := by simp [leV]
theorem take_app {α : Type} {a b : List α} {k : Nat} (h : a.length = k) : (a ++ b).take k = a ∧ (a ++ b).drop k = b := ⟨List.take_left' h, List.drop_left' h⟩
theorem gLong_ok {p r : List Int} (hp : p.length ≤ 65536) : gLong ((le p.length 4 ++ p) ++ r) = .inr (p, r) := by
  have h4 : (le (p.length : Int) 4).length = 4 := le_len _ _
  have ht : ((le (p.length : Int) 4 ++ p) ++ r).take 4 = le p.length 4 := by rw [List.append_assoc]; exact (take_app h4).1
  have hd : ((le (p.length : Int) 4 ++ p) ++ r).drop 4 = p ++ r := by rw [List.append_assoc]; exact (take_app h4).2
  have hv : leV (le (p.length : Int) 4) = p.length := lev_le (by omega) (by omega)
  have hl : ((le (p.length : Int) 4 ++ p) ++ r).length = 4 + (p.length + r.length) := by rw [List.length_append, List.length_append, h4]; omega
  unfold gLong
  rw [ht, hd, hv, hl, if_neg (by omega), if_neg (by omega), if_neg (by rw [Int.toNat_natCast]; omega), Int.toNat_natCast, (take_app rfl).1, List.append_assoc, List.drop_append, List.drop_of_length_le (by rw [h4]; omega), h4, List.nil_append, show 4 + p.length - 4 = p.length from by omega, (take_app rfl).2]
theorem gLong_end {p : List Int} (hp : p.length ≤ 65536) : gLong (le p.length 4 ++ p) = .inr (p, []) := by
  have := gLong_ok (r := []) hp
  rwa [List.append_nil] at this
theorem dec_life {n : Int} (h0 : 0 ≤ n) (h1 : n < 281474976710656) : decR (5 :: rcLife n) = .inr (.life n, 0) := by
  have h6 : (le n 6).length = 6 := le_len _ _
  have hv : leV (le n 6) = n := lev_le h0 (by omega)
  unfold decR rcLife
  rw [if_neg (by simp)]
  rw [show (5 :: le n 6).take 1 = [5] from rfl, show (5 :: le n 6).drop 1 = le n 6 from rfl, lev_one, if_neg (by decide), if_neg (by decide), if_neg (by decide), if_neg (by decide), if_pos rfl]
  unfold dLife
  rw [if_neg (by omega), List.take_of_length_le (by omega), List.drop_of_length_le (by omega), hv]
  rfl
theorem dec_acc {id : Id} {t : Int} {p s : List Int} (h0 : 0 ≤ t) (h1 : t < 281474976710656) (hp : p.length ≤ 65536) (hs : s.length ≤ 65536) : decR (1 :: rcAcc id t p s) = .inr (.acc id.l t p s, 0) := by
  have h6 : (le t 6).length = 6 := le_len _ _
  have hv : leV (le t 6) = t := lev_le h0 (by omega)
  have hi := id.len
  unfold decR rcAcc
  rw [if_neg (by simp)]
  rw [show ∀ l : List Int, (1 :: l).take 1 = [1] from fun _ => rfl, show ∀ l : List Int, (1 :: l).drop 1 = l from fun _ => rfl, lev_one, if_pos rfl]
  unfold dAcc
  rw [if_neg (by simp [hi]), (take_app hi).1, (take_app hi).2]
  unfold dAcc2
  rw [if_neg (by simp [h6]), (take_app h6).1, (take_app h6).2, hv]
  unfold dAcc3
  rw [gLong_ok hp]
  dsimp only
  unfold dAcc4
  rw [gLong_end hs]
  rfl
theorem rcAcc_bytes {id : Id} {t : Int} {p s : List Int} (hp : IsBytes p) (hs : IsBytes s) : IsBytes (1 :: rcAcc id t p s) := fun x hx => by
  rcases List.mem_cons.1 hx with e | e
  · omega
  · unfold rcAcc at e
    rcases List.mem_append.1 e with e | e
    · exact id.ok x e
    · rcases List.mem_append.1 e with e | e
      · exact le_bytes _ _ x e
      · rcases List.mem_append.1 e with e | e
        · rcases List.mem_append.1 e with e | e
          · exact le_bytes _ _ x e
          · exact hp x e
        · rcases List.mem_append.1 e with e | e
          · exact le_bytes _ _ x e
          · exact hs x e
theorem rcAcc_len {id : Id} {t : Int} {p s : List Int} : (1 :: rcAcc id t p s).length = 31 + p.length + s.length := by
  have h6 : (le t 6).length = 6 := le_len _ _
  have h4 : (le (p.length : Int) 4).length = 4 := le_len _ _
  have h5 : (le (s.length : Int) 4).length = 4 := le_len _ _
  simp [rcAcc, id.len, h6, h4, h5]
  omega
theorem nth_Skp {φ : Prop} (h : φ := by (first | rfl | first | rfl | exact stC9_n9)) : φ := h
theorem mid_Skp {φ : Prop} (h : φ := by (first | first | exact stC9_mid | exact stC9_ci | exact Mid.all | exact Mid.all | exact Mid.head)) : φ := h
theorem sz_Skp {φ : Prop} (h : φ := by (first | rfl | (first | done | rfl | (simp only [rpC_len]; rfl); first | done | fail))) : φ := h
theorem one_Skp {φ : Prop} (h : φ := by (first | assumption | exact first | exact one_bytes _ | (simp only [List.mem_cons, List.not_mem_nil, or_false, forall_eq_or_imp, forall_eq]; decide) | exact one_bytes _ | (intro v hv; (repeat (rcases List.mem_cons.1 hv with rfl | hv; rfl)); cases hv))) : φ := h
theorem set_Skp {φ : Prop} (h : φ := by (first | (exact stC9_set) | ((repeat (first | exact SetAt.here | apply SetAt.there)); first | done | fail))) : φ := h
theorem cl_Skp {φ : Prop} (h : φ := by first | rfl | exact .t | exact .f | exact .t (by omega) | exact .f (by omega) | exact .u | exact .i (by (first | exact .t (by omega) | exact .f (by omega) | exact .u | exact .i (by omega) | exact .v (by omega) | exact .b (by omega) | exact .w | rfl | omega)) | exact .v (by omega) | exact .b (by omega) | exact .q (by omega) | exact .w | exact .b (by exact at_) rfl (by exact nth_Skp) | exact .w (by exact at_) rfl rfl (by exact sz_Skp) | exact .s (by exact at_) (by exact mid_Skp) rfl rfl (by exact sz_Skp) | exact .z rfl rfl ⟨by kernel_rfl⟩ | exact .b rfl rfl ⟨by kernel_rfl⟩ | exact .a rfl rfl ⟨by kernel_rfl⟩ | exact .o rfl | exact .s | exact .n | exact .p rfl | exact .q rfl | exact .c rfl | exact .d rfl | exact .n rfl rfl (by omega) | exact .a rfl rfl (by omega) | exact .p rfl rfl (by omega) (by omega) | exact .y rfl rfl (by omega) (by omega) | exact .o (by exact at_) (by omega) rfl (by exact nth_Skp) | exact .m (by exact at_) (by omega) (by exact mid_Skp) rfl rfl (by exact sz_Skp) | exact .mlen (by exact at_) rfl | exact .t (by exact at_) rfl rfl (by first | exact True.intro | rfl) (by assumption) | exact .f (by exact at_) rfl rfl (by first | exact True.intro | rfl) (by assumption) rfl | exact .t1 (by exact at_) rfl rfl (by first | exact True.intro | rfl) (by assumption) | exact .f1 (by exact at_) rfl rfl (by first | exact True.intro | rfl) (by assumption) rfl | exact .tk (by exact at_) rfl (by assumption) (by assumption) | exact .fk (by exact at_) rfl (by assumption) (by assumption) rfl | exact .tk1 (by exact at_) rfl (by assumption) (by assumption) | exact .fk1 (by exact at_) rfl (by assumption) (by assumption) rfl | exact .r rfl rfl (by omega) (by omega) (by exact nth_Skp) rfl | exact .s rfl (by omega) (by assumption) | exact at_ | assumption | exact .r rfl rfl | exact .h rfl rfl rfl (by omega) | exact .l rfl rfl rfl (by omega) (by omega) | exact .g rfl rfl rfl rfl (by omega) (by omega) | exact .h rfl rfl (toN_ (by omega)) (by omega) | exact .l rfl rfl (toN_ (by omega)) (by omega) (by omega) | exact .g rfl rfl (toN_ (by omega)) (toN_ (by omega)) (by omega) (by omega) | exact .o (by decide) | exact .f (by decide) | exact .n (by omega) (by first | decide | (show _ ≤ ((64 : Nat) : Int); omega)) | (constructor; (repeat (first | exact .t (by omega) | exact .f (by omega) | exact .u | exact .i (by omega) | exact .v (by omega) | exact .b (by omega) | exact .w | rfl | omega)); first | done | fail) | omega | (show _ ≤ ((64 : Nat) : Int); omega)) : φ := h
theorem pv_Skp {φ : Prop} (h : φ := by constructor; (repeat exact cl_Skp); first | done | fail) : φ := h
theorem su_Skp {φ ψ : Prop} (k : ψ) (h : Hide ψ → φ := by (intro k; (first | refine sl_pu (PuI.sep (by exact pv_Skp)) rfl ?_ | refine sl_yes rfl rfl ?_ | refine sl_no rfl rfl rfl ?_ | refine sl_off rfl rfl rfl ?_ | (fail)); exact k.out)) : φ := h ⟨k⟩
theorem sto_Skp {φ ψ : Prop} (k : ψ) (h : Hide ψ → φ := by (intro k; (first | refine sl_store rfl (by exact pick_) rfl rfl (by kernel_rfl) (by exact set_Skp) ?_ | refine sl_store_whole rfl (by exact pick_) rfl (by exact sz_Skp) (by exact sz_Skp) (by exact one_Skp) ?_); exact k.out)) : φ := h ⟨k⟩
theorem go_Skp {φ ψ : Prop} (k : ψ) (h : Hide ψ → φ := by (intro k; (repeat (first | refine su_Skp ?_ | refine so_ ?_ | refine sto_Skp ?_)); exact k.out)) : φ := h ⟨k⟩
set_option maxRecDepth 100000 in
theorem dLife_ok {K : List Fa} {g go gl gj gi gb mw ms : Nat} {t : Ta} {life n : Int} :
    Fn Tryz.prog 95 #[.pointer (some ⟨gl, 0, none⟩), .pointer (some ⟨go, 0, none⟩)] (blk gl 36 [.int .u64 n] :: goB go g :: sB g t gj gi gb mw ms life :: K) (Ret (fun _ : Unit => True) (fun _ => .int .i64 0) (fun _ => sB g t gj gi gb mw ms n :: K)) := by
  refine fn_enter Tryz.func95 rfl _ Tryz.ntmps95 (by simp) [(0, .pointer (some ⟨gl, 0, none⟩)), (1, .pointer (some ⟨go, 0, none⟩))] (args_of (by simp)) ?_
  refine go_Skp ?_
  exact se_ret1 () trivial rfl rfl (by exact sub_)
theorem again_life {K Z : List Fa} {g nn c : Nat} {A : Option Addr} {t : Ta} {r : Rl} {lim n : Int} {q : StM} (h0 : 0 ≤ n) (h1 : n < 281474976710656) (hz : Sub K Z) (h : Rd Z A nn c (5 :: rcLife n)) :
    Fn Tryz.prog 44 #[.pointer (some ⟨g, 0, none⟩), .slice A nn c] (sF g t r lim q K) (Ret (fun z : Int × StM => z = (0, { q with life := n })) (fun z => .int .i64 z.1) (fun z => sF g t r lim z.2 K)) := by
  refine again_do (r := .life n) (Z := Z) (by exact Sub.skip (Sub.skip (Sub.skip (Sub.skip (Sub.skip (Sub.skip (Sub.skip (Sub.skip (Sub.skip (Sub.skip hz)))))))))) h (dec_life h0 h1) (fun go x => ?_)
  refine Fn.sub ((dLife_ok (gl := x.g1) (go := go) (g := g) (t := t) (gj := q.gj) (gi := q.gi) (gb := q.gb) (mw := q.mw) (ms := q.ms) (life := q.life) (n := n)).say fun _ w _ hw => ⟨(0, { q with life := n }), rfl, rfl, hw⟩) ?_
  exact Sub.refl
set_option maxRecDepth 100000 in
theorem dAcc_ok {K : List Fa} {g go g1 : Nat} {t : Ta} {r : Rl} {lim : Int} {q : StM} {id : Id} {tm : Int} {pA sA : Option Addr} {pc sc : Nat} {p s : List Int} (hs : Srt q.ss) (hn : q.ss.length ≤ 1000000) (ht : 0 ≤ tm ∧ tm ≤ 18446744073709551615) (hno : hasI q.ss id = false → wfind q.ws id = none) :
    Fn Tryz.prog 91 #[.pointer (some ⟨go, 0, none⟩), .pointer (some ⟨g1, 0, none⟩)] (blk g1 49 (rpC id tm (.slice pA p.length pc) (.slice sA s.length sc)) :: u8o pA pc p :: u8o sA sc s :: goB go g :: sF g t r lim q K)
      (Ret (fun z : Int × StM => ∃ A1 c1, z = ((addI lim q.ss ⟨id, tm, 30, ht, by decide⟩).1, { q with iA := A1, ic := c1, ss := (addI lim q.ss ⟨id, tm, 30, ht, by decide⟩).2, ws := if (addI lim q.ss ⟨id, tm, 30, ht, by decide⟩).1 = 0 then q.ws ++ [⟨id, tm, pA, pc, p, sA, sc, s, q.cw⟩] else q.ws, cw := if (addI lim q.ss ⟨id, tm, 30, ht, by decide⟩).1 = 0 then q.cw + 1 else q.cw })) (fun z => .int .i64 z.1) (fun z => sF g t r lim z.2 K)) := by
  refine fn_enter Tryz.func91 rfl _ Tryz.ntmps91 (by simp) [(0, .pointer (some ⟨go, 0, none⟩)), (1, .pointer (some ⟨g1, 0, none⟩))] (args_of (by simp)) ?_
  refine go_Skp ?_
  refine sl_call rfl rfl (by kernel_rfl) rfl (by exact sub_) (saccept_ok (K := bB q.gb t r q.mb :: bM q.mb q.fs q.cb :: bS q.fs :: dMm q.ms q.sd q.cs :: dSs q.sd :: K) (g := g) (gj := q.gj) (gi := q.gi) (gb := q.gb) (mw := q.mw) (ms := q.ms) (t := t) (life := q.life) (lim := lim) (iA := q.iA) (ic := q.ic) (ck := q.cw) (ss := q.ss) (ws := q.ws) (id := id) (tm := tm) (pA := pA) (sA := sA) (pc := pc) (sc := sc) (p := p) (s := s) hs hn ht hno) ?_
  rintro ⟨A1, c1⟩ -
  generalize addI lim q.ss ⟨id, tm, 30, ht, by decide⟩ = ad
  dsimp only
  refine go_Skp ?_
  by_cases h0 : ad.1 = 0
  · simp only [h0, if_true]
    exact se_ret1 ((0, { q with iA := A1, ic := c1, ss := ad.2, ws := q.ws ++ [⟨id, tm, pA, pc, p, sA, sc, s, q.cw⟩], cw := q.cw + 1 }) : Int × StM) ⟨A1, c1, rfl⟩ rfl rfl (by exact sub_)
  · simp only [h0, if_false]
    exact se_ret1 ((ad.1, { q with iA := A1, ic := c1, ss := ad.2 }) : Int × StM) ⟨A1, c1, rfl⟩ rfl rfl (by exact sub_)
end Go.Proofs.YtocaabnbmcpjmaaGreat
/- Package store: again at a report; a journal's file opened: none, or one that is cut. -/
namespace Go.Proofs.YtocaabnbmcpjmaaGreat
open Go.RowKit Go.MapKept
attribute [local irreducible] Go.Calls Go.Exit.then Go.Exit.inBlock Go.bodyPost Go.Code.wp Go.wpList takeL recordL hashL recL allL decR
/-- A report more. -/
def StM.acc (q : StM) (lim : Int) (sn : Seen) (A1 : Option Addr) (c1 : Nat) (w : Wt) : StM := { q with iA := A1, ic := c1, ss := (addI lim q.ss sn).2, ws := if (addI lim q.ss sn).1 = 0 then q.ws ++ [w] else q.ws, cw := if (addI lim q.ss sn).1 = 0 then q.cw + 1 else q.cw }
theorem again_acc {K Z : List Fa} {g nn c : Nat} {A : Option Addr} {t : Ta} {r : Rl} {lim tm : Int} {q : StM} {id : Id} {p s : List Int} (ht : 0 ≤ tm ∧ tm ≤ 18446744073709551615) (h1 : tm < 281474976710656) (hp : p.length ≤ 65536) (hsl : s.length ≤ 65536) (hz : Sub K Z) (h : Rd Z A nn c (1 :: rcAcc id tm p s))
    (hs : Srt q.ss) (hn : q.ss.length ≤ 1000000) (hno : hasI q.ss id = false → wfind q.ws id = none) :
    Fn Tryz.prog 44 #[.pointer (some ⟨g, 0, none⟩), .slice A nn c] (sF g t r lim q K)
      (Ret (fun z : Int × StM => ∃ A1 c1 pA pc sA sc, z = ((addI lim q.ss ⟨id, tm, 30, ht, by decide⟩).1, q.acc lim ⟨id, tm, 30, ht, by decide⟩ A1 c1 ⟨id, tm, pA, pc, p, sA, sc, s, q.cw⟩)) (fun z => .int .i64 z.1) (fun z => sF g t r lim z.2 K)) := by
  refine again_do (r := .acc id.l tm p s) (Z := Z) (by exact Sub.skip (Sub.skip (Sub.skip (Sub.skip (Sub.skip (Sub.skip (Sub.skip (Sub.skip (Sub.skip (Sub.skip hz)))))))))) h (dec_acc ht.1 h1 hp hsl) (fun go x => ?_)
  refine Fn.sub ((dAcc_ok (g := g) (go := go) (g1 := x.g1) (t := t) (r := r) (lim := lim) (q := q) (id := id) (tm := tm) (pA := x.A) (pc := x.c) (sA := x.B) (sc := x.d) (p := p) (s := s) (K := K) hs hn ht hno).say fun z w hq hw => ?_) Sub.refl
  obtain ⟨A1, c1, rfl⟩ := hq
  exact ⟨_, ⟨A1, c1, x.A, x.c, x.B, x.d, rfl⟩, rfl, hw⟩
abbrev KpN : JO → Fa := fun _ => star []
theorem jopen_new {gd md : Nat} {limd : Int} (E : List Fa) : Fn Tryz.prog 42 #[.pointer (some ⟨gd, 0, none⟩), .string sj] (dB gd md limd :: dM md [] 0 :: dS [] :: E)
    (Ret (fun p : JO => p.xs = [] ∧ p.fs = [] ∧ p.ck = 0) (fun p => .tuple #[.pointer (some ⟨p.gj, 0, none⟩), .slice p.R p.xs.length p.c, .int .i64 0]) (fun p => jC p.gj gd sj (cellsA []) :: dB gd md limd :: dM md p.fs p.ck :: dS p.fs :: KpN p :: E)) := by
  refine (open_new (K := E) (g := gd) (m := md) (lim := limd) (s := sj)).say fun q w _ hw => ⟨⟨q.gj, q.R, q.c, [], [], 0⟩, ⟨rfl, rfl, rfl⟩, rfl, ?_⟩
  refine hw.sub ?_
  exact Sub.cons .here (Sub.cons .here (Sub.cons .here (Sub.cons .here (sub_star0 Sub.refl))))
abbrev KpC : JO → Fa := fun p => star [own 27 1 p.R p.xs.length p.c (sxV p.xs), star (sxO p.xs)]
def JcP (ls : List (List Int)) (p : JO) : Prop := p.xs.map Sx.l = ls ∧ (∀ x ∈ p.xs, x.ok) ∧ JSt ls p.fs p.ck 0
theorem jopen_cut {gd md ckd mm r : Nat} {limd : Int} {ls : List (List Int)} {f : DF} (hs : f.s = sj) (hl : f.l = (allL ls).take mm) (hmm : mm ≤ (allL ls).length) (hsy : f.sy ≤ f.l.length) (hW : Whole ls mm r) (hls : ∀ x ∈ ls, x.length ≤ 65536) (hlb : ∀ x ∈ ls, IsBytes x) (hc : cellsA ls ≤ 16000) (E : List Fa) :
    Fn Tryz.prog 42 #[.pointer (some ⟨gd, 0, none⟩), .string sj] (dB gd md limd :: dM md [f] ckd :: dS [f] :: E)
    (Ret (JcP (ls.take r)) (fun p : JO => .tuple #[.pointer (some ⟨p.gj, 0, none⟩), .slice p.R p.xs.length p.c, .int .i64 0]) (fun p => jC p.gj gd sj (cellsA (ls.take r)) :: dB gd md limd :: dM md p.fs p.ck :: dS p.fs :: KpC p :: E)) := by
  refine (open_cut (K := E) (g := gd) (m := md) (ck := ckd) (lim := limd) hs hl hmm hsy hW hls hlb hc).say fun o w ho hw => ?_
  obtain ⟨⟨h1, h2⟩, h3, h4, h5⟩ := ho
  have hfl : f.l.length = mm := by rw [hl, List.length_take]; omega
  have hlo := hW.lo
  have hfo : o.f.l.length = cellsA (ls.take r) * 64 := by rw [h4, allL_len]
  refine ⟨⟨o.gj, o.q.R, o.q.c, o.q.xs, [o.f], ckd⟩, ⟨h1, h2, .inr ⟨o.f, rfl, h3, h4, ?_, Nat.zero_le _⟩⟩, rfl, ?_⟩
  · rw [h5, hfo]
    split <;> omega
  · have h6 : Sep w (o.q.row :: o.q.st :: jC o.gj gd sj (cellsA (ls.take r)) :: dB gd md limd :: dM md [o.f] ckd :: dS [o.f] :: E) := hw.sub (by ((repeat (first | exact Sub.refl | exact Sub.nil | (apply Sub.cons; (repeat (first | exact Pick.here | apply Pick.there)); show Sub _ _) | apply Sub.skip)); first | done | fail))
    have h7 := star_in (G := [o.q.row, o.q.st]) w h6
    exact h7.sub (by ((repeat (first | exact Sub.refl | exact Sub.nil | (apply Sub.cons; (repeat (first | exact Pick.here | apply Pick.there)); show Sub _ _) | apply Sub.skip)); first | done | fail))
theorem kpc_row (p : JO) : Vw [KpC p] (fun w => Reads w 1 p.R p.xs.length (sxV p.xs)) := fun w hw => by
  have h1 := star_out w hw
  exact Vw.of_own (e := 27) .here w h1
theorem kpc_rd {ls : List (List Int)} {p : JO} (hp : JcP ls p) {j : Nat} {x : Sx} (hx : p.xs[j]? = some x) (hlen : x.l.length ≤ 65536) : Rd [KpC p] x.A x.l.length x.c x.l := by
  obtain ⟨h1, h2, h3⟩ := hp
  have hm := List.mem_of_getElem? hx
  obtain ⟨⟨k1, k2⟩, k3, k4⟩ := h2 x hm
  refine ⟨fun w hw => ?_, k1, by omega, k2, rfl, k4⟩
  have h4 := star_out w hw
  have h5 : Sep w [star (sxO p.xs)] := h4.tl
  have h6 := kstar_get (f := x.fa) (G := sxO p.xs) (L := [star (sxO p.xs)]) .here (List.mem_map.2 ⟨x, hm, rfl⟩) w h5
  exact Reads.of_own (own_PK h6)
end Go.Proofs.YtocaabnbmcpjmaaGreat
/- Package bucket: Fits, Get, Rules; the nil book. -/
namespace Go.Proofs.YtocaabnbmcpjmaaGreat
open Go.RowKit Go.MapKept
attribute [local irreducible] Go.Calls Go.Exit.then Go.Exit.inBlock Go.bodyPost Go.Code.wp Go.wpList
attribute [local irreducible] hashL ofId
abbrev bzL : List Value := [.int .u64 0, .slice none 0 0, .int .i64 0, .int .u8 0, .int .u8 0, .int .u8 0, .int .u8 0, .int .u8 0, .int .u8 0, .int .u8 0, .int .u8 0, .int .u8 0, .int .u8 0, .int .u8 0, .int .u8 0, .int .u8 0, .int .u8 0, .int .u8 0, .int .u8 0, .bool false]
theorem nth_Gh {φ : Prop} (h : φ := by (first | rfl | first | exact bkC_n0 | exact bkC_n1 | exact bkC_n2 | exact bkC_n19' | exact tc_n0 | exact tc_n1)) : φ := h
theorem mid_Gh {φ : Prop} (h : φ := by (first | first | exact boC_mt | exact boC_mr | exact bkC_mid | exact Ta.mid _ | exact tc_mid | exact Mid.all | exact Mid.all | exact Mid.head)) : φ := h
theorem sz_Gh {φ : Prop} (h : φ := by (first | rfl | ((try simp only [bkC_len tc_len, tc_len, BK.len, bytes_length, Id.len]); (first | done | rfl); first | done | fail))) : φ := h
theorem one_Gh {φ : Prop} (h : φ := by (first | assumption | exact first | exact BK.one _ | exact bkC_one tc_one | exact tc_one | exact Ta.one _ | exact Rl.one _ | exact one_bytes _ | (simp only [List.mem_cons, List.not_mem_nil, or_false, forall_eq_or_imp, forall_eq]; decide) | exact one_bytes _ | (intro v hv; (repeat (rcases List.mem_cons.1 hv with rfl | hv; rfl)); cases hv))) : φ := h
theorem set_Gh {φ : Prop} (h : φ := by (first | (first | exact tc_set0 | exact bkC_set19 tc_len) | ((repeat (first | exact SetAt.here | apply SetAt.there)); first | done | fail))) : φ := h
theorem cl_Gh {φ : Prop} (h : φ := by first | rfl | exact .t | exact .f | exact .t (by omega) | exact .f (by omega) | exact .u | exact .i (by (first | exact .t (by omega) | exact .f (by omega) | exact .u | exact .i (by omega) | exact .v (by omega) | exact .b (by omega) | exact .w | rfl | omega)) | exact .v (by omega) | exact .b (by omega) | exact .q (by omega) | exact .w | exact .b (by exact at_) rfl (by exact nth_Gh) | exact .w (by exact at_) rfl rfl (by exact sz_Gh) | exact .s (by exact at_) (by exact mid_Gh) rfl rfl (by exact sz_Gh) | exact .z rfl rfl ⟨by kernel_rfl⟩ | exact .b rfl rfl ⟨by kernel_rfl⟩ | exact .a rfl rfl ⟨by kernel_rfl⟩ | exact .o rfl | exact .s | exact .n | exact .p rfl | exact .q rfl | exact .c rfl | exact .d rfl | exact .n rfl rfl (by omega) | exact .a rfl rfl (by omega) | exact .p rfl rfl (by omega) (by omega) | exact .y rfl rfl (by omega) (by omega) | exact .o (by exact at_) (by omega) rfl (by exact nth_Gh) | exact .m (by exact at_) (by omega) (by exact mid_Gh) rfl rfl (by exact sz_Gh) | exact .mlen (by exact at_) rfl | exact .t (by exact at_) rfl rfl (by first | exact True.intro | rfl) (by assumption) | exact .f (by exact at_) rfl rfl (by first | exact True.intro | rfl) (by assumption) rfl | exact .t1 (by exact at_) rfl rfl (by first | exact True.intro | rfl) (by assumption) | exact .f1 (by exact at_) rfl rfl (by first | exact True.intro | rfl) (by assumption) rfl | exact .r rfl rfl (by omega) (by omega) (by exact nth_Gh) rfl | exact .s rfl (by omega) (by assumption) | exact at_ | assumption | exact .r rfl rfl | exact .h rfl rfl rfl (by omega) | exact .l rfl rfl rfl (by omega) (by omega) | exact .g rfl rfl rfl rfl (by omega) (by omega) | exact .h rfl rfl (toN_ (by omega)) (by omega) | exact .l rfl rfl (toN_ (by omega)) (by omega) (by omega) | exact .g rfl rfl (toN_ (by omega)) (toN_ (by omega)) (by omega) (by omega) | exact .o (by decide) | exact .f (by decide) | exact .n (by omega) (by first | decide | (show _ ≤ ((64 : Nat) : Int); omega)) | (constructor; (repeat (first | exact .t (by omega) | exact .f (by omega) | exact .u | exact .i (by omega) | exact .v (by omega) | exact .b (by omega) | exact .w | rfl | omega)); first | done | fail) | omega | (show _ ≤ ((64 : Nat) : Int); omega)) : φ := h
theorem pv_Gh {φ : Prop} (h : φ := by constructor; (repeat exact cl_Gh); first | done | fail) : φ := h
theorem su_Gh {φ ψ : Prop} (k : ψ) (h : Hide ψ → φ := by (intro k; (first | refine sl_pu (PuI.sep (by exact pv_Gh)) rfl ?_ | refine sl_yes rfl rfl ?_ | refine sl_no rfl rfl rfl ?_ | refine sl_off rfl rfl rfl ?_ | (fail)); exact k.out)) : φ := h ⟨k⟩
theorem rq_Gh {φ ψ : Prop} (k : ψ) (h : Hide ψ → φ := by (intro k; (first | refine wq_pu (PuI.sep (by exact pv_Gh)) rfl ?_ | refine wq_yes rfl rfl ?_ | refine wq_no rfl rfl rfl ?_ | refine wq_off rfl rfl rfl ?_ | (fail)); exact k.out)) : φ := h ⟨k⟩
theorem sto_Gh {φ ψ : Prop} (k : ψ) (h : Hide ψ → φ := by (intro k; (first | refine sl_store rfl (by exact pick_) rfl rfl (by kernel_rfl) (by exact set_Gh) ?_ | refine sl_store_whole rfl (by exact pick_) rfl (by exact sz_Gh) (by exact sz_Gh) (by exact one_Gh) ?_); exact k.out)) : φ := h ⟨k⟩
theorem go_Gh {φ ψ : Prop} (k : ψ) (h : Hide ψ → φ := by (intro k; (repeat (first | refine su_Gh ?_ | refine so_ ?_ | refine sto_Gh ?_)); exact k.out)) : φ := h ⟨k⟩
set_option maxRecDepth 100000 in
set_option maxHeartbeats 4000000 in
theorem fits_ok {K : List Fa} {g m ck : Nat} {t : Ta} {r : Rl} {fs : List BK} {now : Int} (hB : At (bB g t r m) K) (hM : At (bM m fs ck) K) (hw : 0 ≤ r.w) (h : 0 ≤ now ∧ now ≤ 18446744073709551615) :
    Fn Tryz.prog 50 #[.pointer (some ⟨g, 0, none⟩), .int .u64 now] K (Ret (fun _ : Unit => True) (fun _ => .int .i64 (fitsE r fs now)) (fun _ => K)) := by
  refine fn_enter Tryz.func50 rfl _ Tryz.ntmps50 (by simp) [(0, .pointer (some ⟨g, 0, none⟩)), (1, .int .u64 now)] (args_of (by simp)) ?_
  by_cases h1 : 1099511627776 < now
  · rw [show fitsE r fs now = 15 by unfold fitsE; rw [if_pos h1]]
    refine go_Gh ?_
    exact se_ret1 () trivial rfl rfl (by exact sub_)
  have hml : ((fs.map BM.ent).length : Int) = fs.length := by rw [List.length_map]
  cases hf : bfind fs (stN r.w now) with
  | none =>
    have hno := bno hf
    rw [show fitsE r fs now = if fs.length = 32 then 5 else if r.mx ≤ 0 then 18 else 0 by unfold fitsE; rw [if_neg h1, hf]]
    refine go_Gh ?_
    refine sc_join (α := Nat) (fun g5 => [(0, .pointer (some ⟨g, 0, none⟩)), (5, .pointer (some ⟨g5, 0, none⟩)), (6, .bool false)]) (fun g5 => blk g5 70 bzL :: K) (fun _ => True) ?_ ?_
    · refine sd_drawn (fun W => AllP W [bB g t r m, bM m fs ck]) (fun _ => true) (by kernel_rfl) 17 rfl ?_
      refine sd_yes2 0 rfl (by exact gd_) (by kernel_rfl) (by kernel_rfl) (by exact nop_) (PuI.all (by exact pv_Gh)) rfl (fun w hw => all_ hw) ?_
      refine sd_yes2 1 rfl (by exact gd_) (by kernel_rfl) (by kernel_rfl) (by exact nop_) (PuI.all (by exact pv_Gh)) rfl (fun w hw => all_ hw) ?_
      refine sd_yes2 2 rfl (by exact gd_) (by kernel_rfl) (by kernel_rfl) (by exact nop_) (PuI.all (by exact pv_Gh)) rfl (fun w hw => all_ hw) ?_
      refine sd_yes2 3 rfl (by exact gd_) (by kernel_rfl) (by kernel_rfl) (by exact nop_) (PuI.all (by exact pv_Gh)) rfl (fun w hw => all_ hw) ?_
      refine sd_yes2 4 rfl (by exact gd_) (by kernel_rfl) (by kernel_rfl) (by exact nop_) (PuI.all (by exact pv_Gh)) rfl (fun w hw => all_ hw) ?_
      refine sd_yes2 5 rfl (by exact gd_) (by kernel_rfl) (by kernel_rfl) (by exact nop_) (PuI.all (by exact pv_Gh)) rfl (fun w hw => all_ hw) ?_
      refine sd_yes2 6 rfl (by exact gd_) (by kernel_rfl) (by kernel_rfl) (by exact nop_) (PuI.all (by exact pv_Gh)) rfl (fun w hw => all_ hw) ?_
      refine sd_yes2 7 rfl (by exact gd_) (by kernel_rfl) (by kernel_rfl) (by exact nop_) (PuI.all (by exact pv_Gh)) rfl (fun w hw => all_ hw) ?_
      refine sd_yes2 8 rfl (by exact gd_) (by kernel_rfl) (by kernel_rfl) (by exact nop_) (PuI.all (by exact pv_Gh)) rfl (fun w hw => all_ hw) ?_
      refine sd_two 9 14 (by kernel_rfl) (sa_sl 9 rfl ?_) (sa_sl 14 rfl ?_)
      · refine sl_call rfl rfl (by kernel_rfl) rfl (by exact sub_) (start_ok hw h) ?_
        rintro _ -
        refine sl_nil ?_
        refine se_sd (fun _ w hw => all_ hw) ?_
        refine sd_two 10 14 (by kernel_rfl) (sa_sl 10 rfl ?_) (sa_sl 14 rfl ?_)
        · repeat refine su_Gh ?_
          refine sl_nil ?_
          refine se_sd (fun _ w hw => all_ hw) ?_
          refine sd_yes2 11 rfl (by exact gd_) (by kernel_rfl) (by kernel_rfl) (by exact nop_) (PuI.all (by exact pv_Gh)) rfl (fun w hw => all_ hw) ?_
          refine sd_yes2 12 rfl (by exact gd_) (by kernel_rfl) (by kernel_rfl) (by exact nop_) (PuI.all (by exact pv_Gh)) rfl (fun w hw => all_ hw) ?_
          refine sd_yes2 13 rfl (by exact gd_) (by kernel_rfl) (by kernel_rfl) (by exact nop_) (PuI.all (by exact pv_Gh)) rfl (fun w hw => all_ hw) ?_
          refine sd_one 14 (by kernel_rfl) (sa_sl 14 rfl ?_)
          refine sl_alloc rfl rfl rfl ?_; intro g5
          refine sl_nil ?_
          refine se_sd (fun _ w hw => all_ hw) ?_
          refine sd_one 15 (by kernel_rfl) (sa_sl 15 rfl ?_)
          refine sto_Gh ?_
          refine sl_nil ?_
          refine se_sd (fun _ w hw => all_ hw) ?_
          refine sd_yes2 16 rfl (by exact gd_) (by kernel_rfl) (by kernel_rfl) (by exact nop_) (PuI.all (by exact pv_Gh)) rfl (fun w hw => all_ hw) ?_
          refine sd_done (by kernel_rfl) ?_
          exact se_mid g5 (by exact has_) (by exact sub_) trivial
        · refine sl_alloc rfl rfl rfl ?_; intro g5
          refine sl_nil ?_
          refine se_sd (fun _ w hw => all_ hw) ?_
          refine sd_one 10 (by kernel_rfl) (sa_sl 10 rfl ?_)
          repeat refine su_Gh ?_
          refine sl_nil ?_
          refine se_sd (fun _ w hw => all_ hw) ?_
          refine sd_yes2 11 rfl (by exact gd_) (by kernel_rfl) (by kernel_rfl) (by exact nop_) (PuI.all (by exact pv_Gh)) rfl (fun w hw => all_ hw) ?_
          refine sd_yes2 12 rfl (by exact gd_) (by kernel_rfl) (by kernel_rfl) (by exact nop_) (PuI.all (by exact pv_Gh)) rfl (fun w hw => all_ hw) ?_
          refine sd_yes2 13 rfl (by exact gd_) (by kernel_rfl) (by kernel_rfl) (by exact nop_) (PuI.all (by exact pv_Gh)) rfl (fun w hw => all_ hw) ?_
          refine sd_one 15 (by kernel_rfl) (sa_sl 15 rfl ?_)
          refine sto_Gh ?_
          refine sl_nil ?_
          refine se_sd (fun _ w hw => all_ hw) ?_
          refine sd_yes2 16 rfl (by exact gd_) (by kernel_rfl) (by kernel_rfl) (by exact nop_) (PuI.all (by exact pv_Gh)) rfl (fun w hw => all_ hw) ?_
          refine sd_done (by kernel_rfl) ?_
          exact se_mid g5 (by exact has_) (by exact sub_) trivial
      · refine sl_alloc rfl rfl rfl ?_; intro g5
        refine sl_nil ?_
        refine se_sd (fun _ w hw => all_ hw) ?_
        refine sd_one 9 (by kernel_rfl) (sa_sl 9 rfl ?_)
        refine sl_call rfl rfl (by kernel_rfl) rfl (by exact sub_) (start_ok hw h) ?_
        rintro _ -
        refine sl_nil ?_
        refine se_sd (fun _ w hw => all_ hw) ?_
        refine sd_one 10 (by kernel_rfl) (sa_sl 10 rfl ?_)
        repeat refine su_Gh ?_
        refine sl_nil ?_
        refine se_sd (fun _ w hw => all_ hw) ?_
        refine sd_yes2 11 rfl (by exact gd_) (by kernel_rfl) (by kernel_rfl) (by exact nop_) (PuI.all (by exact pv_Gh)) rfl (fun w hw => all_ hw) ?_
        refine sd_yes2 12 rfl (by exact gd_) (by kernel_rfl) (by kernel_rfl) (by exact nop_) (PuI.all (by exact pv_Gh)) rfl (fun w hw => all_ hw) ?_
        refine sd_yes2 13 rfl (by exact gd_) (by kernel_rfl) (by kernel_rfl) (by exact nop_) (PuI.all (by exact pv_Gh)) rfl (fun w hw => all_ hw) ?_
        refine sd_one 15 (by kernel_rfl) (sa_sl 15 rfl ?_)
        refine sto_Gh ?_
        refine sl_nil ?_
        refine se_sd (fun _ w hw => all_ hw) ?_
        refine sd_yes2 16 rfl (by exact gd_) (by kernel_rfl) (by kernel_rfl) (by exact nop_) (PuI.all (by exact pv_Gh)) rfl (fun w hw => all_ hw) ?_
        refine sd_done (by kernel_rfl) ?_
        exact se_mid g5 (by exact has_) (by exact sub_) trivial
    rintro g5 -
    by_cases h2 : fs.length = 32
    · rw [if_pos h2]
      have h3 : ((fs.map BM.ent).length : Int) = 32 := by rw [hml, h2]; rfl
      refine go_Gh ?_
      exact se_ret1 () trivial rfl rfl (by exact sub_)
    rw [if_neg h2]
    have h3 : ((fs.map BM.ent).length : Int) ≠ 32 := by rw [hml]; omega
    by_cases h4 : r.mx ≤ 0
    · rw [if_pos h4]
      refine go_Gh ?_
      ((refine sq_region (by kernel_rfl) (by kernel_rfl) ?_; (repeat refine rq_Gh ?_); refine sq_end ?_))
      refine go_Gh ?_
      exact se_ret1 () trivial rfl rfl (by exact sub_)
    · rw [if_neg h4]
      refine go_Gh ?_
      ((refine sq_region (by kernel_rfl) (by kernel_rfl) ?_; (repeat refine rq_Gh ?_); refine sq_end ?_))
      refine go_Gh ?_
      exact se_ret1 () trivial rfl rfl (by exact sub_)
  | some b =>
    obtain ⟨hb, hbs⟩ := bfind_some hf
    have hg := bget hb
    rw [hbs] at hg
    rw [show fitsE r fs now = if b.cl then 16 else if r.mx ≤ b.m then 18 else 0 by unfold fitsE; rw [if_neg h1, hf]]
    refine go_Gh ?_
    refine sc_join (α := Nat) (fun g5 => [(0, .pointer (some ⟨g, 0, none⟩)), (5, .pointer (some ⟨g5, 0, none⟩)), (6, .bool true)]) (fun g5 => blk g5 70 (bkC (stN r.w now) (tc b.A b.l.length b.c b.m b.k) b.cl) :: K) (fun _ => True) ?_ ?_
    · refine sd_drawn (fun W => AllP W [bB g t r m, bM m fs ck]) (fun _ => true) (by kernel_rfl) 17 rfl ?_
      refine sd_yes2 0 rfl (by exact gd_) (by kernel_rfl) (by kernel_rfl) (by exact nop_) (PuI.all (by exact pv_Gh)) rfl (fun w hw => all_ hw) ?_
      refine sd_yes2 1 rfl (by exact gd_) (by kernel_rfl) (by kernel_rfl) (by exact nop_) (PuI.all (by exact pv_Gh)) rfl (fun w hw => all_ hw) ?_
      refine sd_yes2 2 rfl (by exact gd_) (by kernel_rfl) (by kernel_rfl) (by exact nop_) (PuI.all (by exact pv_Gh)) rfl (fun w hw => all_ hw) ?_
      refine sd_yes2 3 rfl (by exact gd_) (by kernel_rfl) (by kernel_rfl) (by exact nop_) (PuI.all (by exact pv_Gh)) rfl (fun w hw => all_ hw) ?_
      refine sd_yes2 4 rfl (by exact gd_) (by kernel_rfl) (by kernel_rfl) (by exact nop_) (PuI.all (by exact pv_Gh)) rfl (fun w hw => all_ hw) ?_
      refine sd_yes2 5 rfl (by exact gd_) (by kernel_rfl) (by kernel_rfl) (by exact nop_) (PuI.all (by exact pv_Gh)) rfl (fun w hw => all_ hw) ?_
      refine sd_yes2 6 rfl (by exact gd_) (by kernel_rfl) (by kernel_rfl) (by exact nop_) (PuI.all (by exact pv_Gh)) rfl (fun w hw => all_ hw) ?_
      refine sd_yes2 7 rfl (by exact gd_) (by kernel_rfl) (by kernel_rfl) (by exact nop_) (PuI.all (by exact pv_Gh)) rfl (fun w hw => all_ hw) ?_
      refine sd_yes2 8 rfl (by exact gd_) (by kernel_rfl) (by kernel_rfl) (by exact nop_) (PuI.all (by exact pv_Gh)) rfl (fun w hw => all_ hw) ?_
      refine sd_two 9 14 (by kernel_rfl) (sa_sl 9 rfl ?_) (sa_sl 14 rfl ?_)
      · refine sl_call rfl rfl (by kernel_rfl) rfl (by exact sub_) (start_ok hw h) ?_
        rintro _ -
        refine sl_nil ?_
        refine se_sd (fun _ w hw => all_ hw) ?_
        refine sd_two 10 14 (by kernel_rfl) (sa_sl 10 rfl ?_) (sa_sl 14 rfl ?_)
        · repeat refine su_Gh ?_
          refine sl_nil ?_
          refine se_sd (fun _ w hw => all_ hw) ?_
          refine sd_yes2 11 rfl (by exact gd_) (by kernel_rfl) (by kernel_rfl) (by exact nop_) (PuI.all (by exact pv_Gh)) rfl (fun w hw => all_ hw) ?_
          refine sd_yes2 12 rfl (by exact gd_) (by kernel_rfl) (by kernel_rfl) (by exact nop_) (PuI.all (by exact pv_Gh)) rfl (fun w hw => all_ hw) ?_
          refine sd_yes2 13 rfl (by exact gd_) (by kernel_rfl) (by kernel_rfl) (by exact nop_) (PuI.all (by exact pv_Gh)) rfl (fun w hw => all_ hw) ?_
          refine sd_one 14 (by kernel_rfl) (sa_sl 14 rfl ?_)
          refine sl_alloc rfl rfl rfl ?_; intro g5
          refine sl_nil ?_
          refine se_sd (fun _ w hw => all_ hw) ?_
          refine sd_one 15 (by kernel_rfl) (sa_sl 15 rfl ?_)
          refine sto_Gh ?_
          refine sl_nil ?_
          refine se_sd (fun _ w hw => all_ hw) ?_
          refine sd_yes2 16 rfl (by exact gd_) (by kernel_rfl) (by kernel_rfl) (by exact nop_) (PuI.all (by exact pv_Gh)) rfl (fun w hw => all_ hw) ?_
          refine sd_done (by kernel_rfl) ?_
          exact se_mid g5 (by exact has_) (by exact sub_) trivial
        · refine sl_alloc rfl rfl rfl ?_; intro g5
          refine sl_nil ?_
          refine se_sd (fun _ w hw => all_ hw) ?_
          refine sd_one 10 (by kernel_rfl) (sa_sl 10 rfl ?_)
          repeat refine su_Gh ?_
          refine sl_nil ?_
          refine se_sd (fun _ w hw => all_ hw) ?_
          refine sd_yes2 11 rfl (by exact gd_) (by kernel_rfl) (by kernel_rfl) (by exact nop_) (PuI.all (by exact pv_Gh)) rfl (fun w hw => all_ hw) ?_
          refine sd_yes2 12 rfl (by exact gd_) (by kernel_rfl) (by kernel_rfl) (by exact nop_) (PuI.all (by exact pv_Gh)) rfl (fun w hw => all_ hw) ?_
          refine sd_yes2 13 rfl (by exact gd_) (by kernel_rfl) (by kernel_rfl) (by exact nop_) (PuI.all (by exact pv_Gh)) rfl (fun w hw => all_ hw) ?_
          refine sd_one 15 (by kernel_rfl) (sa_sl 15 rfl ?_)
          refine sto_Gh ?_
          refine sl_nil ?_
          refine se_sd (fun _ w hw => all_ hw) ?_
          refine sd_yes2 16 rfl (by exact gd_) (by kernel_rfl) (by kernel_rfl) (by exact nop_) (PuI.all (by exact pv_Gh)) rfl (fun w hw => all_ hw) ?_
          refine sd_done (by kernel_rfl) ?_
          exact se_mid g5 (by exact has_) (by exact sub_) trivial
      · refine sl_alloc rfl rfl rfl ?_; intro g5
        refine sl_nil ?_
        refine se_sd (fun _ w hw => all_ hw) ?_
        refine sd_one 9 (by kernel_rfl) (sa_sl 9 rfl ?_)
        refine sl_call rfl rfl (by kernel_rfl) rfl (by exact sub_) (start_ok hw h) ?_
        rintro _ -
        refine sl_nil ?_
        refine se_sd (fun _ w hw => all_ hw) ?_
        refine sd_one 10 (by kernel_rfl) (sa_sl 10 rfl ?_)
        repeat refine su_Gh ?_
        refine sl_nil ?_
        refine se_sd (fun _ w hw => all_ hw) ?_
        refine sd_yes2 11 rfl (by exact gd_) (by kernel_rfl) (by kernel_rfl) (by exact nop_) (PuI.all (by exact pv_Gh)) rfl (fun w hw => all_ hw) ?_
        refine sd_yes2 12 rfl (by exact gd_) (by kernel_rfl) (by kernel_rfl) (by exact nop_) (PuI.all (by exact pv_Gh)) rfl (fun w hw => all_ hw) ?_
        refine sd_yes2 13 rfl (by exact gd_) (by kernel_rfl) (by kernel_rfl) (by exact nop_) (PuI.all (by exact pv_Gh)) rfl (fun w hw => all_ hw) ?_
        refine sd_one 15 (by kernel_rfl) (sa_sl 15 rfl ?_)
        refine sto_Gh ?_
        refine sl_nil ?_
        refine se_sd (fun _ w hw => all_ hw) ?_
        refine sd_yes2 16 rfl (by exact gd_) (by kernel_rfl) (by kernel_rfl) (by exact nop_) (PuI.all (by exact pv_Gh)) rfl (fun w hw => all_ hw) ?_
        refine sd_done (by kernel_rfl) ?_
        exact se_mid g5 (by exact has_) (by exact sub_) trivial
    rintro g5 -
    cases hc : b.cl with
    | true =>
      rw [if_pos rfl]
      refine go_Gh ?_
      exact se_ret1 () trivial rfl rfl (by exact sub_)
    | false =>
      rw [if_neg (by decide)]
      by_cases h4 : r.mx ≤ b.m
      · rw [if_pos h4]
        refine go_Gh ?_
        ((refine sq_region (by kernel_rfl) (by kernel_rfl) ?_; (repeat refine rq_Gh ?_); refine sq_end ?_))
        refine go_Gh ?_
        exact se_ret1 () trivial rfl rfl (by exact sub_)
      · rw [if_neg h4]
        refine go_Gh ?_
        ((refine sq_region (by kernel_rfl) (by kernel_rfl) ?_; (repeat refine rq_Gh ?_); refine sq_end ?_))
        refine go_Gh ?_
        exact se_ret1 () trivial rfl rfl (by exact sub_)
end Go.Proofs.YtocaabnbmcpjmaaGreat
