/- Several texts of one claim, one behind the other. -/
import Derived.Test.YtocaabnbmcpjmaaGreatB18
import Derived.Test.YtocaabnbmcpjmaaGreatB08
import Derived.Test.YtocaabnbmcpjmaaGreatB15
import Derived.Test.YtocaabnbmcpjmaaGreatB10
import Derived.Test.YtocaabnbmcpjmaaGreatB01
import Derived.Test.YtocaabnbmcpjmaaGreatB05
import Derived.Laws.Cover3
import Derived.Test.YtocaabnbmcpjmaaGreatB07
set_option linter.unusedVariables false
set_option linter.unusedSimpArgs false
set_option maxRecDepth 100000
set_option maxHeartbeats 16000000
namespace Go.Proofs.YtocaabnbmcpjmaaGreat
variable {φ ψ : Prop}
section
open Go.RowKit Go.MapKept
attribute [local irreducible] Go.Calls Go.Exit.then Go.Exit.inBlock Go.bodyPost Go.Code.wp Go.wpList takeL recordL hashL recL allL decR
section
def rejE (q : StM) (id : Id) (c : Int) : Int := if (wfind q.ws id).isSome then (if c = 0 ∨ c = 30 then 10 else 0) else 19
def wdel (ws : List Wt) (id : Id) : List Wt := ws.eraseP (fun w => decide (w.id.l = id.l))
theorem wfind_split {ws : List Wt} {id : Id} {w : Wt} (h : wfind ws id = some w) : w.id = id ∧ ∃ X Y, ws = X ++ w :: Y ∧ wdel ws id = X ++ Y := by
 obtain ⟨h1, X, Y, h2, h3⟩ := List.find?_eq_some_iff_append.1 h
 refine ⟨(wfind_some h).2, X, Y, h2, ?_⟩
 unfold wdel
 rw [h2, List.eraseP_append_right _ (fun b hb => by simpa using h3 b hb), List.eraseP_cons_of_pos (p := fun w : Wt => decide (w.id.l = id.l)) h1]
theorem setI_len {ss : List Seen} {id : Id} {c : Int} {hc : -9223372036854775808 ≤ c ∧ c ≤ 9223372036854775807} : (setI ss id c hc).2.length = ss.length := by
 unfold setI
 split
 ·exact List.length_set
 ·rfl
theorem set_okL {K : List Fa} {x c : Nat} {A : Option Addr} {ss : List Seen} {lim : Int} (id : Id) {co : Int} (hc : -9223372036854775808 ≤ co ∧ co ≤ 9223372036854775807) (hs : Srt ss) (hn : ss.length ≤ 1000000) :
  Fn Tryz.prog 109 #[.pointer (some ⟨x, 0, none⟩), id.v, .int .i64 co] (ixb x A ss.length c lim :: ixo A c ss :: K) (Ret (fun _ : Option Addr × Nat => True) (fun _ => .int .i64 (setI ss id co hc).1) (fun p => ixb x p.1 (setI ss id co hc).2.length p.2 lim :: ixo p.1 p.2 (setI ss id co hc).2 :: K)) :=
 (set_ok id hc hs hn).say fun p w _ hw => ⟨p, trivial, rfl, by rw [setI_len]; exact hw⟩
namespace pSky
theorem nthx_ (h : φ := by first | rfl | exact rpC_n16 | exact rpC_n17 | exact rpC_n18 | exact stC9_n9) : φ := h
theorem midx_ (h : φ := by first | exact rpC_id | exact stC9_mid | exact stC9_ci | exact Mid.all) : φ := h
theorem szx_ (h : φ := by ((try simp only [Wt.cells, rpC_len, bytes_length, Id.len, Seen.len]); (first | done | rfl); first | done | fail)) : φ := h
theorem onex_ (h : φ := by first | exact one_bytes _ | exact rpC_one rfl rfl | exact Seen.one _) : φ := h
theorem setx_ (h : φ := by first | exact rpC_set16 | exact rpC_set17 | exact rpC_set18) : φ := h
end pSky
open pSky
theorem sreject_ok {K : List Fa} {g : Nat} {t : Ta} {r : Rl} {lim c : Int} {q : StM} {id : Id} (hc : -9223372036854775808 ≤ c ∧ c ≤ 9223372036854775807) (hs : Srt q.ss) (hn : q.ss.length ≤ 1000000) :
  Fn Tryz.prog 69 #[.pointer (some ⟨g, 0, none⟩), id.v, .int .i64 c] (sF g t r lim q K)
   (Ret (fun z : Int × StM => z.1 = rejE q id c ∧ (z.1 ≠ 0 → z.2 = q) ∧ (z.1 = 0 → ∃ A1 c1, z.2 = { q with iA := A1, ic := c1, ss := (setI q.ss id c hc).2, ws := wdel q.ws id })) (fun z => .int .i64 z.1) (fun z => sF g t r lim z.2 K)) := by
 refine fe_ Tryz.func69 Tryz.ntmps69 [(0, .pointer (some ⟨g, 0, none⟩)), (1, id.v), (2, .int .i64 c)] ?_
 have hk := id.klaw
 cases hf : wfind q.ws id with
 | none =>
  have hno : MNo (q.ws.map WM.ent) id.v := kno (M := WM) (wfind_none hf)
  have he : rejE q id c = 19 := by unfold rejE; rw [hf]; rfl
  refine go_ ?_; refine bx_ ?_; intro g4; refine go_ ?_; refine dr_ [sB g t q.gj q.gi q.gb q.mw q.ms q.life, blk g4 47 (bytes id.l), wM q.mw q.ws q.cw] 12 ?_; refine y4_ 0 1 2 3 ?_; refine y4_ 4 5 6 7 ?_; refine wy_ 8 ?_; refine w1_ 9 ?_; refine al_ ?_; intro g7; refine v1_ 10 ?_; refine sto_ ?_; refine vy_ 11 ?_; refine wx_ ?_; refine go_ ?_; exact se_ret1 ((19, q) : Int × StM) ⟨he.symm, fun _ => rfl, fun h => by cases h⟩ rfl rfl sub_
 | some x =>
  obtain ⟨rfl, X, Y, hXY, hdel⟩ := wfind_split hf
  have hg : MGet (q.ws.map WM.ent) x.id.v (.agg x.cells.toArray) := kget (M := WM) (wfind_some hf).1
  refine go_ ?_; refine bx_ ?_; intro g4; refine go_ ?_; refine dr_ [sB g t q.gj q.gi q.gb q.mw q.ms q.life, blk g4 47 (bytes x.id.l), wM q.mw q.ws q.cw] 12 ?_; refine y4_ 0 1 2 3 ?_; refine y4_ 4 5 6 7 ?_; refine wy_ 8 ?_; refine w1_ 9 ?_; refine al_ ?_; intro g7; refine v1_ 10 ?_; refine sto_ ?_; refine vy_ 11 ?_; refine wx_ ?_
  by_cases h0 : c = 0
  ·have he : rejE q x.id c = 10 := by unfold rejE; rw [hf]; show (if c = 0 ∨ c = 30 then (10 : Int) else 0) = _; rw [if_pos (.inl h0)]
   refine go_ ?_; exact se_ret1 ((10, q) : Int × StM) ⟨he.symm, fun _ => rfl, fun h => by cases h⟩ rfl rfl sub_
  by_cases h30 : c = 30
  ·have he : rejE q x.id c = 10 := by unfold rejE; rw [hf]; show (if c = 0 ∨ c = 30 then (10 : Int) else 0) = _; rw [if_pos (.inr h30)]
   refine go_ ?_; exact se_ret1 ((10, q) : Int × StM) ⟨he.symm, fun _ => rfl, fun h => by cases h⟩ rfl rfl sub_
  have he : rejE q x.id c = 0 := by unfold rejE; rw [hf]; show (if c = 0 ∨ c = 30 then (10 : Int) else 0) = _; rw [if_neg (by omega)]
  refine go_ ?_; refine dr_ [sB g t q.gj q.gi q.gb q.mw q.ms q.life, blk g4 47 (bytes x.id.l)] 7 ?_; refine y4_ 0 1 2 3 ?_; refine y2_ 4 5 ?_; refine w1_ 6 ?_; refine slc_ rfl rfl (by exact Sub.cons pick_ (Sub.cons pick_ Sub.refl)) (set_okL (x := q.gi) (A := q.iA) (c := q.ic) (lim := lim) (ss := q.ss) x.id hc hs hn) ?_; rintro ⟨A1, c1⟩ -; refine vx_ ?_; dsimp only; refine go_ ?_; refine dr_ [sB g t q.gj q.gi q.gb q.mw q.ms q.life, blk g4 47 (bytes x.id.l)] 6 ?_; refine y4_ 0 1 2 3 ?_; refine wy_ 4 ?_; refine w1_ 5 ?_; refine sl_kdelK (M := WM) (X := X) (Y := Y) (f := x) rfl rfl (by rw [hXY]; exact pick_) rfl hk ?_; refine vx_ ?_; refine go_ ?_; refine se_subK (L' := wS (X ++ x :: Y) :: wM q.mw (X ++ Y) q.cw :: sB g t q.gj q.gi q.gb q.mw q.ms q.life :: ixb q.gi A1 (setI q.ss x.id c hc).2.length c1 lim :: ixo A1 c1 (setI q.ss x.id c hc).2 :: bB q.gb t r q.mb :: bM q.mb q.fs q.cb :: bS q.fs :: dMm q.ms q.sd q.cs :: dSs q.sd :: K) (by rw [← hXY]; exact sub_) ?_; refine se_ent (ks_del (M := WM)) ?_; exact se_ret1 ((0, { q with iA := A1, ic := c1, ss := (setI q.ss x.id c hc).2, ws := X ++ Y }) : Int × StM) ⟨he.symm, fun h => absurd rfl h, fun _ => ⟨A1, c1, by rw [hdel]⟩⟩ rfl rfl sub_
end
end
section
open Go.RowKit Go.MapKept
attribute [local irreducible] Go.Calls Go.Exit.then Go.Exit.inBlock Go.bodyPost Go.Code.wp Go.wpList takeL recordL hashL recL allL
section
theorem hasI_map {ss ss' : List Seen} (h : ss.map Seen.id = ss'.map Seen.id) (id : Id) : hasI ss id = hasI ss' id := by
 have e : ∀ l : List Seen, hasI l id = (l.map Seen.id).any (fun i => decide (cmpI i.l id.l = 0)) := fun l => by
  unfold hasI
  rw [List.any_map]
  rfl
 rw [e, e, h]
theorem setI_keeps {ss : List Seen} {id : Id} {c : Int} {hc : -9223372036854775808 ≤ c ∧ c ≤ 9223372036854775807} (hs : Srt ss) : Srt (setI ss id c hc).2 ∧ ∀ i, hasI (setI ss id c hc).2 i = hasI ss i := by
 unfold setI
 split
 ·rename_i hh
  obtain ⟨s, h1, h2⟩ := hasI_pos hs hh
  have hg : getI ss id = s := by unfold getI; rw [h1]; rfl
  rw [hg]
  refine ⟨srt_set hs h1 rfl, fun i => hasI_map ?_ i⟩
  apply List.ext_getElem?
  intro k; dsimp only; rw [List.map_set, List.getElem?_set]
  split
  ·rename_i e
   subst e; rw [List.getElem?_map, h1]
   have := (List.getElem?_eq_some_iff.1 h1).1
   rw [List.length_map, if_pos this]
   rfl
  ·rfl
 ·exact ⟨hs, fun _ => rfl⟩
structure SI (gj : Nat) (q : StM) : Prop where
 gj : q.gj = gj
 srt : Srt q.ss
 len : q.ss.length ≤ 300
 fs : q.fs = []
 ws : ∀ w ∈ q.ws, hasI q.ss w.id = true
 life : 0 ≤ q.life ∧ q.life < 281474976710656
theorem SI.no {gj : Nat} {q : StM} (h : SI gj q) {id : Id} (hh : hasI q.ss id = false) : wfind q.ws id = none := by
 cases hf : wfind q.ws id with
 | none => rfl
 | some w =>
  obtain ⟨h1, h2⟩ := wfind_some hf
  have := h.ws w h1
  rw [h2, hh] at this
  cases this
def RcOk : Rc → Prop
 | .acc id t _ _ => (id.length = 16 ∧ IsBytes id) ∧ 0 ≤ t ∧ t < 281474976710656
 | .com .. => False
 | .rej id c => (id.length = 16 ∧ IsBytes id) ∧ 0 ≤ c ∧ c ≤ 255
 | .shut s => 0 ≤ s ∧ s < 281474976710656
 | .life n => 0 ≤ n ∧ n < 281474976710656
def DOk (x : Int ⊕ (Rc × Nat)) : Prop := (∀ c, x = .inl c → c ≠ 0) ∧ ∀ r m, x = .inr (r, m) → RcOk r
theorem DOk.err {c : Int} (h : c ≠ 0) : DOk (.inl c) := ⟨fun _ e => by cases e; exact h, fun _ _ e => by cases e⟩
theorem DOk.ok {r : Rc} {m : Nat} (h : RcOk r) : DOk (.inr (r, m)) := ⟨fun _ e => (by cases e), fun _ _ e => by cases e; exact h⟩
namespace pSkz
theorem nthx_ (h : φ := by first | rfl | exact stC9_n9) : φ := h
theorem midx_ (h : φ := by first | exact stC9_mid | exact stC9_ci | exact Mid.all) : φ := h
theorem szx_ (h : φ := by ((try simp only [tc_len, bytes_length, Id.len]); (first | done | rfl); first | done | fail)) : φ := h
theorem onex_ (h : φ := by first | exact one_bytes _ | exact tc_one) : φ := h
end pSkz
open pSkz
theorem dRej_ok {K : List Fa} {g go g1 g2 : Nat} {t : Ta} {r : Rl} {lim c : Int} {q : StM} {id : Id} (hc : -9223372036854775808 ≤ c ∧ c ≤ 9223372036854775807) (hs : Srt q.ss) (hn : q.ss.length ≤ 1000000) :
  Fn Tryz.prog 93 #[.pointer (some ⟨go, 0, none⟩), .pointer (some ⟨g1, 0, none⟩), .pointer (some ⟨g2, 0, none⟩)] (blk g1 47 (bytes id.l) :: blk g2 42 [.int .i64 c] :: goB go g :: sF g t r lim q K)
   (Ret (fun z : Int × StM => z.1 = rejE q id c ∧ (z.1 ≠ 0 → z.2 = q) ∧ (z.1 = 0 → ∃ A1 c1, z.2 = { q with iA := A1, ic := c1, ss := (setI q.ss id c hc).2, ws := wdel q.ws id })) (fun z => .int .i64 z.1) (fun z => sF g t r lim z.2 K)) := by
 refine fe_ Tryz.func93 Tryz.ntmps93 [(0, .pointer (some ⟨go, 0, none⟩)), (1, .pointer (some ⟨g1, 0, none⟩)), (2, .pointer (some ⟨g2, 0, none⟩))] ?_; refine go_ ?_; refine slc_ rfl rfl (by exact Sub.skip (Sub.skip (Sub.skip Sub.refl))) (sreject_ok (g := g) (t := t) (r := r) (lim := lim) (id := id) hc hs hn) ?_; rintro z hz; refine go_ ?_; exact se_ret1 z hz rfl rfl sub_
theorem addI_yes {lim : Int} {ss : List Seen} {s : Seen} (h : (addI lim ss s).1 = 0) : addI lim ss s = (0, insAt ss s) ∧ hasI ss s.id = false ∧ (ss.length : Int) < lim := by
 unfold addI at h ⊢
 split at h
 ·cases h
 ·split at h
  ·cases h
  ·split at h
   ·cases h
   ·rename_i h1 h2 h3
    rw [if_neg h1, if_neg h2, if_neg h3]; exact ⟨rfl, by simpa using h2, by omega⟩
theorem SI.acc {gj : Nat} {q : StM} {lim tm : Int} {id : Id} {ht : 0 ≤ tm ∧ tm ≤ 18446744073709551615} {A1 : Option Addr} {c1 : Nat} {w : Wt} (hI : SI gj q) (hlm : lim ≤ 256) (hwid : w.id = id) (h : (addI lim q.ss ⟨id, tm, 30, ht, by decide⟩).1 = 0) : SI gj (q.acc lim ⟨id, tm, 30, ht, by decide⟩ A1 c1 w) := by
 obtain ⟨h1, h2, h3⟩ := addI_yes h
 refine ⟨hI.gj, ?_, ?_, hI.fs, ?_, hI.life⟩
 ·show Srt (addI lim q.ss _).2
  rw [h1]; exact srt_ins hI.srt h2
 ·show (addI lim q.ss _).2.length ≤ 300
  rw [h1]
  show (insAt q.ss _).length ≤ 300
  rw [insAt_len]; omega
 ·show ∀ x ∈ (if (addI lim q.ss _).1 = 0 then q.ws ++ [w] else q.ws), hasI (addI lim q.ss _).2 x.id = true
  rw [if_pos h, h1]; intro x hx
  show hasI (insAt q.ss _) x.id = true
  rw [has_ins]
  rcases List.mem_append.1 hx with e | e
  ·rw [hI.ws x e]; rfl
  ·rw [List.mem_singleton] at e
   subst e; rw [hwid]
   simp [cmpI_self]
theorem SI.rej {gj : Nat} {q : StM} {id : Id} {c : Int} {hc : -9223372036854775808 ≤ c ∧ c ≤ 9223372036854775807} {A1 : Option Addr} {c1 : Nat} (hI : SI gj q) : SI gj { q with iA := A1, ic := c1, ss := (setI q.ss id c hc).2, ws := wdel q.ws id } := by
 obtain ⟨h1, h2⟩ := setI_keeps (id := id) (c := c) (hc := hc) hI.srt
 refine ⟨hI.gj, h1, by rw [setI_len]; exact hI.len, hI.fs, fun w hw => ?_, hI.life⟩
 rw [h2]; exact hI.ws w (List.mem_of_mem_eraseP hw)
end
attribute [local irreducible] decR
section
def rejX (q : StM) (id : Id) (c : Int) : Int := if (wfind q.ws id).isSome then (if c ≤ 0 ∨ c = 30 ∨ 31 < c then 10 else 0) else 19
theorem rcRej_len {id : Id} {c : Int} : (3 :: rcRej id c).length = 18 := by
 have h4 : (le c 1).length = 1 := le_len _ _
 simp [rcRej, id.len, h4]
theorem rcRej_bytes {id : Id} {c : Int} : IsBytes (3 :: rcRej id c) := fun x hx => by
 rcases List.mem_cons.1 hx with e | e
 ·omega
 ·unfold rcRej at e
  rcases List.mem_append.1 e with e | e
  ·exact id.ok x e
  ·exact le_bytes _ _ x e
structure RjR where
 q : StM
 f : DF
 ck : Nat
def srP (q : StM) (id : Id) (c : Int) (hc : -9223372036854775808 ≤ c ∧ c ≤ 9223372036854775807) (ls : List (List Int)) (σ : Nat) : Option RjR → Prop
 | none => rejX q id c ≠ 0
 | some z => rejX q id c = 0 ∧ JFl (ls ++ [3 :: rcRej id c]) σ z.f ∧ ∃ A1 c1, z.q = { q with iA := A1, ic := c1, ss := (setI q.ss id c hc).2, ws := wdel q.ws id }
def srH (g gd md : Nat) (t : Ta) (r : Rl) (lim limd : Int) (q : StM) (id : Id) (c : Int) (ls : List (List Int)) (fs : List DF) (ckd : Nat) (K : List Fa) : Option RjR → List Fa
 | none => sF g t r lim q (jC q.gj gd sj (cellsA ls) :: dB gd md limd :: dM md fs ckd :: dS fs :: K)
 | some z => sF g t r lim z.q (jC z.q.gj gd sj (cellsA (ls ++ [3 :: rcRej id c])) :: dB gd md limd :: dM md [z.f] z.ck :: dS [z.f] :: K)
namespace pUc
theorem nthx_ (h : φ := by first | rfl | exact rpC_n16 | exact rpC_n17 | exact rpC_n18 | exact stC9_n9) : φ := h
theorem midx_ (h : φ := by first | exact rpC_id | exact stC9_ci | exact stC9_mid | exact Mid.all) : φ := h
theorem szx_ (h : φ := by ((try simp only [Wt.cells, rpC_len, bytes_length, Id.len, Seen.len]); (first | done | rfl); first | done | fail)) : φ := h
theorem onex_ (h : φ := by first | exact one_bytes _ | exact rpC_one rfl rfl | exact Seen.one _) : φ := h
end pUc
open pUc
theorem fRej_ok {K : List Fa} {b c g4 g5 : Nat} {A : Option Addr} {id : Id} {co : Int} {ty ty2 : TypeId} (h4 : At (blk g4 ty (bytes id.l)) K) (h5 : At (blk g5 ty2 [.int .i64 co]) K) (hc : 0 ≤ co ∧ co ≤ 255) :
  Fn Tryz.prog 68 ([Value.pointer (some ⟨b, 0, none⟩)] ++ [Value.pointer (some ⟨g4, 0, none⟩), .pointer (some ⟨g5, 0, none⟩)]).toArray (wrb b A [3].length c :: u8o A c [3] :: K) (Ret (fun _ : Option Addr × Nat => True) (fun _ => .tuple #[]) (fun q => wrb b q.1 (3 :: rcRej id co).length q.2 :: u8o q.1 q.2 (3 :: rcRej id co) :: K)) := by
 have hil := id.len
 refine fe_ Tryz.func68 Tryz.ntmps68 [(0, .pointer (some ⟨b, 0, none⟩)), (1, .pointer (some ⟨g4, 0, none⟩)), (2, .pointer (some ⟨g5, 0, none⟩))] ?_; refine go_ ?_
 have hid : Vw K (fun w => Reads w 1 (some ⟨g4, 0, none⟩) 16 (bytes id.l)) := by
  have := Vw.of_blk_mid h4 (Mid.all (cl := bytes id.l))
  rwa [id.len] at this
 refine slc_ rfl rfl sub_ (wRaw (b := b) (A := A) (c := c) (bs := [3]) (xs := id.l) (m := 16) hid (by decide)) ?_; rintro ⟨A1, c1⟩ -; dsimp only; refine go_ ?_; refine slc_ rfl rfl sub_ (wUint (b := b) (A := A1) (c := c1) (bs := [3] ++ id.l) (n := co) (k := 1) (by decide) (by omega) (by omega) (by simp; omega)) ?_; rintro ⟨A2, c2⟩ -; dsimp only; refine go_ ?_; rw [show [3] ++ id.l ++ le co 1 = 3 :: rcRej id co from by simp [rcRej]]; exact se_end0 (A2, c2) trivial rfl rfl sub_
theorem e1_Uc (h : φ := by (rw [he]; refine go_ ?_; exact se_ret1 none (show rejX q w.id c ≠ 0 by rw [he]; decide) rfl rfl (by dsimp only [srH]; rw [hK1]; exact sub_))) : φ := h
theorem sReject_ok {K : List Fa} {g gd md σ ckd : Nat} {t : Ta} {r : Rl} {lim limd c : Int} {q : StM} {ls : List (List Int)} {fs : List DF} {id : Id} (hc : -9223372036854775808 ≤ c ∧ c ≤ 9223372036854775807) (hs : Srt q.ss) (hn : q.ss.length ≤ 1000000)
  (hJ : rejX q id c = 0 → JSt ls fs ckd σ ∧ cellsA ls ≤ 16000 ∧ (((cellsA ls + 1) * 64 : Nat) : Int) ≤ limd ∧ limd ≤ 1048576) :
  Fn Tryz.prog 22 #[.pointer (some ⟨g, 0, none⟩), id.v, .int .i64 c] (sF g t r lim q (jC q.gj gd sj (cellsA ls) :: dB gd md limd :: dM md fs ckd :: dS fs :: K))
   (Ret (srP q id c hc ls σ) (fun _ => .int .i64 (rejX q id c)) (srH g gd md t r lim limd q id c ls fs ckd K)) := by
 refine fe_ Tryz.func22 Tryz.ntmps22 [(0, .pointer (some ⟨g, 0, none⟩)), (1, id.v), (2, .int .i64 c)] ?_
 have hk := id.klaw
 obtain ⟨K1, hK1⟩ : ∃ K1, K1 = jC q.gj gd sj (cellsA ls) :: dB gd md limd :: dM md fs ckd :: dS fs :: K := ⟨_, rfl⟩
 rw [← hK1]
 cases hf : wfind q.ws id with
 | none =>
  have hno : MNo (q.ws.map WM.ent) id.v := kno (M := WM) (wfind_none hf)
  have he : rejX q id c = 19 := by unfold rejX; rw [hf]; rfl
  rw [he]; refine go_ ?_; refine bx_ ?_; intro g4; refine go_ ?_; refine bx_ ?_; intro g5; refine go_ ?_; refine dr_ [sB g t q.gj q.gi q.gb q.mw q.ms q.life, blk g4 47 (bytes id.l), wM q.mw q.ws q.cw] 12 ?_; refine y4_ 0 1 2 3 ?_; refine y4_ 4 5 6 7 ?_; refine wy_ 8 ?_; refine w1_ 9 ?_; refine al_ ?_; intro g9; refine v1_ 10 ?_; refine sto_ ?_; refine vy_ 11 ?_; refine wx_ ?_; refine go_ ?_; exact se_ret1 none (show rejX q id c ≠ 0 by rw [he]; decide) rfl rfl (by dsimp only [srH]; rw [hK1]; exact sub_)
 | some w =>
  obtain ⟨rfl, X, Y, hXY, hdel⟩ := wfind_split hf
  have hg : MGet (q.ws.map WM.ent) w.id.v (.agg w.cells.toArray) := kget (M := WM) (wfind_some hf).1
  refine go_ ?_; refine bx_ ?_; intro g4; refine go_ ?_; refine bx_ ?_; intro g5; refine go_ ?_; refine dr_ [sB g t q.gj q.gi q.gb q.mw q.ms q.life, blk g4 47 (bytes w.id.l), wM q.mw q.ws q.cw] 12 ?_; refine y4_ 0 1 2 3 ?_; refine y4_ 4 5 6 7 ?_; refine wy_ 8 ?_; refine w1_ 9 ?_; refine al_ ?_; intro g9; refine v1_ 10 ?_; refine sto_ ?_; refine vy_ 11 ?_; refine wx_ ?_
  by_cases h1 : c ≤ 0
  ·have he : rejX q w.id c = 10 := by unfold rejX; rw [hf]; show (if c ≤ 0 ∨ c = 30 ∨ 31 < c then (10 : Int) else 0) = _; rw [if_pos (.inl h1)]
   exact e1_Uc
  by_cases h2 : c = 30
  ·have he : rejX q w.id c = 10 := by unfold rejX; rw [hf]; show (if c ≤ 0 ∨ c = 30 ∨ 31 < c then (10 : Int) else 0) = _; rw [if_pos (.inr (.inl h2))]
   exact e1_Uc
  by_cases h3 : 31 < c
  ·have he : rejX q w.id c = 10 := by unfold rejX; rw [hf]; show (if c ≤ 0 ∨ c = 30 ∨ 31 < c then (10 : Int) else 0) = _; rw [if_pos (.inr (.inr h3))]
   exact e1_Uc
  have he : rejX q w.id c = 0 := by unfold rejX; rw [hf]; show (if c ≤ 0 ∨ c = 30 ∨ 31 < c then (10 : Int) else 0) = _; rw [if_neg (by omega)]
  have heq : rejE q w.id c = 0 := by unfold rejE; rw [hf]; show (if c = 0 ∨ c = 30 then (10 : Int) else 0) = _; rw [if_neg (by omega)]
  obtain ⟨hJ1, hJ2, hJ3, hJ4⟩ := hJ he
  rw [he]; refine go_ ?_; subst hK1
  refine sl_call rfl rfl (by kernel_rfl) rfl sub_ (note_ok (K := blk g5 42 [.int .i64 c] :: blk g4 47 (bytes w.id.l) :: ixb q.gi q.iA q.ss.length q.ic lim :: ixo q.iA q.ic q.ss :: bB q.gb t r q.mb :: bM q.mb q.fs q.cb :: bS q.fs :: wM q.mw q.ws q.cw :: wS q.ws :: dMm q.ms q.sd q.cs :: dSs q.sd :: K)
    (g := g) (gj := q.gj) (gi := q.gi) (gb := q.gb) (mw := q.mw) (ms := q.ms) (gd := gd) (md := md) (t := t) (life := q.life) (lim := limd) (kind := 3) (f := 68) (caps := [.pointer (some ⟨g4, 0, none⟩), .pointer (some ⟨g5, 0, none⟩)]) (bs := rcRej w.id c)
    (by kernel_rfl) hJ1 rcRej_bytes (by rw [rcRej_len]; omega) hJ2 (by rw [rcRej_len]; exact hJ3) hJ4 (fun b A c => fRej_ok at_ at_ (by omega))) ?_
  rintro ⟨f, ck2⟩ hf2
  dsimp only at hf2 ⊢
  refine go_ ?_; refine slc_ rfl rfl sub_ (sreject_ok (K := jC q.gj gd sj (cellsA (ls ++ [3 :: rcRej w.id c])) :: dB gd md limd :: dM md [f] ck2 :: dS [f] :: K) (g := g) (t := t) (r := r) (lim := lim) (q := q) (id := w.id) hc hs hn) ?_; rintro ⟨e2, q2⟩ ⟨z1, _, z2⟩
  dsimp only at z1 z2 ⊢
  rw [heq] at z1
  subst z1
  obtain ⟨A1, c1, hq2⟩ := z2 rfl
  have hgj : q2.gj = q.gj := by rw [hq2]
  rw [← hgj]; refine go_ ?_; exact se_ret1 (some ⟨q2, f, ck2⟩) ⟨he, hf2, A1, c1, hq2⟩ rfl rfl (by dsimp only [srH]; exact sub_)
end
section
def refE (r : Rl) (lim : Int) (q : StM) (id : Id) (tm c : Int) : Int := if c ≤ 0 ∨ c = 30 ∨ 31 < c then 10 else accE r lim q id tm 0 0
def RefP (lim : Int) (q : StM) (id : Id) (tm : Int) (ht : 0 ≤ tm ∧ tm ≤ 18446744073709551615) (c : Int) (hc : -9223372036854775808 ≤ c ∧ c ≤ 9223372036854775807) (q' : StM) : Prop :=
 ∃ q1 A1 c1 pA pc sA sc A2 c2, q1 = q.acc lim ⟨id, tm, 30, ht, by decide⟩ A1 c1 ⟨id, tm, pA, pc, [], sA, sc, [], q.cw⟩ ∧ q' = { q1 with iA := A2, ic := c2, ss := (setI q1.ss id c hc).2, ws := wdel q1.ws id }
def sfP (r : Rl) (lim : Int) (q : StM) (id : Id) (tm : Int) (ht : 0 ≤ tm ∧ tm ≤ 18446744073709551615) (c : Int) (hc : -9223372036854775808 ≤ c ∧ c ≤ 9223372036854775807) (ls : List (List Int)) (σ : Nat) : Option RjR → Prop
 | none => refE r lim q id tm c ≠ 0
 | some z => refE r lim q id tm c = 0 ∧ JFl (ls ++ [1 :: rcAcc id tm [] []] ++ [3 :: rcRej id c]) σ z.f ∧ RefP lim q id tm ht c hc z.q
def sfH (g gd md : Nat) (t : Ta) (r : Rl) (lim limd : Int) (q : StM) (id : Id) (tm c : Int) (ls : List (List Int)) (fs : List DF) (ckd : Nat) (K : List Fa) : Option RjR → List Fa
 | none => sF g t r lim q (jC q.gj gd sj (cellsA ls) :: dB gd md limd :: dM md fs ckd :: dS fs :: K)
 | some z => sF g t r lim z.q (jC z.q.gj gd sj (cellsA (ls ++ [1 :: rcAcc id tm [] []] ++ [3 :: rcRej id c])) :: dB gd md limd :: dM md [z.f] z.ck :: dS [z.f] :: K)
theorem build_rp2 (id : Id) (t : Int) (W : World) : (Instr.build 49 #[(0, id.v), (1, .int .u64 t)]).run Tryz.prog W = .ok (.agg (rpC id t (.slice none 0 0) (.slice none 0 0)).toArray) W := by
 obtain ⟨a0, a1, a2, a3, a4, a5, a6, a7, a8, a9, a10, a11, a12, a13, a14, a15, h⟩ := list16m id.len
 show (Instr.build 49 #[(0, .agg (bytes id.l).toArray), (1, .int .u64 t)]).run Tryz.prog W = _
 unfold rpC
 rw [h]
 kernel_rfl
open pUc
theorem e1_Ud (h : φ := by (rw [he]; refine go_ ?_; refine bx_ ?_; intro g5; refine go_ ?_; exact se_ret1 none (show refE r lim q id tm c ≠ 0 by rw [he]; decide) rfl rfl (by dsimp only [sfH]; exact sub_))) : φ := h
theorem sRefuse_ok {K : List Fa} {g gd md σ ckd : Nat} {t : Ta} {r : Rl} {lim limd tm c : Int} {q : StM} {ls : List (List Int)} {fs : List DF} {id : Id} (hrw : 0 ≤ r.w) (hlm : 0 ≤ lim ∧ lim ≤ 256) (ht : 0 ≤ tm ∧ tm ≤ 18446744073709551615) (hc : -9223372036854775808 ≤ c ∧ c ≤ 9223372036854775807) (hs : Srt q.ss) (hn : q.ss.length ≤ 1000)
  (hno : hasI q.ss id = false → wfind q.ws id = none)
  (hJ : refE r lim q id tm c = 0 → JSt ls fs ckd σ ∧ cellsA ls ≤ 15000 ∧ (((cellsA ls + 2) * 64 : Nat) : Int) ≤ limd ∧ limd ≤ 1048576) :
  Fn Tryz.prog 23 #[.pointer (some ⟨g, 0, none⟩), id.v, .int .u64 tm, .int .i64 c] (sF g t r lim q (jC q.gj gd sj (cellsA ls) :: dB gd md limd :: dM md fs ckd :: dS fs :: K))
   (Ret (sfP r lim q id tm ht c hc ls σ) (fun _ => .int .i64 (refE r lim q id tm c)) (sfH g gd md t r lim limd q id tm c ls fs ckd K)) := by
 refine fe_ Tryz.func23 Tryz.ntmps23 [(0, .pointer (some ⟨g, 0, none⟩)), (1, id.v), (2, .int .u64 tm), (3, .int .i64 c)] ?_
 have hm1 : manyL (1 :: rcAcc id tm [] []).length = 1 := by rw [rcAcc_len]; rfl
 by_cases h1 : c ≤ 0
 ·have he : refE r lim q id tm c = 10 := by unfold refE; rw [if_pos (.inl h1)]
  exact e1_Ud
 by_cases h2 : c = 30
 ·have he : refE r lim q id tm c = 10 := by unfold refE; rw [if_pos (.inr (.inl h2))]
  exact e1_Ud
 by_cases h3 : 31 < c
 ·have he : refE r lim q id tm c = 10 := by unfold refE; rw [if_pos (.inr (.inr h3))]
  exact e1_Ud
 have he : refE r lim q id tm c = accE r lim q id tm 0 0 := by unfold refE; rw [if_neg (by omega)]
 rw [he] at hJ ⊢
 refine go_ ?_; refine bx_ ?_; intro g5; refine go_ ?_; refine sl_pu (pu_build (v := .agg (rpC id tm (.slice none 0 0) (.slice none 0 0)).toArray) rfl (fun W => build_rp2 _ _ W)) rfl ?_
 refine sl_call rfl rfl (by kernel_rfl) rfl sub_ (sAccept_ok (K := blk g5 47 (bytes id.l) :: K) (g := g) (gd := gd) (md := md) (ckd := ckd) (t := t) (r := r) (lim := lim) (limd := limd) (q := q) (ls := ls) (fs := fs) (σ := σ) (id := id) (tm := tm) (pA := none) (sA := none) (p := []) (s := []) (pc := 0) (sc := 0)
   hrw hlm ht hs (by omega) hno (fun w _ => Reads.nil_ _) (fun w _ => Reads.nil_ _)
   (fun h0 => by
     obtain ⟨j1, j2, j3, j4⟩ := hJ h0
     exact ⟨j1, rcAcc_bytes (fun _ h => by cases h) (fun _ h => by cases h), by rw [rcAcc_len]; decide, by omega, by rw [hm1]; omega, j4⟩)) ?_
 rintro (_ | ⟨q1, f1, ck1⟩) hz
 ·have hz0 : accE r lim q id tm 0 0 ≠ 0 := hz
  have hz1 : refE r lim q id tm c ≠ 0 := by rw [he]; exact hz0
  dsimp only [saH, List.length_nil]
  generalize accE r lim q id tm 0 0 = e at hz0 ⊢
  refine go_ ?_; exact se_ret1 none hz1 rfl rfl (by dsimp only [sfH]; exact sub_)
 ·obtain ⟨h0, hF1, A1, c1, pA, pc, sA, sc, hq1⟩ := hz
  dsimp only at hF1 hq1
  have h00 : accE r lim q id tm 0 0 = 0 := h0
  obtain ⟨j1, j2, j3, j4⟩ := hJ h00
  obtain ⟨k1, k2, k3, k4, k5, k6⟩ := accE_zero h00
  have hai := accE_add ht h00
  have e1 : q1.ss = insAt q.ss ⟨id, tm, 30, ht, by decide⟩ := by rw [hq1]; show (addI _ _ _).2 = _; rw [hai]
  have e2 : q1.ws = q.ws ++ [⟨id, tm, pA, pc, [], sA, sc, [], q.cw⟩] := by rw [hq1]; show (if (addI _ _ _).1 = 0 then _ else _) = _; rw [hai, if_pos rfl]
  have e3 : (wfind q1.ws id).isSome = true := by
   rw [e2]
   unfold wfind
   rw [List.find?_isSome]; exact ⟨_, List.mem_append_right _ (List.mem_singleton.2 rfl), by simp⟩
  have e4 : rejX q1 id c = 0 := by unfold rejX; rw [if_pos e3, if_neg (by omega)]
  have e5 : Srt q1.ss := by rw [e1]; exact srt_ins hs k1
  have e6 : q1.ss.length ≤ 1000000 := by rw [e1, insAt_len]; omega
  have e7 : cellsA (ls ++ [1 :: rcAcc id tm [] []]) = cellsA ls + 1 := by rw [cellsA_snoc, hm1]
  dsimp only [saH, List.length_nil]
  rw [h00]; refine go_ ?_
  refine sl_call rfl rfl (by kernel_rfl) rfl sub_ (sReject_ok (K := blk g5 47 (bytes id.l) :: K) (g := g) (gd := gd) (md := md) (ckd := ck1) (t := t) (r := r) (lim := lim) (limd := limd) (q := q1) (ls := ls ++ [1 :: rcAcc id tm [] []]) (fs := [f1]) (σ := σ) (id := id) hc e5 e6
    (fun _ => ⟨.inr ⟨f1, rfl, hF1⟩, by omega, by rw [e7]; omega, j4⟩)) ?_
  rw [e4]
  rintro (_ | ⟨q2, f2, ck2⟩) hz
  ·exact (hz e4).elim
  ·obtain ⟨_, hF2, A2, c2, hq2⟩ := hz
   dsimp only at hF2 hq2
   dsimp only [srH]
   refine go_ ?_; exact se_ret1 (some ⟨q2, f2, ck2⟩) ⟨he.trans h00, hF2, q1, A1, c1, pA, pc, sA, sc, A2, c2, hq1, hq2⟩ rfl rfl (by dsimp only [sfH]; exact sub_)
end
end
section
open Go.RowKit
attribute [local irreducible] Go.Calls Go.Exit.then Go.Exit.inBlock Go.bodyPost Go.Code.wp Go.wpList
section
theorem le_at (x : Int) {k j : Nat} (h : j < (le x k).length) : (le x k)[j] = x / 2 ^ (8 * j) % 256 := by simp [le]
theorem fillB_set {zs : List Int} {j : Nat} (h : j < zs.length) : SetAt (0 + j * 1) (.int .u8 zs[j]) (bytes (fillz zs j)) (bytes (fillz zs (j + 1))) := by
 have h1 := SetAt.mk (i := j) (v := .int .u8 zs[j]) (r := bytes (fillz zs j)) (by rw [bytes_length, fillz_len _ (by omega)]; exact h)
 rw [← fillz_set h]
 have e : (bytes (fillz zs j)).set j (.int .u8 zs[j]) = bytes ((fillz zs j).set j zs[j]) := by simp [bytes]
 rw [e] at h1
 rwa [Nat.zero_add, Nat.mul_one]
theorem fillB_len {zs : List Int} {j : Nat} (h : j ≤ zs.length) : (bytes (fillz zs j)).length = zs.length := by rw [bytes_length, fillz_len _ h]
def pF (f : Int) : Int := if f = 1 then 18446744069414584321 else 340282366920938462946865773367900766209
def szF (f : Int) : Nat := if f = 1 then 8 else 16
def InF (f x : Int) : Prop := 0 ≤ x ∧ x < pF f
theorem pF_one : pF 1 = 18446744069414584321 := rfl
theorem pF_two : pF 2 = 340282366920938462946865773367900766209 := rfl
theorem InF.el {f x : Int} (h : InF f x) : El x := by
 unfold InF pF at h
 unfold El
 split at h <;> omega
theorem nth_bytes {bs : List Int} {j : Nat} (h : j < bs.length) : nth (bytes bs) j = some (.int .u8 bs[j]) := by
 rw [nth_eq]
 simp [bytes, h]
theorem nth_bytesI {bs : List Int} {j : Nat} (h : j < bs.length) : nth (bytes bs) ((j : Int)).toNat = some (.int .u8 bs[j]) := nth_bytes h
namespace pLa
theorem nthx_ (h : φ := by first | exact nth_bytesI (by omega)) : φ := h
theorem szx_ (h : φ := by ((first | (rw [hbl]; rfl) | (rw [fillB_len (by rw [le_len]; omega), le_len]; rfl) | (rw [bytes_length, le_len]; rfl)); first | done | fail)) : φ := h
theorem onex_ (h : φ := by first | exact one_bytes _ | exact eC_one _ | exact u2_one _ _) : φ := h
end pLa
open pLa
theorem gBytes_ok {K : List Fa} {a : Int} (h : 0 ≤ a ∧ a < 18446744073709551616) : Fn Tryz.prog 138 #[.int .u64 a] K (Ret (fun _ : Unit => True) (fun _ => .agg (bytes (le (a % 18446744069414584321) 8)).toArray) (fun _ => K)) := by
 refine fe_ Tryz.func138 Tryz.ntmps138 [(0, .int .u64 a)] ?_; refine go_ ?_; refine al_ ?_; intro g2; refine go_ ?_; refine slc_ rfl rfl sub_ (gOf_ok h) ?_; rintro _ -
 obtain ⟨x, hx⟩ : ∃ x, a % 18446744069414584321 = x := ⟨_, rfl⟩
 rw [hx]
 have hx' : 0 ≤ x ∧ x < 18446744069414584321 := by omega
 clear hx h
 obtain ⟨zs, hzs⟩ : ∃ zs, zs = le x 8 := ⟨_, rfl⟩
 have hzl : zs.length = 8 := by rw [hzs, le_len]
 rw [← hzs]; refine go_ ?_; refine al_ ?_; intro g3; refine go_ ?_; refine sc_for (fun j : Nat => [(0, .int .u64 x), (2, .pointer (some ⟨g2, 0, none⟩)), (3, .pointer (some ⟨g3, 0, none⟩)), (7, .int .i64 j)]) (fun j => blk g3 214 (bytes (fillz zs j)) :: blk g2 214 (List.replicate 8 (.int .u8 0)) :: K) (fun j => j ≤ 8) (fun j => 8 - j) 0 has_ (by rw [fillz_zero, hzl]; exact sub_) (by omega) ?_; intro j hj
 by_cases hlt : j < 8
 ·have hst := fillB_set (zs := zs) (j := j) (by omega)
  have hat : zs[j]'(by omega) = x / 2 ^ (8 * j) % 256 := by subst hzs; exact le_at x _
  rw [hat] at hst
  refine go_ ?_; rw [IntKind.wrap_u8, show (8 * (j : Int)).toNat = 8 * j from by omega]; refine sl_store rfl pick_ rfl rfl (by kernel_rfl) hst ?_; refine go_ ?_; exact se_round (j + 1) has_ sub_ hlt (by omega)
 obtain rfl : j = 8 := by omega
 have hf : fillz zs 8 = zs := by rw [← hzl]; exact fillz_all zs
 rw [hf]
 have hbl : (bytes zs).length = 8 := by rw [bytes_length, hzl]
 refine go_ ?_; exact se_ret_c () trivial rfl rfl at_ rfl rfl (by rw [hbl]; rfl) rfl sub_
theorem gIn_ok {K : List Fa} {a : Int} : Fn Tryz.prog 104 #[.int .u64 a] K (Ret (fun _ : Unit => True) (fun _ => .bool (decide (a < 18446744069414584321))) (fun _ => K)) := by
 refine fe_ Tryz.func104 Tryz.ntmps104 [(0, .int .u64 a)] ?_
 by_cases h : a < 18446744069414584321
 ·rw [decide_eq_true h]; refine go_ ?_; exact r1_ ()
 ·rw [decide_eq_false h]; refine go_ ?_; exact r1_ ()
theorem gTake_ok {K : List Fa} {bs : List Int} (hb : IsBytes bs) (hl : bs.length = 8) : Fn Tryz.prog 163 #[.agg (bytes bs).toArray] K (Ret (fun _ : Unit => True) (fun _ => if leV bs < 18446744069414584321 then .tuple #[.int .u64 (leV bs), .int .i64 0] else .tuple #[.int .u64 0, .int .i64 7]) (fun _ => K)) := by
 refine fe_ Tryz.func163 Tryz.ntmps163 [(0, .agg (bytes bs).toArray)] ?_
 have hbl : (bytes bs).length = 8 := by rw [bytes_length, hl]
 refine go_ ?_; refine bx_ ?_; intro g1; refine go_ ?_; refine sc_for (fun j : Nat => [(4, .int .u64 (leV (bs.take j))), (7, .agg (bytes bs).toArray), (8, .int .i64 j)]) (fun j => K) (fun j => j ≤ 8) (fun j => 8 - j) 0 has_ sub_ (by omega) ?_; intro j hj
 by_cases hlt : j < 8
 ·have hst := or_step hb j (by omega) (by omega)
  have hx0 := hb _ (List.getElem_mem (show j < bs.length by omega))
  refine go_ ?_; rw [show (8 * (j : Int)).toNat = 8 * j from by omega, hst]; exact se_round (j + 1) has_ sub_ hlt (by omega)
 obtain rfl : j = 8 := by omega
 have e : bs.take 8 = bs := List.take_of_length_le (by omega)
 rw [e]; refine go_ ?_; refine slc_ rfl rfl sub_ gIn_ok ?_; rintro _ -
 by_cases h : leV bs < 18446744069414584321
 ·rw [decide_eq_true h, if_pos h]; refine go_ ?_; exact r2_ ()
 ·rw [decide_eq_false h, if_neg h]; refine go_ ?_; exact r2_ ()
end
section
theorem lt16 {j : Nat} (h : j < 16) : j = 0 ∨ j = 1 ∨ j = 2 ∨ j = 3 ∨ j = 4 ∨ j = 5 ∨ j = 6 ∨ j = 7 ∨ j = 8 ∨ j = 9 ∨ j = 10 ∨ j = 11 ∨ j = 12 ∨ j = 13 ∨ j = 14 ∨ j = 15 := by omega
def wl (x : Int) (j : Nat) : Int := if j < 8 then x % 18446744073709551616 else x / 18446744073709551616
theorem wl_at {x : Int} {j : Nat} (h : j < 16) : wl x j / 2 ^ (8 * (j % 8)) % 256 = x / 2 ^ (8 * j) % 256 := by
 unfold wl
 rcases lt16 h with rfl | rfl | rfl | rfl | rfl | rfl | rfl | rfl | rfl | rfl | rfl | rfl | rfl | rfl | rfl | rfl <;> simp <;> omega
theorem nth_wl {x : Int} {j : Nat} (h : j < 16) : nth (eC x) (0 + ((j : Int) / 8).toNat * 1) = some (.int .u64 (wl x j)) := by
 unfold wl eC
 by_cases h8 : j < 8
 ·rw [if_pos h8, show ((j : Int) / 8).toNat = 0 by omega]
  rfl
 ·rw [if_neg h8, show ((j : Int) / 8).toNat = 1 by omega]
  rfl
theorem leV_app : ∀ (a b : List Int), leV (a ++ b) = leV a + 2 ^ (8 * a.length) * leV b
 | [], b => by simp [leV]
 | x :: a, b => by
  rw [List.cons_append, leV, leV, leV_app a b, List.length_cons, pow8, Int.mul_add, Int.mul_assoc]; omega
theorem wt_lo {bs : List Int} (hb : IsBytes bs) (hl : bs.length = 16) {j : Nat} (h : j < 8) : leV (bs.take j) % 18446744073709551616 = leV (bs.take j) ∧ leV (bs.take j) / 18446744073709551616 = 0 ∧ leV (bs.take (j + 1)) % 18446744073709551616 = leV (bs.take (j + 1)) ∧ leV (bs.take (j + 1)) / 18446744073709551616 = 0 := by
 have h1 := leV_lt (hb.take j)
 have h2 := leV_lt (hb.take (j + 1))
 rw [List.length_take, Nat.min_eq_left (by omega)] at h1 h2
 have h3 : (2 : Int) ^ (8 * j) ≤ 72057594037927936 := (pow_small j h).2
 have h4 : (2 : Int) ^ (8 * (j + 1)) = 256 * 2 ^ (8 * j) := pow8 j
 omega
theorem wt_hi {bs : List Int} (hb : IsBytes bs) (hl : bs.length = 16) {k : Nat} (h : k ≤ 8) : leV (bs.take (8 + k)) % 18446744073709551616 = leV (bs.take 8) ∧ leV (bs.take (8 + k)) / 18446744073709551616 = leV ((bs.drop 8).take k) := by
 have e : bs.take (8 + k) = bs.take 8 ++ (bs.drop 8).take k := List.take_add ..
 have h1 := leV_lt (hb.take 8)
 rw [List.length_take, Nat.min_eq_left (by omega)] at h1
 have h2 : (2 : Int) ^ (8 * 8) = 18446744073709551616 := by decide
 rw [h2] at h1
 rw [e, leV_app, List.length_take, Nat.min_eq_left (by omega), h2]; omega
section
variable {P : Program} {C : World → Prop} {n : Nat} {l : Env} {x : Operand} {t ty : TypeId}
theorem pu_arrAt {e : TypeId} {N m c : Nat} {A : Option Addr} (hx : ev l x = some (.slice A m c)) (ht : P.underlying t = some (.array N e)) (h : N ≤ m) : Pu P C n l (.sliceToArrayPointer t x) ty (.pointer A) := by
 unfold Pu
 intro a _ _ _ _ W hs _
 simp only [execOp, hs.ev hx]
 rw [Sem.run_bind, run_arrayAt W t e N A m c ht h]
 rfl
end
namespace pLb
theorem nthx_ (h : φ := by first | (rw [hq]; rfl) | exact nth_wl (by omega) | exact nth_bytesI (by omega)) : φ := h
theorem szx_ (h : φ := by ((first | (rw [hbl]; rfl) | rfl); first | done | fail)) : φ := h
theorem onex_ (h : φ := by first | exact one_bytes _ | exact eC_one _ | exact u2_one _ _) : φ := h
end pLb
open pLb
theorem wdBytes_ok {K : List Fa} {a : Int} (h : El a) : Fn Tryz.prog 139 #[.agg (eC a).toArray] K (Ret (fun _ : Unit => True) (fun _ => .agg (bytes (le (a % wP) 16)).toArray) (fun _ => K)) := by
 refine fe_ Tryz.func139 Tryz.ntmps139 [(0, .agg (eC a).toArray)] ?_; refine go_ ?_; refine bx_ ?_; intro g1; refine go_ ?_; refine al_ ?_; intro g2; refine go_ ?_; refine slc_ rfl rfl sub_ (wOf_ok h) ?_; rintro _ -
 obtain ⟨x, hx⟩ : ∃ x, a % wP = x := ⟨_, rfl⟩
 rw [hx]
 clear hx h
 obtain ⟨zs, hzs⟩ : ∃ zs, zs = le x 16 := ⟨_, rfl⟩
 have hzl : zs.length = 16 := by rw [hzs, le_len]
 have hbl : (bytes zs).length = 16 := by rw [bytes_length, hzl]
 rw [← hzs]; refine go_ ?_; refine al_ ?_; intro g3; refine go_ ?_; refine sc_for (fun j : Nat => [(1, .pointer (some ⟨g1, 0, none⟩)), (2, .pointer (some ⟨g2, 0, none⟩)), (3, .pointer (some ⟨g3, 0, none⟩)), (7, .int .i64 j)]) (fun j => blk g3 46 (bytes (fillz zs j)) :: blk g1 102 (eC x) :: blk g2 46 (List.replicate 16 (.int .u8 0)) :: K) (fun j => j ≤ 16) (fun j => 16 - j) 0 has_ (by rw [fillz_zero, hzl]; exact sub_) (by omega) ?_; intro j hj
 by_cases hlt : j < 16
 ·have hst := fillB_set (zs := zs) (j := j) (by omega)
  have hat : zs[j]'(by omega) = x / 2 ^ (8 * j) % 256 := by subst hzs; exact le_at x _
  rw [hat, ← wl_at hlt] at hst
  refine go_ ?_; rw [IntKind.wrap_u8, show (8 * ((j : Int) % 8)).toNat = 8 * (j % 8) from by omega]; refine sl_store rfl pick_ rfl rfl (by kernel_rfl) hst ?_; refine go_ ?_; exact se_round (j + 1) has_ sub_ hlt (by omega)
 obtain rfl : j = 16 := by omega
 have hf : fillz zs 16 = zs := by rw [← hzl]; exact fillz_all zs
 rw [hf]; refine go_ ?_; exact se_ret_c () trivial rfl rfl at_ rfl rfl (by rw [hbl]; rfl) rfl sub_
theorem wdTake_ok {K : List Fa} {bs : List Int} (hb : IsBytes bs) (hl : bs.length = 16) : Fn Tryz.prog 164 #[.agg (bytes bs).toArray] K (Ret (fun _ : Unit => True) (fun _ => if leV bs < wP then .tuple #[.agg (eC (leV bs)).toArray, .int .i64 0] else .tuple #[.agg (eC 0).toArray, .int .i64 7]) (fun _ => K)) := by
 refine fe_ Tryz.func164 Tryz.ntmps164 [(0, .agg (bytes bs).toArray)] ?_
 have hbl : (bytes bs).length = 16 := by rw [bytes_length, hl]
 refine go_ ?_; refine bx_ ?_; intro g1; refine go_ ?_; refine al_ ?_; intro g2; refine go_ ?_; refine al_ ?_; intro g4; refine go_ ?_; refine sc_for (fun j : Nat => [(2, .pointer (some ⟨g2, 0, none⟩)), (4, .pointer (some ⟨g4, 0, none⟩)), (7, .agg (bytes bs).toArray), (8, .int .i64 j)]) (fun j => blk g4 102 (eC (leV (bs.take j))) :: blk g2 102 (eC 0) :: K) (fun j => j ≤ 16) (fun j => 16 - j) 0 has_ sub_ (by omega) ?_; intro j hj
 by_cases hlt : j < 16
 ·have hx0 := hb _ (List.getElem_mem (show j < bs.length by omega))
  by_cases h8 : j < 8
  ·have hst := or_step hb j (by omega) (by omega)
   obtain ⟨e1, e2, e3, e4⟩ := wt_lo hb hl h8
   rw [agg_eC e1 e2]
   have hq : ((j : Int) / 8).toNat = 0 := by omega
   refine go_ ?_; refine sd_drawn (fun W => AllP W [blk g4 102 [.int .u64 (leV (bs.take j)), .int .u64 0]]) (fun i => !(List.contains [12] i)) (by kernel_rfl) 13 rfl ?_; refine y4_ 0 1 2 3 ?_; refine y4_ 4 5 6 7 ?_; refine y4_ 8 9 10 11 ?_; refine w1_ 12 ?_; rw [show (8 * ((j : Int) % 8)).toNat = 8 * j from by omega, hst]; refine sl_store rfl pick_ rfl rfl (by kernel_rfl) (by rw [hq]; exact SetAt.here) ?_; refine sl_nil ?_; refine se_sd (fun h => absurd h (by decide)) ?_; refine wx_ ?_; refine go_ ?_
   refine se_round (j + 1) has_ ?_ hlt (by omega)
   rw [agg_eC e3 e4]; exact sub_
  ·obtain ⟨k, rfl⟩ : ∃ k, j = 8 + k := ⟨j - 8, by omega⟩
   have hk : k < 8 := by omega
   have hdl : (bs.drop 8).length = 8 := by simp [hl]
   have hst := or_step (hb.drop 8) k (by omega) (by omega)
   have hgd : (bs.drop 8)[k]'(by omega) = bs[8 + k] := by simp
   rw [hgd] at hst
   obtain ⟨e1, e2⟩ := wt_hi hb hl (k := k) (by omega)
   obtain ⟨e3, e4⟩ := wt_hi hb hl (k := k + 1) (by omega)
   rw [agg_eC e1 e2]
   have hq : (((8 + k : Nat) : Int) / 8).toNat = 1 := by omega
   refine go_ ?_; refine sd_drawn (fun W => AllP W [blk g4 102 [.int .u64 (leV (bs.take 8)), .int .u64 (leV ((bs.drop 8).take k))]]) (fun i => !(List.contains [12] i)) (by kernel_rfl) 13 rfl ?_; refine y4_ 0 1 2 3 ?_; refine y4_ 4 5 6 7 ?_; refine y4_ 8 9 10 11 ?_; refine w1_ 12 ?_; rw [show (8 * (((8 + k : Nat) : Int) % 8)).toNat = 8 * k from by omega, hst]; refine sl_store rfl pick_ rfl rfl (by kernel_rfl) (by rw [hq]; exact SetAt.there SetAt.here) ?_; refine sl_nil ?_; refine se_sd (fun h => absurd h (by decide)) ?_; refine wx_ ?_; refine go_ ?_
   refine se_round (8 + k + 1) has_ ?_ hlt (by omega)
   rw [show 8 + k + 1 = 8 + (k + 1) from rfl, agg_eC e3 e4]; exact sub_
 obtain rfl : j = 16 := by omega
 have e : bs.take 16 = bs := List.take_of_length_le (by omega)
 have hel : El (leV bs) := by
  have := leV_lt hb
  rw [hl, show (2 : Int) ^ (8 * 16) = 340282366920938463463374607431768211456 by decide] at this
  exact this
 rw [e]; refine go_ ?_; refine slc_ rfl rfl sub_ (wIn_ok hel) ?_; rintro _ -
 by_cases h : leV bs < wP
 ·rw [decide_eq_true h, if_pos h]; refine go_ ?_; exact se_ret_ct () trivial rfl rfl at_ rfl rfl sz_ rfl rfl sub_
 ·rw [decide_eq_false h, if_neg h]; refine go_ ?_; refine sl_pu (pu_build (v := .agg (eC 0).toArray) rfl (fun W => by kernel_rfl)) rfl ?_; refine go_ ?_; exact se_ret_ct () trivial rfl rfl at_ rfl rfl sz_ rfl rfl sub_
end
section
theorem szF_or {f : Int} (h : f = 1 ∨ f = 2) : (f = 1 ∧ szF f = 8 ∧ pF f = 18446744069414584321) ∨ (f = 2 ∧ szF f = 16 ∧ pF f = wP) := by
 rcases h with rfl | rfl
 ·exact .inl ⟨rfl, rfl, rfl⟩
 ·exact .inr ⟨rfl, rfl, rfl⟩
def vecB (f : Int) (xs : List Int) : List Int := xs.flatMap fun x => le x (szF f)
theorem vecB_len (f : Int) (xs : List Int) : (vecB f xs).length = xs.length * szF f := by
 induction xs with
 | nil => simp [vecB]
 | cons x xs ih =>
  unfold vecB at ih ⊢
  rw [List.flatMap_cons, List.length_append, ih, le_len, List.length_cons, Nat.succ_mul, Nat.add_comm]
theorem vecB_bytes (f : Int) (xs : List Int) : IsBytes (vecB f xs) := fun y hy => by
 obtain ⟨x, _, h⟩ := List.mem_flatMap.1 hy
 exact le_bytes x _ y h
theorem vecB_snoc (f : Int) (xs : List Int) (x : Int) : vecB f (xs ++ [x]) = vecB f xs ++ le x (szF f) := by simp [vecB]
theorem addr_add0 (a : Addr) : a.add 0 = a := by cases a; simp [Addr.add]
def takeVL (f : Int) : Nat → List Int → Option (List Int)
 | 0, _ => some []
 | n + 1, bs => if leV (bs.take (szF f)) < pF f then (takeVL f n (bs.drop (szF f))).map (leV (bs.take (szF f)) :: ·) else none
theorem leV_in {f x : Int} (h : InF f x) (hf : f = 1 ∨ f = 2) : leV (le x (szF f)) = x := by
 rw [leV_le x h.1]
 unfold InF at h
 rcases szF_or hf with ⟨-, h1, h2⟩ | ⟨-, h1, h2⟩
 ·rw [h1, show (2 : Int) ^ (8 * 8) = 18446744073709551616 by decide]; rw [h2] at h; omega
 ·rw [h1, show (2 : Int) ^ (8 * 16) = 340282366920938463463374607431768211456 by decide]; rw [h2] at h; unfold wP at h; omega
namespace pLc
theorem szx_ (h : φ := by ((first | (rw [hbl]; rfl) | rfl); first | done | fail)) : φ := h
theorem onex_ (h : φ := by first | exact one_bytes _ | exact eC_one _ | exact u2_one _ _) : φ := h
end pLc
open pLc
theorem fsize_ok {K : List Fa} {f : Int} (hf : f = 1 ∨ f = 2) : Fn Tryz.prog 140 #[.int .u8 f] K (Ret (fun _ : Unit => True) (fun _ => .int .i64 (szF f)) (fun _ => K)) := by
 refine fe_ Tryz.func140 Tryz.ntmps140 [(0, .int .u8 f)] ?_
 rcases hf with rfl | rfl
 ·refine go_ ?_; exact r1_ ()
 ·refine go_ ?_; exact r1_ ()
theorem fIn_ok {K : List Fa} {f x : Int} (hf : f = 1 ∨ f = 2) (hx : El x) : Fn Tryz.prog 64 #[.int .u8 f, .agg (eC x).toArray] K (Ret (fun _ : Unit => True) (fun _ => .bool (decide (x < pF f))) (fun _ => K)) := by
 refine fe_ Tryz.func64 Tryz.ntmps64 [(0, .int .u8 f), (1, .agg (eC x).toArray)] ?_
 rcases hf with rfl | rfl
 ·obtain ⟨a, b, hxx, h1, h2, ha, hb⟩ := el_parts hx
  rw [agg_eC h1 h2, pF_one]
  by_cases h0 : b = 0
  ·rw [show decide (x < 18446744069414584321) = decide (a < 18446744069414584321) by rw [hxx, h0]; simp]; refine go_ ?_; refine bx_ ?_; intro g1; refine go_ ?_; refine slc_ rfl rfl sub_ gIn_ok ?_; rintro _ -; refine go_ ?_; exact r1_ ()
  ·rw [show decide (x < 18446744069414584321) = false from decide_eq_false (by omega)]; refine go_ ?_; refine bx_ ?_; intro g1; refine go_ ?_; exact r1_ ()
 ·refine go_ ?_; refine bx_ ?_; intro g1; refine go_ ?_; refine slc_ rfl rfl sub_ (wIn_ok hx) ?_; rintro _ -; refine go_ ?_; exact r1_ ()
abbrev fbB (f : Int) (g : Nat) (x : Int) : Fa := blk g (if f = 1 then 214 else 46) (bytes (le x (szF f)))
theorem fBytes_ok {K : List Fa} {f x : Int} (hf : f = 1 ∨ f = 2) (hx : InF f x) : Fn Tryz.prog 106 #[.int .u8 f, .agg (eC x).toArray] K (Ret (fun _ : Nat => True) (fun g => .slice (some ⟨g, 0, none⟩) (szF f) (szF f)) (fun g => fbB f g x :: K)) := by
 refine fe_ Tryz.func106 Tryz.ntmps106 [(0, .int .u8 f), (1, .agg (eC x).toArray)] ?_
 have hel := hx.el
 unfold InF at hx
 rcases hf with rfl | rfl
 ·rw [pF_one] at hx
  have hm : x % 18446744073709551616 = x ∧ x / 18446744073709551616 = 0 ∧ x % 18446744069414584321 = x := by omega
  rw [agg_eC hm.1 hm.2.1]
  have hbl : (bytes (le x 8)).length = 8 := by rw [bytes_length, le_len]
  refine go_ ?_; refine bx_ ?_; intro g1; refine go_ ?_; refine slc_ rfl rfl sub_ (gBytes_ok (a := x) (by omega)) ?_; rintro _ -; rw [hm.2.2]; refine go_ ?_; refine al_ ?_; intro g5; refine go_ ?_; exact r1_ g5
 ·rw [pF_two] at hx
  have hm : x % wP = x := Int.emod_eq_of_lt hx.1 hx.2
  have hbl : (bytes (le x 16)).length = 16 := by rw [bytes_length, le_len]
  refine go_ ?_; refine bx_ ?_; intro g1; refine go_ ?_; refine slc_ rfl rfl sub_ (wdBytes_ok hel) ?_; rintro _ -; rw [hm]; refine go_ ?_; refine al_ ?_; intro g6; refine go_ ?_; exact r1_ g6
theorem o1_Lc (h : φ := by exact se_ret_ct () trivial rfl rfl at_ rfl rfl sz_ rfl rfl sub_) : φ := h
theorem fTake_ok {K : List Fa} {f : Int} {A : Option Addr} {c : Nat} {bs : List Int} (hf : f = 1 ∨ f = 2) (hl : bs.length = szF f) (hb : IsBytes bs) (hr : Vw K (fun w => Reads w 1 A (szF f) (bytes bs))) : Fn Tryz.prog 141 #[.int .u8 f, .slice A (szF f) c] K (Ret (fun _ : Unit => True) (fun _ => if leV bs < pF f then .tuple #[.agg (eC (leV bs)).toArray, .int .i64 0] else .tuple #[.agg (eC 0).toArray, .int .i64 7]) (fun _ => K)) := by
 refine fe_ Tryz.func141 Tryz.ntmps141 [(0, .int .u8 f), (1, .slice A (szF f) c)] ?_
 refine sc_know (vw_form hr (by rcases szF_or hf with h | h <;> omega)) ?_
 rintro ⟨ad, rfl⟩; refine go_ ?_; refine al_ ?_; intro g4; refine go_ ?_; refine slc_ rfl rfl sub_ (valid_ok f) ?_; rintro _ -; rw [decide_eq_true hf]; refine go_ ?_; refine slc_ rfl rfl sub_ (fsize_ok hf) ?_; rintro _ -
 have hbl := bytes_length bs
 rcases szF_or hf with ⟨rfl, h1, h2⟩ | ⟨rfl, h1, h2⟩
 ·rw [h1] at hl hr ⊢
  rw [hl] at hbl
  rw [h2]; refine go_ ?_; refine sl_pu (pu_arrAt (N := 8) (e := 5) rfl rfl (by decide)) rfl ?_; refine sl_pu (pu_ldrs (i := 0) (hr.mono sub_) (by omega) (by rw [addr_add0]; rfl) Mid.all rfl rfl (by rw [hbl]; rfl)) rfl ?_; refine go_ ?_; refine slc_ rfl rfl sub_ (gTake_ok hb hl) ?_; rintro _ -
  by_cases h : leV bs < 18446744069414584321
  ·have hlv := leV_lt hb
   have hm : leV bs % 18446744073709551616 = leV bs ∧ leV bs / 18446744073709551616 = 0 := by omega
   rw [if_pos h, if_pos h, agg_eC hm.1 hm.2]; refine go_ ?_; refine sl_pu (pu_build (v := .agg #[.int .u64 (leV bs), .int .u64 0]) rfl (fun W => by kernel_rfl)) rfl ?_; refine go_ ?_; exact o1_Lc
  ·rw [if_neg h, if_neg h]; refine go_ ?_; refine sl_pu (pu_build (v := .agg (eC 0).toArray) rfl (fun W => by kernel_rfl)) rfl ?_; refine go_ ?_; exact o1_Lc
 ·rw [h1] at hl hr ⊢
  rw [hl] at hbl
  rw [h2]; refine go_ ?_; refine sl_pu (pu_arrAt (N := 16) (e := 5) rfl rfl (by decide)) rfl ?_; refine sl_pu (pu_ldrs (i := 0) (hr.mono sub_) (by omega) (by rw [addr_add0]; rfl) Mid.all rfl rfl (by rw [hbl]; rfl)) rfl ?_; refine go_ ?_; refine slc_ rfl rfl sub_ (wdTake_ok hb hl) ?_; rintro _ -
  by_cases h : leV bs < wP
  ·rw [if_pos h]; refine go_ ?_; exact o1_Lc
  ·rw [if_neg h]; refine go_ ?_; exact o1_Lc
structure Gw2 where
 j : Nat
 A : Option Addr
 c : Nat
theorem fVec_ok {K : List Fa} {f : Int} {A : Option Addr} {n c : Nat} {xs : List Int} (hf : f = 1 ∨ f = 2) (hx : ∀ x ∈ xs, InF f x) (hr : Vw K (fun w => Reads w 2 A n (rows eC xs))) (hn : n ≤ 1000000) (hl : xs.length = n) :
  Fn Tryz.prog 65 #[.int .u8 f, .slice A n c] K (Ret (fun _ : Option Addr × Nat => True) (fun q => .slice q.1 (vecB f xs).length q.2) (fun q => u8o q.1 q.2 (vecB f xs) :: K)) := by
 refine fe_ Tryz.func65 Tryz.ntmps65 [(0, .int .u8 f), (1, .slice A n c)] ?_
 have hsz : 0 < szF f ∧ szF f ≤ 16 := by rcases szF_or hf with h | h <;> omega
 refine go_ ?_; refine sc_for (fun q : Gw2 => [(0, .int .u8 f), (5, .slice q.A (vecB f (xs.take q.j)).length q.c), (8, .slice A n c), (9, .int .i64 n), (10, .int .i64 q.j)]) (fun q => u8o q.A q.c (vecB f (xs.take q.j)) :: K) (fun q => q.j ≤ n) (fun q => n - q.j) ⟨0, none, 0⟩ has_ (Sub.own_nil Sub.refl) (by exact Nat.zero_le _) ?_; rintro ⟨j, A1, c1⟩ hj
 dsimp only at hj ⊢
 by_cases hlt : j < n
 ·refine sc_know (vw_form (hr.mono sub_) (by omega)) ?_; rintro ⟨ad, rfl⟩
  obtain ⟨x, he⟩ : ∃ x, xs[j]? = some x := ⟨_, List.getElem?_eq_getElem (by omega)⟩
  have hxi := hx x (List.mem_of_getElem? he)
  have htk : xs.take (j + 1) = xs.take j ++ [x] := by rw [List.take_add_one, he]; rfl
  have hvl := vecB_len f (xs.take j)
  have hmul : (xs.take j).length * szF f ≤ 1000000 * 16 := Nat.mul_le_mul (by rw [List.length_take]; omega) hsz.2
  refine go_ ?_; refine sl_pu (pu_ldrs (hr.mono sub_) (by omega) rfl (rows_mid eC_len he) rfl rfl rfl) rfl ?_; refine al_ ?_; intro g7; refine go_ ?_; refine slc_ rfl rfl sub_ (fBytes_ok hf hxi) ?_; rintro g8 -; refine go_ ?_
  have hble : (bytes (le x (szF f))).length = szF f := by rw [bytes_length, le_len]
  have hlen : (vecB f (xs.take (j + 1))).length = (vecB f (xs.take j)).length + szF f := by rw [htk, vecB_snoc, List.length_append, le_len]
  refine sl_app rfl pick_ rfl (Vw.of_blk at_ hble) (one_bytes _) rfl Tryz.info5 (by decide) (by decide) rfl (by unfold maxLen; omega) (by omega) ?_; intro A2 c2; rw [← hlen, show bytes (vecB f (xs.take j)) ++ bytes (le x (szF f)) = bytes (vecB f (xs.take (j + 1))) by rw [htk, vecB_snoc]; simp [bytes]]; refine go_ ?_; exact se_round ⟨j + 1, A2, c2⟩ has_ sub_ hlt (by dsimp only; omega)
 ·obtain rfl : j = n := by omega
  have e : xs.take j = xs := List.take_of_length_le (by omega)
  rw [e]; refine go_ ?_; exact r1_ (A1, c1)
def tvV (o : Option (List Int)) (A : Option Addr) (c : Nat) : Value := match o with
 | some xs => .tuple #[.slice A xs.length c, .int .i64 0]
 | none => .tuple #[.slice none 0 0, .int .i64 7]
def tvH (o : Option (List Int)) (A : Option Addr) (c : Nat) (K : List Fa) : List Fa := match o with
 | some xs => eo A xs.length c xs :: K
 | none => K
structure Gw3 where
 j : Nat
 A : Option Addr
 c : Nat
 R : Option Addr
 d : Nat
 xs : List Int
theorem tv_step {f : Int} {n : Nat} {bs : List Int} (h : leV (bs.take (szF f)) < pF f) : takeVL f (n + 1) bs = (takeVL f n (bs.drop (szF f))).map (leV (bs.take (szF f)) :: ·) := by
 conv => lhs; unfold takeVL
 rw [if_pos h]
theorem fTakeVec_ok {K : List Fa} {f : Int} {A : Option Addr} {c m : Nat} {bs : List Int} (hf : f = 1 ∨ f = 2) (hm : m ≤ 4096) (hr : Rd K A (m * szF f) c bs) :
  Fn Tryz.prog 107 #[.int .u8 f, .slice A (m * szF f) c, .int .i64 m] K (Ret (fun _ : Option Addr × Nat => True) (fun q => tvV (takeVL f m bs) q.1 q.2) (fun q => tvH (takeVL f m bs) q.1 q.2 K)) := by
 refine fe_ Tryz.func107 Tryz.ntmps107 [(0, .int .u8 f), (1, .slice A (m * szF f) c), (2, .int .i64 m)] ?_
 have hsz : 0 < szF f ∧ szF f ≤ 16 := by rcases szF_or hf with h | h <;> omega
 obtain ⟨N, hN⟩ : ∃ N, N = m * szF f := ⟨_, rfl⟩
 have hN2 : ((m : Int) * (szF f : Int)) = (N : Int) := by rw [hN]; push_cast; rfl
 rw [← hN] at hr ⊢
 have hbig := hr.big
 refine go_ ?_; refine slc_ rfl rfl sub_ (valid_ok f) ?_; rintro _ -; rw [decide_eq_true hf]; refine go_ ?_; refine slc_ rfl rfl sub_ (fsize_ok hf) ?_; rintro _ -; refine go_ ?_
 refine sc_for (fun q : Gw3 => [(0, .int .u8 f), (1, .slice q.R ((m - q.j) * szF f) q.d), (8, .slice q.A q.xs.length q.c)]) (fun q => eo q.A q.xs.length q.c q.xs :: K)
  (fun q => q.j ≤ m ∧ q.xs.length = q.j ∧ Rd K q.R ((m - q.j) * szF f) q.d (bs.drop (q.j * szF f)) ∧ takeVL f m bs = (takeVL f (m - q.j) (bs.drop (q.j * szF f))).map (q.xs ++ ·)) (fun q => m - q.j) ⟨0, none, 0, A, c, []⟩ (by dsimp only; rw [Nat.sub_zero, ← hN]; exact has_) (Sub.own_nil Sub.refl) ⟨Nat.zero_le _, rfl, by rw [Nat.zero_mul, Nat.sub_zero, ← hN]; exact hr, by rw [Nat.zero_mul, Nat.sub_zero]; simp⟩ ?_
 rintro ⟨j, A1, c1, R, d, xs⟩ ⟨hj, hxl, hrd, htv⟩
 dsimp only at hj hxl hrd htv ⊢
 by_cases hlt : j < m
 ·obtain ⟨k, hk⟩ : ∃ k, m - j = k + 1 := ⟨m - j - 1, by omega⟩
  have hk2 : m - (j + 1) = k := by omega
  have hmu : (k + 1) * szF f = k * szF f + szF f := Nat.succ_mul _ _
  rw [hk, hmu] at hrd ⊢
  rw [hk] at htv
  obtain ⟨M, hM⟩ : ∃ M, M = k * szF f := ⟨_, rfl⟩
  rw [← hM] at hrd ⊢
  have hrb := hrd.big
  have hrl := hrd.le
  have hlen := hrd.len
  have hdd : (bs.drop (j * szF f)).drop (szF f) = bs.drop ((j + 1) * szF f) := by rw [List.drop_drop, Nat.succ_mul]
  obtain ⟨b0, hb0⟩ : ∃ b0, b0 = bs.drop (j * szF f) := ⟨_, rfl⟩
  rw [← hb0] at hrd htv hlen hdd
  have hv1 : Vw K (fun w => Reads w 1 R (szF f) (bytes (b0.take (szF f)))) := Vw.imp hrd.vw (fun w h => by have := h.take (k := szF f) (by omega); rwa [bytes_take] at this)
  have hnx := hrd.next (k := szF f) (by omega)
  rw [hdd] at hnx
  refine go_ ?_; refine slc_ rfl rfl sub_ (fsize_ok hf) ?_; rintro _ -; refine go_ ?_; refine slc_ rfl rfl sub_ (fTake_ok hf (by rw [List.length_take]; omega) (hrd.okb.take _) (hv1.mono sub_)) ?_; rintro _ -
  by_cases ht : leV (b0.take (szF f)) < pF f
  ·rw [if_pos ht]
   rw [tv_step ht] at htv
   obtain ⟨y, hy⟩ : ∃ y, y = leV (b0.take (szF f)) := ⟨_, rfl⟩
   rw [← hy] at htv ⊢
   refine go_ ?_; refine al_ ?_; intro g9; refine go_ ?_; refine sl_build (size := 2) (e := 102) (cells := eC y) rfl (fun W => by kernel_rfl) rfl (by decide) rfl ?_; intro g10; refine go_ ?_; refine sl_app rfl pick_ rfl (Vw.of_own (A := some ⟨g10, 0, none⟩) (c := 1) (e := 102) at_) (eC_one _) rfl infoE (by decide) (by decide) rfl (by unfold maxLen; omega) (by omega) ?_; intro A2 c2; rw [show rows eC xs ++ eC y = rows eC (xs ++ [y]) by simp [rows], show xs.length + 1 = (xs ++ [y]).length by simp]; refine go_ ?_; refine slc_ rfl rfl sub_ (fsize_ok hf) ?_; rintro _ -; refine go_ ?_
   rw [Nat.add_sub_cancel] at hnx ⊢
   refine se_round ⟨j + 1, A2, c2, cutA R d (szF f) 1, d - szF f, xs ++ [y]⟩ (by dsimp only; rw [hk2, ← hM]; exact has_) sub_ ⟨hlt, by simp [hxl], by dsimp only; rw [hk2, ← hM]; exact hnx, by dsimp only; rw [htv, hdd, hk2, Option.map_map]; congr 1; funext z; simp⟩ (by dsimp only; omega)
  ·rw [if_neg ht]
   have htn : takeVL f m bs = none := by
    rw [htv]
    unfold takeVL
    rw [if_neg ht]
    rfl
   rw [htn]; refine go_ ?_; refine al_ ?_; intro g9; refine go_ ?_; exact r2_ (none, 0)
 ·obtain rfl : j = m := by omega
  have e : takeVL f j bs = some xs := by
   rw [htv, Nat.sub_self]
   simp [takeVL]
  rw [Nat.sub_self, Nat.zero_mul, e]; refine go_ ?_; exact r2_ (A1, c1)
end
end
end Go.Proofs.YtocaabnbmcpjmaaGreat
