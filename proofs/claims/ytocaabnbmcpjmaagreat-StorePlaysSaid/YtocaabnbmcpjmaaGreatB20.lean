/- Several texts of one claim, one behind the other. -/
import Derived.Test.YtocaabnbmcpjmaaGreatB19
import Derived.Test.YtocaabnbmcpjmaaGreatB15
import Derived.Test.YtocaabnbmcpjmaaGreatB18
import Derived.Test.YtocaabnbmcpjmaaGreatB16
set_option linter.unusedVariables false
set_option linter.unusedSimpArgs false
set_option maxRecDepth 100000
set_option maxHeartbeats 16000000
namespace Go.Proofs.YtocaabnbmcpjmaaGreat
variable {φ ψ : Prop}
section
open Go.RowKit Go.MapKept
attribute [local irreducible] Go.Calls Go.Exit.then Go.Exit.inBlock Go.bodyPost Go.Code.wp Go.wpList takeL recordL hashL recL allL decR
section
def BkUp (fs fs' : List BK) (b' : BK) : Prop := (∃ X b Y, fs = X ++ b :: Y ∧ b.st = b'.st ∧ fs' = X ++ b' :: Y) ∨ ((∀ b ∈ fs, b.st ≠ b'.st) ∧ fs' = fs ++ [b'])
structure BkAd (t : Ta) (r : Rl) (fs : List BK) (now : Int) (id : Id) (ys : List Int) (b' : BK) : Prop where
 st : b'.st = stN r.w now
 l : b'.l = addV t.fl (match bfind fs (stN r.w now) with | none => List.replicate ys.length 0 | some b => b.l) ys
 m : b'.m = (match bfind fs (stN r.w now) with | none => 0 | some b => b.m) + 1
 k : b'.k = xorI (match bfind fs (stN r.w now) with | none => zId | some b => b.k) (ofId id)
 cl : b'.cl = false
theorem badd_any {K : List Fa} {g m ck : Nat} {t : Ta} {r : Rl} {fs : List BK} {now : Int} {id : Id} {B : Option Addr} {n cb : Nat} {ys : List Int}
  (hw : 0 ≤ r.w) (h : 0 ≤ now) (ht : t.err = 0) (hr : r.mx ≤ 256) (hf : fitsE r fs now = 0) (hfs : ∀ b ∈ fs, 0 ≤ b.m ∧ t.out = b.l.length ∧ Els b.l) (ho : t.out = n) (ey : Els ys) (hy : Vw K (fun w => Reads w 2 B n (rows eC ys))) :
  Fn Tryz.prog 108 #[.pointer (some ⟨g, 0, none⟩), .int .u64 now, id.v, .slice B n cb] (bB g t r m :: bM m fs ck :: bS fs :: K)
   (Ret (fun z : List BK × Nat => ∃ b', BkUp fs z.1 b' ∧ BkAd t r fs now id ys b') (fun _ => .int .i64 0) (fun z => bB g t r m :: bM m z.1 z.2 :: bS z.1 :: K)) := by
 cases hb : bfind fs (stN r.w now) with
 | none =>
  refine (badd_new (K := K) (g := g) (m := m) (ck := ck) (id := id) (cb := cb) hw h ht hf hb ho ey hy).say fun g5 w _ hw => ⟨(fs ++ [bfst (stN r.w now) t id ys g5 ck], ck + 1), ⟨bfst (stN r.w now) t id ys g5 ck, .inr ⟨fun b hb' => bfind_none hb b hb', rfl⟩, ?_⟩, rfl, hw⟩
  exact ⟨rfl, by rw [hb]; rfl, by rw [hb]; rfl, by rw [hb]; rfl, rfl⟩
 | some b =>
  obtain ⟨hm, hs⟩ := bfind_some hb
  obtain ⟨X, Y, rfl⟩ := List.append_of_mem hm
  obtain ⟨h1, h2, h3⟩ := hfs b hm
  obtain rfl : n = b.l.length := by omega
  refine (badd_old (K := K) (g := g) (m := m) (ck := ck) (id := id) (cb := cb) hw h ht hf hb h1 hr h2 h3 ey hy).say fun g5 w _ hw => ⟨(X ++ b.add t.fl id ys g5 :: Y, ck), ⟨b.add t.fl id ys g5, .inl ⟨X, b, Y, rfl, rfl, rfl⟩, ?_⟩, rfl, hw⟩
  exact ⟨hs, by rw [hb]; rfl, by rw [hb]; rfl, by rw [hb]; rfl, (fits_some hf hb).2.1⟩
theorem takeVL_vec {f : Int} (hf : f = 1 ∨ f = 2) : ∀ {xs : List Int}, (∀ x ∈ xs, InF f x) → takeVL f xs.length (vecB f xs) = some xs
 | [], _ => rfl
 | x :: xs, h => by
  have h1 : (le x (szF f)).length = szF f := le_len _ _
  have h2 : vecB f (x :: xs) = le x (szF f) ++ vecB f xs := rfl
  have h3 : leV (le x (szF f)) = x := leV_in (h x (List.mem_cons_self)) hf
  rw [h2, List.length_cons, tv_step (by rw [List.take_left' h1, h3]; exact (h x List.mem_cons_self).2), List.take_left' h1, List.drop_left' h1, h3, takeVL_vec hf (fun y hy => h y (List.mem_cons_of_mem _ hy))]
  rfl
theorem inF_El {f x : Int} (hf : f = 1 ∨ f = 2) (h : InF f x) : El x := by
 obtain ⟨h1, h2⟩ := h
 refine ⟨h1, ?_⟩
 rcases szF_or hf with ⟨-, h4, h3⟩ | ⟨-, h4, h3⟩
 ·rw [h3] at h2; omega
 ·rw [h3] at h2; exact Int.lt_trans h2 (by decide)
def ComP (t : Ta) (r : Rl) (q : StM) (id : Id) (xs said : List Int) (q' : StM) : Prop :=
 ∃ w A1 c1 b' fs' cb' sA sc, wfind q.ws id = some w ∧ BkUp q.fs fs' b' ∧ BkAd t r q.fs w.t id xs b' ∧
  q' = { q with iA := A1, ic := c1, ss := (setI q.ss id 0 (by decide)).2, fs := fs', cb := cb', ws := wdel q.ws id, sd := q.sd ++ [⟨id, sA, sc, said, q.cs⟩], cs := q.cs + 1 }
namespace pUa
theorem nthx_ (h : φ := by first | rfl | exact rpC_n16 | exact rpC_n17 | exact rpC_n18 | exact stC9_n9) : φ := h
theorem midx_ (h : φ := by first | exact rpC_id | exact stC9_ci | exact stC9_mid | exact Mid.all) : φ := h
theorem szx_ (h : φ := by ((try simp only [Wt.cells, rpC_len, bytes_length, Id.len, Seen.len]); (first | done | rfl); first | done | fail)) : φ := h
theorem onex_ (h : φ := by first | exact one_bytes _ | exact rpC_one rfl rfl | exact Seen.one _) : φ := h
theorem setx_ (h : φ := by first | exact rpC_set16 | exact rpC_set17 | exact rpC_set18) : φ := h
end pUa
open pUa
theorem scommit_ok {K : List Fa} {g : Nat} {t : Ta} {r : Rl} {lim : Int} {q : StM} {id : Id} {w : Wt} {xs said : List Int} {A B : Option Addr} {c d : Nat} (hs : Srt q.ss) (hn : q.ss.length ≤ 1000000) (ht : t.err = 0) (hrw : 0 ≤ r.w) (hmx : r.mx ≤ 256)
  (hf : wfind q.ws id = some w) (hwt : 0 ≤ w.t) (hfl : t.fl = 1 ∨ t.fl = 2) (hxl : t.out = xs.length) (hx : ∀ x ∈ xs, InF t.fl x) (hfit : fitsE r q.fs w.t = 0) (hfs : ∀ b ∈ q.fs, 0 ≤ b.m ∧ t.out = b.l.length ∧ Els b.l)
  (hout : Rd K A (xs.length * szF t.fl) c (vecB t.fl xs)) (hsr : Vw K (fun w => Reads w 1 B said.length (bytes said))) (hsl : said.length ≤ 1000000) (hns : ∀ s ∈ q.sd, s.id ≠ id) :
  Fn Tryz.prog 67 #[.pointer (some ⟨g, 0, none⟩), id.v, .slice A (xs.length * szF t.fl) c, .slice B said.length d] (sF g t r lim q K)
   (Ret (ComP t r q id xs said) (fun _ => .int .i64 0) (fun z => sF g t r lim z K)) := by
 refine fe_ Tryz.func67 Tryz.ntmps67 [(0, .pointer (some ⟨g, 0, none⟩)), (1, id.v), (2, .slice A (xs.length * szF t.fl) c), (3, .slice B said.length d)] ?_
 have hk := id.klaw
 obtain ⟨rfl, X, Y, hXY, hdel⟩ := wfind_split hf
 have hg : MGet (q.ws.map WM.ent) w.id.v (.agg w.cells.toArray) := kget (M := WM) (wfind_some hf).1
 have hol := t.out_le ht
 refine go_ ?_; refine bx_ ?_; intro g5; refine go_ ?_; refine dr_ [sB g t q.gj q.gi q.gb q.mw q.ms q.life, blk g5 47 (bytes w.id.l), wM q.mw q.ws q.cw] 12 ?_; refine y4_ 0 1 2 3 ?_; refine y4_ 4 5 6 7 ?_; refine wy_ 8 ?_; refine w1_ 9 ?_; refine al_ ?_; intro g9; refine v1_ 10 ?_; refine sto_ ?_; refine vy_ 11 ?_; refine wx_ ?_; refine go_ ?_; refine dr_ [sB g t q.gj q.gi q.gb q.mw q.ms q.life] 19 ?_; refine y4_ 0 1 2 3 ?_; refine y4_ 4 5 6 7 ?_; refine y4_ 8 9 10 11 ?_; refine w1_ 12 ?_; refine slc_ rfl rfl Sub.refl (out_ok t.kd t.fl t.bt t.ln t.wt t.ch) ?_; rintro _ -; rw [show outN t.kd t.ln = (xs.length : Int) from hxl]; refine v1_ 13 ?_; refine slc_ rfl rfl Sub.refl (fTakeVec_ok (m := xs.length) hfl (by omega) (hout.mono sub_)) ?_; rintro ⟨A2, c2⟩ -; rw [takeVL_vec hfl hx]
 dsimp only [tvV, tvH]
 refine vy_ 14 ?_; refine y4_ 15 16 17 18 ?_; refine wx_ ?_; refine go_ ?_; refine sc_join (α := List BK × Nat) (fun _ => [(0, .pointer (some ⟨g, 0, none⟩)), (3, .slice B said.length d), (5, .pointer (some ⟨g5, 0, none⟩)), (13, .int .i64 0)]) (fun z => blk g5 47 (bytes w.id.l) :: sF g t r lim { q with fs := z.1, cb := z.2 } K) (fun z => ∃ b', BkUp q.fs z.1 b' ∧ BkAd t r q.fs w.t w.id xs b') ?_ ?_
 ·refine dr_ [sB g t q.gj q.gi q.gb q.mw q.ms q.life, blk g5 47 (bytes w.id.l), blk g9 49 w.cells] 10 ?_; refine y4_ 0 1 2 3 ?_; refine y4_ 4 5 6 7 ?_; refine w1_ 8 ?_; refine slc_ rfl rfl sub_ (badd_any (g := q.gb) (m := q.mb) (ck := q.cb) (t := t) (r := r) (fs := q.fs) (id := w.id) (ys := xs) (K := eo A2 xs.length c2 xs :: sB g t q.gj q.gi q.gb q.mw q.ms q.life :: blk g5 47 (bytes w.id.l) :: blk g9 49 w.cells :: ixb q.gi q.iA q.ss.length q.ic lim :: ixo q.iA q.ic q.ss :: wM q.mw q.ws q.cw :: wS q.ws :: dMm q.ms q.sd q.cs :: dSs q.sd :: K) hrw hwt ht hmx hfit hfs (by omega) (fun x hx' => inF_El hfl (hx x hx')) (Vw.of_own at_)) ?_; rintro z hz; refine vy_ 9 ?_; refine wx_ ?_; exact se_mid z has_ sub_ hz
 rintro ⟨fs', cb'⟩ ⟨b', hup, had⟩; dsimp only; refine go_ ?_; refine dr_ [sB g t q.gj q.gi q.gb q.mw q.ms q.life, blk g5 47 (bytes w.id.l)] 6 ?_; refine y4_ 0 1 2 3 ?_; refine wy_ 4 ?_; refine w1_ 5 ?_; refine slc_ rfl rfl (by exact Sub.cons pick_ (Sub.cons pick_ Sub.refl)) (set_okL (x := q.gi) (A := q.iA) (c := q.ic) (lim := lim) (ss := q.ss) w.id (co := 0) (by decide) hs hn) ?_; rintro ⟨A1, c1⟩ -; refine vx_ ?_; dsimp only; refine go_ ?_; refine dr_ [sB g t q.gj q.gi q.gb q.mw q.ms q.life, blk g5 47 (bytes w.id.l)] 8 ?_; refine y4_ 0 1 2 3 ?_; refine y2_ 4 5 ?_; refine w1_ 6 ?_; refine slc_ rfl rfl Sub.refl (clone_ok (hsr.mono sub_) (by omega)) ?_; rintro ⟨A3, c3⟩ -; refine v1_ 7 ?_; refine sl_knewK (M := SDM) (f' := ⟨w.id, A3, c3, said, q.cs⟩) (fs := q.sd) (k := w.id.v) rfl rfl rfl rfl rfl (fun s hs' e => hns s hs' (Id.v_inj e)) pick_ rfl hk ?_; refine vx_ ?_; refine go_ ?_; refine dr_ [sB g t q.gj q.gi q.gb q.mw q.ms q.life, blk g5 47 (bytes w.id.l)] 6 ?_; refine y4_ 0 1 2 3 ?_; refine wy_ 4 ?_; refine w1_ 5 ?_; refine sl_kdelK (M := WM) (X := X) (Y := Y) (f := w) rfl rfl (by rw [hXY]; exact pick_) rfl hk ?_; refine vx_ ?_; refine go_ ?_
 refine se_subK (L' := wS (X ++ w :: Y) :: u8o A3 c3 said :: dSs q.sd :: wM q.mw (X ++ Y) q.cw :: sB g t q.gj q.gi q.gb q.mw q.ms q.life :: ixb q.gi A1 (setI q.ss w.id 0 (by decide)).2.length c1 lim :: ixo A1 c1 (setI q.ss w.id 0 (by decide)).2 :: bB q.gb t r q.mb :: bM q.mb fs' cb' :: bS fs' :: dMm q.ms (q.sd ++ [⟨w.id, A3, c3, said, q.cs⟩]) (q.cs + 1) :: K) (by rw [← hXY]; exact sub_) ?_; refine se_ent (ks_del (M := WM)) ?_; refine se_subK (L' := u8o A3 c3 said :: dSs q.sd :: wS (X ++ Y) :: wM q.mw (X ++ Y) q.cw :: sB g t q.gj q.gi q.gb q.mw q.ms q.life :: ixb q.gi A1 (setI q.ss w.id 0 (by decide)).2.length c1 lim :: ixo A1 c1 (setI q.ss w.id 0 (by decide)).2 :: bB q.gb t r q.mb :: bM q.mb fs' cb' :: bS fs' :: dMm q.ms (q.sd ++ [⟨w.id, A3, c3, said, q.cs⟩]) (q.cs + 1) :: K) sub_ ?_; refine se_ent (ks_new (M := SDM) (fs := q.sd) (f' := ⟨w.id, A3, c3, said, q.cs⟩)) ?_; exact se_ret1 ({ q with iA := A1, ic := c1, ss := (setI q.ss w.id 0 (by decide)).2, fs := fs', cb := cb', ws := X ++ Y, sd := q.sd ++ [⟨w.id, A3, c3, said, q.cs⟩], cs := q.cs + 1 } : StM) ⟨w, A1, c1, b', fs', cb', A3, c3, hf, hup, had, by rw [hdel]⟩ rfl rfl sub_
end
end
section
open Go.RowKit Go.MapKept
attribute [local irreducible] hashL ofId addV xorI
section
variable {α β : Type} {k : α → β} {l l' X Y : List α} {x x' a : α} {b : β}
def Kd (k : α → β) (l : List α) : Prop := l.Pairwise (fun a b => k a ≠ k b)
theorem Kd.one (h : Kd k l) {a c : α} (ha : a ∈ l) (hc : c ∈ l) (e : k a = k c) : a = c := by
 induction l with
 | nil => cases ha
 | cons y r ih =>
  obtain ⟨h1, h2⟩ := List.pairwise_cons.1 h
  rcases List.mem_cons.1 ha with e1 | e1 <;> rcases List.mem_cons.1 hc with e2 | e2
  ·rw [e1, e2]
  ·rw [e1] at e; exact absurd e (h1 c e2)
  ·rw [e2] at e; exact absurd e.symm (h1 a e1)
  ·exact ih h2 e1 e2
theorem Kd.perm (h : Kd k l) (hp : l.Perm l') : Kd k l' := hp.pairwise h (fun {_ _} h e => h e.symm)
theorem Kd.snoc (h : Kd k l) (hn : ∀ a ∈ l, k a ≠ k x) : Kd k (l ++ [x]) := List.pairwise_append.2 ⟨h, List.pairwise_singleton .., fun a ha b hb => by rw [List.mem_singleton.1 hb]; exact hn a ha⟩
theorem Kd.set (h : Kd k (X ++ x :: Y)) (e : k x' = k x) : Kd k (X ++ x' :: Y) := by
 obtain ⟨h1, h2, h3⟩ := List.pairwise_append.1 h
 obtain ⟨h4, h5⟩ := List.pairwise_cons.1 h2
 refine List.pairwise_append.2 ⟨h1, List.pairwise_cons.2 ⟨fun a ha => by rw [e]; exact h4 a ha, h5⟩, fun a ha b hb => ?_⟩
 rcases List.mem_cons.1 hb with e1 | e1
 ·rw [e1, e]; exact h3 a ha x List.mem_cons_self
 ·exact h3 a ha b (List.mem_cons_of_mem _ e1)
theorem Kd.del (h : Kd k (X ++ x :: Y)) : Kd k (X ++ Y) := by
 obtain ⟨h1, h2, h3⟩ := List.pairwise_append.1 h
 obtain ⟨h4, h5⟩ := List.pairwise_cons.1 h2
 exact List.pairwise_append.2 ⟨h1, h5, fun a ha b hb => h3 a ha b (List.mem_cons_of_mem _ hb)⟩
theorem Kd.nodup (h : Kd k l) : (l.map k).Nodup := by
 unfold List.Nodup
 rw [List.pairwise_map]; exact h
theorem nd_len {u v : List β} (hu : u.Nodup) (hv : v.Nodup) (h : ∀ x, x ∈ u ↔ x ∈ v) : u.length = v.length := ((List.perm_ext_iff_of_nodup hu hv).2 h).length_eq
end
section
variable {α β : Type} [DecidableEq β] {k : α → β} {l l' X Y : List α} {x x' a : α} {b : β}
def kf (k : α → β) (l : List α) (b : β) : Option α := l.find? (fun a => decide (k a = b))
theorem kf_some (h : kf k l b = some a) : a ∈ l ∧ k a = b := ⟨List.mem_of_find?_eq_some h, by simpa using List.find?_some h⟩
theorem kf_none (h : kf k l b = none) : ∀ a ∈ l, k a ≠ b := fun a ha => by simpa using List.find?_eq_none.1 h a ha
theorem kf_none' (h : ∀ a ∈ l, k a ≠ b) : kf k l b = none := List.find?_eq_none.2 fun a ha => by simpa using h a ha
theorem kf_mem (h : Kd k l) (ha : a ∈ l) : kf k l (k a) = some a := by
 cases hf : kf k l (k a) with
 | none => exact absurd rfl (kf_none hf a ha)
 | some c =>
  obtain ⟨h1, h2⟩ := kf_some hf
  rw [h.one h1 ha h2]
theorem kf_iff (h : Kd k l) : kf k l b = some a ↔ a ∈ l ∧ k a = b := ⟨kf_some, fun ⟨h1, h2⟩ => by rw [← h2]; exact kf_mem h h1⟩
theorem kf_perm (h : Kd k l) (hp : l.Perm l') : kf k l' b = kf k l b := by
 cases hf : kf k l b with
 | none => exact kf_none' fun a ha => kf_none hf a (hp.mem_iff.2 ha)
 | some c =>
  obtain ⟨h1, h2⟩ := kf_some hf
  exact (kf_iff (h.perm hp)).2 ⟨hp.mem_iff.1 h1, h2⟩
theorem kf_snoc (hn : ∀ a ∈ l, k a ≠ k x) : kf k (l ++ [x]) b = if b = k x then some x else kf k l b := by
 unfold kf
 rw [List.find?_append]
 by_cases e : b = k x
 ·rw [if_pos e, e]
  have h1 : l.find? (fun a => decide (k a = k x)) = none := List.find?_eq_none.2 fun a ha => by simpa using hn a ha
  rw [h1]
  simp
 ·rw [if_neg e]
  have h1 : [x].find? (fun a => decide (k a = b)) = none := List.find?_eq_none.2 fun a ha => by
   rw [List.mem_singleton.1 ha]
   simpa using fun h => e h.symm
  rw [h1]
  simp
theorem kf_set (h : Kd k (X ++ x :: Y)) (e : k x' = k x) : kf k (X ++ x' :: Y) b = if b = k x then some x' else kf k (X ++ x :: Y) b := by
 have h' := h.set (x' := x') e
 by_cases hb : b = k x
 ·rw [if_pos hb, hb, ← e]; exact kf_mem h' (by simp)
 ·rw [if_neg hb]
  cases hf : kf k (X ++ x :: Y) b with
  | none =>
   refine kf_none' fun a ha => ?_
   have h1 := kf_none hf
   rcases List.mem_append.1 ha with e1 | e1
   ·exact h1 a (by simp [e1])
   ·rcases List.mem_cons.1 e1 with e2 | e2
    ·rw [e2, e]; exact fun h => hb h.symm
    ·exact h1 a (by simp [e2])
  | some c =>
   obtain ⟨h1, h2⟩ := kf_some hf
   refine (kf_iff h').2 ⟨?_, h2⟩
   rcases List.mem_append.1 h1 with e1 | e1
   ·simp [e1]
   ·rcases List.mem_cons.1 e1 with e2 | e2
    ·rw [e2] at h2; exact absurd h2.symm hb
    ·simp [e2]
theorem kf_del (h : Kd k (X ++ x :: Y)) : kf k (X ++ Y) b = if b = k x then none else kf k (X ++ x :: Y) b := by
 by_cases hb : b = k x
 ·rw [if_pos hb, hb]; refine kf_none' fun a ha e => ?_
  obtain ⟨h1, h2, h3⟩ := List.pairwise_append.1 h
  obtain ⟨h4, h5⟩ := List.pairwise_cons.1 h2
  rcases List.mem_append.1 ha with e1 | e1
  ·exact h3 a e1 x List.mem_cons_self e
  ·exact h4 a e1 e.symm
 ·rw [if_neg hb]
  cases hf : kf k (X ++ x :: Y) b with
  | none => exact kf_none' fun a ha => kf_none hf a (by rcases List.mem_append.1 ha with e | e <;> simp [e])
  | some c =>
   obtain ⟨h1, h2⟩ := kf_some hf
   refine (kf_iff h.del).2 ⟨?_, h2⟩
   rcases List.mem_append.1 h1 with e1 | e1
   ·simp [e1]
   ·rcases List.mem_cons.1 e1 with e2 | e2
    ·rw [e2] at h2; exact absurd h2.symm hb
    ·simp [e2]
theorem nd_sub {u v : List β} (hu : u.Nodup) (h : ∀ x ∈ u, x ∈ v) (hl : v.length ≤ u.length) (hv : v.Nodup) : ∀ x ∈ v, x ∈ u := by
 have h1 : (v.filter (fun x => decide (x ∈ u))).length = u.length := by
  refine nd_len (hv.filter _) hu fun x => ?_; rw [List.mem_filter]; exact ⟨fun ⟨_, h⟩ => by simpa using h, fun hx => ⟨h x hx, by simpa using hx⟩⟩
 have h2 : (v.filter (fun x => decide (x ∈ u))).length = v.length := by
  have := List.length_filter_le (fun x => decide (x ∈ u)) v
  omega
 intro x hx
 have h3 := List.length_filter_eq_length_iff.1 h2 x hx
 simpa using h3
end
structure Ab where
 seen : Id → Option (Int × Int)
 wait : Id → Option (Int × List Int × List Int)
 said : Id → Option (List Int)
 win : Int → Option (List Int × Int × Id × Bool)
 n : Nat
 nw : Nat
 nb : Nat
def sk_ (s : Seen) : List Int := s.id.l
def wk_ (w : Wt) : List Int := w.id.l
def dk_ (d : Id × List Int) : List Int := d.1.l
theorem bfind_kf (fs : List BK) (s : Int) : bfind fs s = kf BK.st fs s := rfl
theorem kf_has {ss : List Seen} {i : Id} : hasI ss i = (kf sk_ ss i.l).isSome := by
 unfold hasI kf
 rw [Bool.eq_iff_iff, List.find?_isSome]
 simp only [List.any_eq_true, decide_eq_true_eq]
 constructor
 ·rintro ⟨x, h1, h2⟩; exact ⟨x, h1, congrArg Id.l ((Id.eq_iff _ _).1 h2)⟩
 ·rintro ⟨x, h1, h2⟩; exact ⟨x, h1, (Id.eq_iff _ _).2 (Id.ext_ h2)⟩
def updI {α : Type} (f : Id → Option α) (i : Id) (v : Option α) : Id → Option α := fun j => if j.l = i.l then v else f j
def updZ {α : Type} (f : Int → Option α) (s : Int) (v : Option α) : Int → Option α := fun z => if z = s then v else f z
theorem updI_self {α : Type} {f : Id → Option α} {i : Id} {v : Option α} : updI f i v i = v := if_pos rfl
def Ab.accd (a : Ab) (id : Id) (tm : Int) (p s : List Int) : Ab := ⟨updI a.seen id (some (tm, 30)), updI a.wait id (some (tm, p, s)), a.said, a.win, a.n + 1, a.nw + 1, a.nb⟩
def Ab.rejd (a : Ab) (id : Id) (c : Int) : Ab := ⟨updI a.seen id ((a.seen id).map fun x => (x.1, c)), updI a.wait id none, a.said, a.win, a.n, a.nw - 1, a.nb⟩
def addW (t : Ta) (o : Option (List Int × Int × Id × Bool)) (id : Id) (xs : List Int) : List Int × Int × Id × Bool :=
 (addV t.fl (match o with | none => List.replicate xs.length 0 | some b => b.1) xs, (match o with | none => 0 | some b => b.2.1) + 1, xorI (match o with | none => zId | some b => b.2.2.1) (ofId id), false)
def Ab.comd (t : Ta) (r : Rl) (a : Ab) (id : Id) (xs said : List Int) : Ab := match a.wait id with
 | none => a
 | some x => ⟨updI a.seen id ((a.seen id).map fun y => (y.1, 0)), updI a.wait id none, updI a.said id (some said), updZ a.win (stN r.w x.1) (some (addW t (a.win (stN r.w x.1)) id xs)), a.n, a.nw - 1, if (a.win (stN r.w x.1)).isSome then a.nb else a.nb + 1⟩
def Ab.shutd (a : Ab) (s : Int) : Ab := ⟨a.seen, a.wait, a.said, updZ a.win s ((a.win s).map fun b => (b.1, b.2.1, b.2.2.1, true)), a.n, a.nw, a.nb⟩
def Ab.no : Ab := ⟨fun _ => none, fun _ => none, fun _ => none, fun _ => none, 0, 0, 0⟩
def fitsA (r : Rl) (a : Ab) (now : Int) : Int := if 1099511627776 < now then 15 else match a.win (stN r.w now) with
 | none => if a.nb = 32 then 5 else if r.mx ≤ 0 then 18 else 0
 | some b => if b.2.2.2 then 16 else if r.mx ≤ b.2.1 then 18 else 0
def accA (r : Rl) (lim : Int) (a : Ab) (id : Id) (now : Int) : Int := if (a.seen id).isSome then 14 else if lim - a.n < 1 then 18 else fitsA r a now
def comA (r : Rl) (a : Ab) (id : Id) : Int := match a.wait id with | none => 19 | some x => fitsA r a x.1
def rejA (a : Ab) (id : Id) (c : Int) : Int := if (a.wait id).isSome then (if c ≤ 0 ∨ c = 30 ∨ 31 < c then 10 else 0) else 19
def closeA (r : Rl) (a : Ab) (s : Int) : Int := if 1099511627776 < s ∨ stN r.w s ≠ s then 15 else match a.win s with
 | none => 19
 | some b => if b.2.1 < r.mn then 17 else 0
structure GA (t : Ta) (r : Rl) (lim : Int) (a : Ab) : Prop where
 w1 : ∀ i x, a.wait i = some x → a.seen i = some (x.1, 30) ∧ x.2.1.length ≤ 1000 ∧ x.2.2.length ≤ 1000 ∧ IsBytes x.2.1 ∧ IsBytes x.2.2
 w2 : ∀ i tm, a.seen i = some (tm, 30) → (a.wait i).isSome = true
 d1 : ∀ i tm c, a.seen i = some (tm, c) → ((a.said i).isSome = true ↔ c = 0)
 d2 : ∀ i, (a.said i).isSome = true → (a.seen i).isSome = true
 d3 : ∀ i d, a.said i = some d → d.length ≤ 2000 ∧ IsBytes d
 b1 : ∀ s b, a.win s = some b → (b.1.length : Int) = t.out ∧ Els b.1 ∧ 0 ≤ b.2.1 ∧ b.2.1 ≤ r.mx ∧ (b.2.2.2 = true → s ≤ 1099511627776 ∧ stN r.w s = s ∧ r.mn ≤ b.2.1)
 n : (a.n : Int) ≤ lim
 nb : a.nb ≤ 32
 t1 : ∀ i x, a.seen i = some x → 0 ≤ x.1 ∧ x.1 ≤ 1099511627776
theorem GA.none_ {t : Ta} {r : Rl} {lim : Int} (h : 0 ≤ lim) : GA t r lim Ab.no :=
 ⟨fun _ _ h => (by cases h), fun _ _ h => (by cases h), fun _ _ _ h => (by cases h), fun _ h => (by cases h), fun _ _ h => (by cases h), fun _ _ h => (by cases h), h, Nat.zero_le _, fun _ _ h => (by cases h)⟩
theorem GA.nosaid {t : Ta} {r : Rl} {lim : Int} {a : Ab} (h : GA t r lim a) {i : Id} {x : Int × List Int × List Int} (hx : a.wait i = some x) : a.said i = none := by
 have h1 := (h.w1 i x hx).1
 have h2 := h.d1 i _ _ h1
 cases hs : a.said i with
 | none => rfl
 | some d => rw [hs] at h2; exact absurd (h2.1 rfl) (by decide)
theorem GA.nowait {t : Ta} {r : Rl} {lim : Int} {a : Ab} (h : GA t r lim a) {i : Id} (hx : a.seen i = none) : a.wait i = none ∧ a.said i = none := by
 constructor
 ·cases hs : a.wait i with
  | none => rfl
  | some d => have := (h.w1 i d hs).1; rw [hx] at this; cases this
 ·cases hs : a.said i with
  | none => rfl
  | some d => have := h.d2 i (by rw [hs]; rfl); rw [hx] at this; cases this
theorem GA.accd {t : Ta} {r : Rl} {lim tm : Int} {a : Ab} {id : Id} {p s : List Int} (h : GA t r lim a) (hno : a.seen id = none) (hn : (a.n : Int) < lim) (ht : 0 ≤ tm ∧ tm ≤ 1099511627776) (hp : p.length ≤ 1000) (hs : s.length ≤ 1000) (hbp : IsBytes p) (hbs : IsBytes s) : GA t r lim (a.accd id tm p s) := by
 obtain ⟨n1, n2⟩ := h.nowait hno
 refine ⟨fun i x hx => ?_, fun i z hz => ?_, fun i z c hz => ?_, fun i hi => ?_, h.d3, h.b1, by show ((a.n + 1 : Nat) : Int) ≤ lim; omega, h.nb, fun i x hx => ?_⟩
 ·simp only [Ab.accd, updI] at hx ⊢
  split at hx
  ·rename_i e
   cases hx
   rw [if_pos e]; exact ⟨rfl, hp, hs, hbp, hbs⟩
  ·rename_i e
   rw [if_neg e]; exact h.w1 i x hx
 ·simp only [Ab.accd, updI] at hz ⊢
  split at hz
  ·rename_i e; rw [if_pos e]; rfl
  ·rename_i e; rw [if_neg e]; exact h.w2 i z hz
 ·simp only [Ab.accd, updI] at hz ⊢
  split at hz
  ·rename_i e
   cases hz
   rw [Id.ext_ e, n2]
   simp
  ·exact h.d1 i z c hz
 ·simp only [Ab.accd, updI] at hi ⊢
  split
  ·rfl
  ·exact h.d2 i hi
 ·simp only [Ab.accd, updI] at hx
  split at hx
  ·cases hx; exact ht
  ·exact h.t1 i x hx
theorem GA.rejd {t : Ta} {r : Rl} {lim c : Int} {a : Ab} {id : Id} (h : GA t r lim a) (hw : (a.wait id).isSome = true) (h0 : c ≠ 0) (h30 : c ≠ 30) : GA t r lim (a.rejd id c) := by
 obtain ⟨y, hy⟩ := Option.isSome_iff_exists.1 hw
 have hs := (h.w1 id y hy).1
 have hd := h.nosaid hy
 refine ⟨fun i x hx => ?_, fun i z hz => ?_, fun i z c' hz => ?_, fun i hi => ?_, h.d3, h.b1, h.n, h.nb, fun i x hx => ?_⟩
 ·simp only [Ab.rejd, updI] at hx ⊢
  split at hx
  ·cases hx
  ·rename_i e; rw [if_neg e]; exact h.w1 i x hx
 ·simp only [Ab.rejd, updI] at hz ⊢
  split at hz
  ·rw [hs] at hz
   have : c = 30 := by simpa using (congrArg (fun o => (o.map Prod.snd).getD 0) hz)
   exact absurd this h30
  ·rename_i e; rw [if_neg e]; exact h.w2 i z hz
 ·simp only [Ab.rejd, updI] at hz ⊢
  split at hz
  ·rename_i e
   rw [hs] at hz
   have : c = c' := by simpa using (congrArg (fun o => (o.map Prod.snd).getD 0) hz)
   rw [Id.ext_ e, hd, ← this]
   simp [h0]
  ·exact h.d1 i z c' hz
 ·simp only [Ab.rejd, updI] at hi ⊢
  split
  ·rw [hs]; rfl
  ·exact h.d2 i hi
 ·simp only [Ab.rejd, updI] at hx
  split at hx
  ·rw [hs] at hx
   cases hx
   have := h.t1 id _ hs
   exact this
  ·exact h.t1 i x hx
theorem addW_ok {t : Ta} {r : Rl} {a : Ab} {lim tm : Int} {id : Id} {xs : List Int} (h : GA t r lim a) (hf : fitsA r a tm = 0) (hx : (xs.length : Int) = t.out) : ((addW t (a.win (stN r.w tm)) id xs).1.length : Int) = t.out ∧ Els (addW t (a.win (stN r.w tm)) id xs).1 ∧ 0 ≤ (addW t (a.win (stN r.w tm)) id xs).2.1 ∧ (addW t (a.win (stN r.w tm)) id xs).2.1 ≤ r.mx := by
 refine ⟨?_, addV_els _ _ _, ?_⟩
 ·unfold addW
  cases hb : a.win (stN r.w tm) with
  | none => dsimp only; rw [addV_len (by simp)]; simpa using hx
  | some b =>
   dsimp only
   have := (h.b1 _ _ hb).1
   rw [addV_len (by omega)]; exact this
 ·unfold fitsA at hf
  split at hf
  ·cases hf
  ·unfold addW
   cases hb : a.win (stN r.w tm) with
   | none =>
    rw [hb] at hf
    dsimp only at hf ⊢
    split at hf
    ·cases hf
    ·split at hf
     ·cases hf
     ·exact ⟨by decide, by omega⟩
   | some b =>
    rw [hb] at hf
    have := h.b1 _ _ hb
    dsimp only at hf ⊢
    split at hf
    ·cases hf
    ·split at hf
     ·cases hf
     ·exact ⟨by omega, by omega⟩
theorem GA.comd {t : Ta} {r : Rl} {lim : Int} {a : Ab} {id : Id} {x : Int × List Int × List Int} {xs said : List Int} (h : GA t r lim a) (hw : a.wait id = some x) (hf : fitsA r a x.1 = 0) (hx : (xs.length : Int) = t.out) (hl : said.length ≤ 2000) (hsb : IsBytes said) : GA t r lim (a.comd t r id xs said) := by
 have hs := (h.w1 id x hw).1
 obtain ⟨o1, o2, o3, o4⟩ := addW_ok (id := id) h hf hx
 unfold Ab.comd
 rw [hw]; dsimp only
 refine ⟨fun i x hx => ?_, fun i z hz => ?_, fun i z c' hz => ?_, fun i hi => ?_, fun i d hi => ?_, fun s b hb => ?_, h.n, ?_, fun i x hx => ?_⟩
 ·simp only [updI] at hx ⊢
  split at hx
  ·cases hx
  ·rename_i e; rw [if_neg e]; exact h.w1 i x hx
 ·simp only [updI] at hz ⊢
  split at hz
  ·rw [hs] at hz
   have : (0 : Int) = 30 := by simpa using (congrArg (fun o => (o.map Prod.snd).getD 0) hz)
   exact absurd this (by decide)
  ·rename_i e; rw [if_neg e]; exact h.w2 i z hz
 ·simp only [updI] at hz ⊢
  split at hz
  ·rename_i e
   rw [hs] at hz
   have : (0 : Int) = c' := by simpa using (congrArg (fun o => (o.map Prod.snd).getD 0) hz)
   rw [if_pos e, ← this]
   simp
  ·rename_i e; rw [if_neg e]; exact h.d1 i z c' hz
 ·simp only [updI] at hi ⊢
  split
  ·rw [hs]; rfl
  ·rename_i e; rw [if_neg e] at hi; exact h.d2 i hi
 ·simp only [updI] at hi
  split at hi
  ·cases hi; exact ⟨hl, hsb⟩
  ·exact h.d3 i d hi
 ·simp only [updZ] at hb
  split at hb
  ·cases hb; exact ⟨o1, o2, o3, o4, fun e => by cases e⟩
  ·exact h.b1 s b hb
 ·have hnb := h.nb
  show (if (a.win (stN r.w x.1)).isSome then a.nb else a.nb + 1) ≤ 32
  split
  ·exact hnb
  ·rename_i e
   unfold fitsA at hf
   split at hf
   ·cases hf
   ·cases hb : a.win (stN r.w x.1) with
    | none =>
     rw [hb] at hf
     have h32 : a.nb ≠ 32 := fun h32 => by
      have hf' : (if a.nb = 32 then (5 : Int) else if r.mx ≤ 0 then 18 else 0) = 0 := hf
      rw [if_pos h32] at hf'
      cases hf'
     omega
    | some b => rw [hb] at e; exact absurd rfl e
 ·simp only [updI] at hx
  split at hx
  ·rw [hs] at hx
   cases hx
   have := h.t1 id _ hs
   exact this
  ·exact h.t1 i x hx
theorem closeA_0 {r : Rl} {a : Ab} {s : Int} (h : closeA r a s = 0) : s ≤ 1099511627776 ∧ stN r.w s = s ∧ ∃ b, a.win s = some b ∧ r.mn ≤ b.2.1 := by
 unfold closeA at h
 split at h
 ·cases h
 ·rename_i h1
  cases hf : a.win s with
  | none => rw [hf] at h; cases h
  | some b =>
   rw [hf] at h
   dsimp only at h
   split at h
   ·cases h
   ·exact ⟨by omega, Decidable.byContradiction fun hc => h1 (.inr hc), b, rfl, by omega⟩
theorem GA.shutd {t : Ta} {r : Rl} {lim s : Int} {a : Ab} (h : GA t r lim a) (hc : closeA r a s = 0) : GA t r lim (a.shutd s) := by
 obtain ⟨c1, c2, b, c3, c4⟩ := closeA_0 hc
 refine ⟨h.w1, h.w2, h.d1, h.d2, h.d3, fun z b' hb => ?_, h.n, h.nb, h.t1⟩
 simp only [Ab.shutd, updZ] at hb
 split at hb
 ·rename_i e
  rw [c3] at hb
  cases hb
  obtain ⟨h1, h2, h3, h4, -⟩ := h.b1 s b c3
  exact ⟨h1, h2, h3, h4, fun _ => by rw [e]; exact ⟨c1, c2, c4⟩⟩
 ·exact h.b1 z b' hb
inductive Evt where
 | acc (id : Id) (tm : Int) (p s : List Int)
 | com (id : Id) (xs said : List Int)
 | rej (id : Id) (c : Int)
 | shut (s : Int)
 | life (n : Int)
def Evt.by_ (t : Ta) : Evt → List Int
 | .acc id tm p s => 1 :: rcAcc id tm p s
 | .com id xs said => 2 :: rcCom id (vecB t.fl xs) said
 | .rej id c => 3 :: rcRej id c
 | .shut s => 4 :: rcShut s
 | .life n => 5 :: rcLife n
def Evt.go (t : Ta) (r : Rl) : Evt → Ab × Int → Ab × Int
 | .acc id tm p s, a => (a.1.accd id tm p s, a.2)
 | .com id xs said, a => (a.1.comd t r id xs said, a.2)
 | .rej id c, a => (a.1.rejd id c, a.2)
 | .shut s, a => (a.1.shutd s, a.2)
 | .life n, a => (a.1, n)
def Evt.can (t : Ta) (r : Rl) (lim : Int) : Evt → Ab × Int → Prop
 | .acc id tm p s, a => a.1.seen id = none ∧ (a.1.n : Int) < lim ∧ (0 ≤ tm ∧ tm ≤ 1099511627776) ∧ p.length ≤ 1000 ∧ s.length ≤ 1000 ∧ IsBytes p ∧ IsBytes s
 | .com id xs said, a => ∃ x, a.1.wait id = some x ∧ fitsA r a.1 x.1 = 0 ∧ (xs.length : Int) = t.out ∧ (∀ x ∈ xs, InF t.fl x) ∧ IsBytes said ∧ said.length ≤ 2000
 | .rej id c, a => (a.1.wait id).isSome = true ∧ 0 < c ∧ c ≤ 31 ∧ c ≠ 30
 | .shut s, a => 0 ≤ s ∧ closeA r a.1 s = 0
 | .life n, a => n = a.2 + 1 ∧ n ≤ 1000000
theorem GA.go {t : Ta} {r : Rl} {lim : Int} {a : Ab × Int} {e : Evt} (h : GA t r lim a.1) (hc : e.can t r lim a) : GA t r lim (e.go t r a).1 := by
 cases e with
 | acc id tm p s =>
  obtain ⟨c1, c2, c3, c4, c5, c6, c7⟩ := hc
  exact h.accd c1 c2 c3 c4 c5 c6 c7
 | com id xs said =>
  obtain ⟨x, c1, c2, c3, -, c4, c5⟩ := hc
  exact h.comd c1 c2 c3 c5 c4
 | rej id c =>
  obtain ⟨c1, c2, -, c3⟩ := hc
  exact h.rejd c1 (by omega) c3
 | shut s => exact h.shutd hc.2
 | life n => exact h
def runE (t : Ta) (r : Rl) (rs : List Evt) : Ab × Int := rs.foldl (fun a e => e.go t r a) (Ab.no, 0)
theorem runE_snoc {t : Ta} {r : Rl} {rs : List Evt} {e : Evt} : runE t r (rs ++ [e]) = e.go t r (runE t r rs) := by
 unfold runE
 rw [List.foldl_append]
 rfl
def CanE (t : Ta) (r : Rl) (lim : Int) (rs : List Evt) : Prop := ∀ (j : Nat) (e : Evt), rs[j]? = some e → e.can t r lim (runE t r (rs.take j))
theorem CanE.snoc {t : Ta} {r : Rl} {lim : Int} {rs : List Evt} {e : Evt} (h : CanE t r lim rs) (he : e.can t r lim (runE t r rs)) : CanE t r lim (rs ++ [e]) := fun j f hj => by
 rcases Nat.lt_or_ge j rs.length with h1 | h1
 ·rw [List.getElem?_append_left h1] at hj
  rw [List.take_append_of_le_length (Nat.le_of_lt h1)]; exact h j f hj
 ·rw [List.getElem?_append_right h1] at hj
  have h2 : j - rs.length = 0 := by
   have := (List.getElem?_eq_some_iff.1 hj).1
   simp at this
   omega
  rw [h2] at hj
  cases hj
  obtain rfl : j = rs.length := by omega
  rw [List.take_left']
  ·exact he
  ·rfl
theorem CanE.take {t : Ta} {r : Rl} {lim : Int} {rs : List Evt} (h : CanE t r lim rs) (k : Nat) : CanE t r lim (rs.take k) := fun j f hj => by
 have h1 := (List.getElem?_eq_some_iff.1 hj).1
 rw [List.length_take] at h1
 rw [List.getElem?_take_of_lt (by omega)] at hj
 have := h j f hj
 rwa [List.take_take, Nat.min_eq_left (by omega)]
theorem CanE.ga {t : Ta} {r : Rl} {lim : Int} (hl : 0 ≤ lim) {rs : List Evt} (h : CanE t r lim rs) : GA t r lim (runE t r rs).1 := by
 suffices ∀ k, k ≤ rs.length → GA t r lim (runE t r (rs.take k)).1 by
  have := this rs.length (Nat.le_refl _)
  rwa [List.take_length] at this
 intro k
 induction k with
 | zero => intro _; exact GA.none_ hl
 | succ k ih =>
  intro hk
  have hj : rs[k]? = some rs[k] := List.getElem?_eq_getElem hk
  rw [List.take_succ_eq_append_getElem hk, runE_snoc]; exact (ih (by omega)).go (h k _ hj)
def seenA (ss : List Seen) : Id → Option (Int × Int) := fun i => (kf sk_ ss i.l).map fun s => (s.t, s.c)
def waitA (ws : List Wt) : Id → Option (Int × List Int × List Int) := fun i => (kf wk_ ws i.l).map fun w => (w.t, w.p, w.s)
def saidA (ds : List (Id × List Int)) : Id → Option (List Int) := fun i => (kf dk_ ds i.l).map (·.2)
def winA (fs : List BK) : Int → Option (List Int × Int × Id × Bool) := fun s => (kf BK.st fs s).map fun b => (b.l, b.m, b.k, b.cl)
theorem Ab.ext_ {a b : Ab} (h1 : a.seen = b.seen) (h2 : a.wait = b.wait) (h3 : a.said = b.said) (h4 : a.win = b.win) (h5 : a.n = b.n) (h6 : a.nw = b.nw) (h7 : a.nb = b.nb) : a = b := by
 cases a
 cases b
 simp only at h1 h2 h3 h4 h5 h6 h7
 subst h1 h2 h3 h4 h5 h6 h7
 rfl
structure Hd (ss : List Seen) (ws : List Wt) (ds : List (Id × List Int)) (fs : List BK) (a : Ab) : Prop where
 s : seenA ss = a.seen
 w : waitA ws = a.wait
 d : saidA ds = a.said
 b : winA fs = a.win
 n : ss.length = a.n
 nw : ws.length = a.nw
 nb : fs.length = a.nb
 ks : Kd sk_ ss
 kw : Kd wk_ ws
 kd : Kd dk_ ds
 kb : Kd BK.st fs
theorem Hd.no : Hd [] [] [] [] Ab.no := ⟨rfl, rfl, rfl, rfl, rfl, rfl, rfl, .nil, .nil, .nil, .nil⟩
theorem seen_perm {ss ss' : List Seen} (hk : Kd sk_ ss) (hp : ss.Perm ss') : seenA ss' = seenA ss := funext fun i => by
 unfold seenA
 rw [kf_perm hk hp]
theorem wait_perm {ss ss' : List Wt} (hk : Kd wk_ ss) (hp : ss.Perm ss') : waitA ss' = waitA ss := funext fun i => by
 unfold waitA
 rw [kf_perm hk hp]
theorem said_perm {ss ss' : List (Id × List Int)} (hk : Kd dk_ ss) (hp : ss.Perm ss') : saidA ss' = saidA ss := funext fun i => by
 unfold saidA
 rw [kf_perm hk hp]
theorem win_perm {ss ss' : List BK} (hk : Kd BK.st ss) (hp : ss.Perm ss') : winA ss' = winA ss := funext fun i => by
 unfold winA
 rw [kf_perm hk hp]
theorem Hd.perm {ss ss' : List Seen} {ws ws' : List Wt} {ds ds' : List (Id × List Int)} {fs fs' : List BK} {a : Ab} (h : Hd ss ws ds fs a) (h1 : ss.Perm ss') (h2 : ws.Perm ws') (h3 : ds.Perm ds') (h4 : fs.Perm fs') : Hd ss' ws' ds' fs' a :=
 ⟨(seen_perm h.ks h1).trans h.s, (wait_perm h.kw h2).trans h.w, (said_perm h.kd h3).trans h.d, (win_perm h.kb h4).trans h.b, h1.length_eq.symm.trans h.n, h2.length_eq.symm.trans h.nw, h4.length_eq.symm.trans h.nb, h.ks.perm h1, h.kw.perm h2, h.kd.perm h3, h.kb.perm h4⟩
section
variable {ss : List Seen} {ws : List Wt} {ds : List (Id × List Int)} {fs : List BK} {a : Ab}
theorem Hd.snone (h : Hd ss ws ds fs a) {i : Id} (hn : a.seen i = none) : ∀ s ∈ ss, sk_ s ≠ i.l := by
 rw [← h.s] at hn
 exact kf_none (Option.map_eq_none_iff.1 hn)
theorem Hd.wnone (h : Hd ss ws ds fs a) {i : Id} (hn : a.wait i = none) : ∀ s ∈ ws, wk_ s ≠ i.l := by
 rw [← h.w] at hn
 exact kf_none (Option.map_eq_none_iff.1 hn)
theorem Hd.dnone (h : Hd ss ws ds fs a) {i : Id} (hn : a.said i = none) : ∀ s ∈ ds, dk_ s ≠ i.l := by
 rw [← h.d] at hn
 exact kf_none (Option.map_eq_none_iff.1 hn)
theorem Hd.bnone (h : Hd ss ws ds fs a) {i : Int} (hn : a.win i = none) : ∀ s ∈ fs, s.st ≠ i := by
 rw [← h.b] at hn
 exact kf_none (Option.map_eq_none_iff.1 hn)
theorem Hd.ssome (h : Hd ss ws ds fs a) {i : Id} {x : Int × Int} (hn : a.seen i = some x) : ∃ s ∈ ss, s.id = i ∧ s.t = x.1 ∧ s.c = x.2 := by
 rw [← h.s] at hn
 obtain ⟨s, h1, h2⟩ := Option.map_eq_some_iff.1 hn
 obtain ⟨h3, h4⟩ := kf_some h1
 exact ⟨s, h3, Id.ext_ h4, by rw [← h2], by rw [← h2]⟩
theorem Hd.wsome (h : Hd ss ws ds fs a) {i : Id} {x : Int × List Int × List Int} (hn : a.wait i = some x) : ∃ s, wfind ws i = some s ∧ s ∈ ws ∧ s.id = i ∧ s.t = x.1 ∧ s.p = x.2.1 ∧ s.s = x.2.2 := by
 rw [← h.w] at hn
 obtain ⟨s, h1, h2⟩ := Option.map_eq_some_iff.1 hn
 obtain ⟨h3, h4⟩ := kf_some h1
 exact ⟨s, h1, h3, Id.ext_ h4, by rw [← h2], by rw [← h2], by rw [← h2]⟩
theorem Hd.dsome (h : Hd ss ws ds fs a) {i : Id} {x : List Int} (hn : a.said i = some x) : ∃ s ∈ ds, s.1 = i ∧ s.2 = x := by
 rw [← h.d] at hn
 obtain ⟨s, h1, h2⟩ := Option.map_eq_some_iff.1 hn
 obtain ⟨h3, h4⟩ := kf_some h1
 exact ⟨s, h3, Id.ext_ h4, h2⟩
theorem Hd.bsome (h : Hd ss ws ds fs a) {i : Int} {x : List Int × Int × Id × Bool} (hn : a.win i = some x) : ∃ s, bfind fs i = some s ∧ s ∈ fs ∧ s.st = i ∧ s.l = x.1 ∧ s.m = x.2.1 ∧ s.k = x.2.2.1 ∧ s.cl = x.2.2.2 := by
 rw [← h.b] at hn
 obtain ⟨s, h1, h2⟩ := Option.map_eq_some_iff.1 hn
 obtain ⟨h3, h4⟩ := kf_some h1
 exact ⟨s, h1, h3, h4, by rw [← h2], by rw [← h2], by rw [← h2], by rw [← h2]⟩
theorem Hd.sof (h : Hd ss ws ds fs a) {s : Seen} (hs : s ∈ ss) : a.seen s.id = some (s.t, s.c) := by
 rw [← h.s]
 unfold seenA
 rw [show s.id.l = sk_ s from rfl, kf_mem h.ks hs]
 rfl
theorem Hd.wof (h : Hd ss ws ds fs a) {w : Wt} (hs : w ∈ ws) : a.wait w.id = some (w.t, w.p, w.s) := by
 rw [← h.w]
 unfold waitA
 rw [show w.id.l = wk_ w from rfl, kf_mem h.kw hs]
 rfl
theorem Hd.bof (h : Hd ss ws ds fs a) {b : BK} (hs : b ∈ fs) : a.win b.st = some (b.l, b.m, b.k, b.cl) := by
 rw [← h.b]
 unfold winA
 rw [kf_mem h.kb hs]
 rfl
theorem Hd.has (h : Hd ss ws ds fs a) (i : Id) : hasI ss i = (a.seen i).isSome := by
 rw [← h.s, kf_has]
 unfold seenA
 rw [Option.isSome_map]
theorem Hd.wis (h : Hd ss ws ds fs a) (i : Id) : (wfind ws i).isSome = (a.wait i).isSome := by
 rw [← h.w]
 unfold waitA
 rw [Option.isSome_map]
 rfl
theorem Hd.bis (h : Hd ss ws ds fs a) (i : Int) : (bfind fs i).isSome = (a.win i).isSome := by
 rw [← h.b]
 unfold winA
 rw [Option.isSome_map]
 rfl
theorem Hd.fits (h : Hd ss ws ds fs a) (r : Rl) (now : Int) : fitsE r fs now = fitsA r a now := by
 unfold fitsE fitsA
 rw [← h.nb, ← h.b, bfind_kf]
 unfold winA
 cases kf BK.st fs (stN r.w now) <;> rfl
theorem Hd.close (h : Hd ss ws ds fs a) (r : Rl) (s : Int) : closeE r fs s = closeA r a s := by
 unfold closeE closeA
 rw [← h.b, bfind_kf]
 unfold winA
 cases kf BK.st fs s <;> rfl
theorem Hd.acc (h : Hd ss ws ds fs a) {ss' : List Seen} {sn : Seen} {w : Wt} {id : Id} (h1 : sn.id = id) (h3 : sn.c = 30) (h4 : w.id = id) (h5 : w.t = sn.t) (hs : a.seen id = none) (hw : a.wait id = none) (hp : (ss ++ [sn]).Perm ss') : Hd ss' (ws ++ [w]) ds fs (a.accd id sn.t w.p w.s) := by
 have e1 : sk_ sn = id.l := by unfold sk_; rw [h1]
 have e2 : wk_ w = id.l := by unfold wk_; rw [h4]
 have k1 : Kd sk_ (ss ++ [sn]) := h.ks.snoc (fun x hx => by rw [e1]; exact h.snone hs x hx)
 refine ⟨(seen_perm k1 hp).trans (funext fun i => ?_), funext fun i => ?_, h.d, h.b, ?_, ?_, h.nb, k1.perm hp, h.kw.snoc (fun x hx => by rw [e2]; exact h.wnone hw x hx), h.kd, h.kb⟩
 ·unfold seenA Ab.accd updI
  dsimp only; rw [kf_snoc (fun x hx => by rw [e1]; exact h.snone hs x hx), e1]
  split
  ·rw [← h3]; rfl
  ·rw [← h.s]; rfl
 ·unfold waitA Ab.accd updI
  dsimp only; rw [kf_snoc (fun x hx => by rw [e2]; exact h.wnone hw x hx), e2]
  split
  ·rw [← h5]; rfl
  ·rw [← h.w]; rfl
 ·have := hp.length_eq
  show _ = a.n + 1
  rw [← h.n, ← this, List.length_append]
  rfl
 ·show _ = a.nw + 1
  rw [← h.nw, List.length_append]
  rfl
theorem seen_set {X Y : List Seen} {s : Seen} {c : Int} {hc : -9223372036854775808 ≤ c ∧ c ≤ 9223372036854775807} (hk : Kd sk_ (X ++ s :: Y)) : Kd sk_ (X ++ setC s c hc :: Y) ∧ seenA (X ++ setC s c hc :: Y) = updI (seenA (X ++ s :: Y)) s.id ((seenA (X ++ s :: Y) s.id).map fun x => (x.1, c)) := by
 have e : sk_ (setC s c hc) = sk_ s := rfl
 refine ⟨hk.set e, funext fun i => ?_⟩
 have h1 : kf sk_ (X ++ s :: Y) s.id.l = some s := kf_mem hk (by simp)
 unfold seenA updI
 rw [h1, kf_set hk e, show sk_ s = s.id.l from rfl]
 split <;> rfl
theorem wait_del {id : Id} (hk : Kd wk_ ws) {w : Wt} (hf : wfind ws id = some w) : Kd wk_ (wdel ws id) ∧ waitA (wdel ws id) = updI (waitA ws) id none ∧ (wdel ws id).length = ws.length - 1 := by
 obtain ⟨h1, X, Y, rfl, h3⟩ := wfind_split hf
 rw [h3]
 refine ⟨hk.del, funext fun i => ?_, by simp⟩
 unfold waitA updI
 rw [kf_del hk, show wk_ w = id.l by unfold wk_; rw [h1]]
 split <;> rfl
theorem Hd.rej {X Y : List Seen} {s : Seen} (h : Hd (X ++ s :: Y) ws ds fs a) {id : Id} {c : Int} {hc : -9223372036854775808 ≤ c ∧ c ≤ 9223372036854775807} (h1 : s.id = id) (hw : (a.wait id).isSome = true) : Hd (X ++ setC s c hc :: Y) (wdel ws id) ds fs (a.rejd id c) := by
 subst h1
 obtain ⟨y, hy⟩ := Option.isSome_iff_exists.1 hw
 obtain ⟨w, hf, -⟩ := h.wsome hy
 obtain ⟨k1, k2⟩ := seen_set (c := c) (hc := hc) h.ks
 obtain ⟨k3, k4, k5⟩ := wait_del h.kw hf
 refine ⟨?_, ?_, h.d, h.b, ?_, ?_, h.nb, k1, k3, h.kd, h.kb⟩
 ·rw [k2, h.s]; rfl
 ·rw [k4, h.w]; rfl
 ·show _ = a.n
  rw [← h.n]
  simp
 ·show _ = a.nw - 1
  rw [k5, h.nw]
theorem win_up {fs' : List BK} {b' : BK} (hk : Kd BK.st fs) (h : BkUp fs fs' b') : Kd BK.st fs' ∧ winA fs' = updZ (winA fs) b'.st (some (b'.l, b'.m, b'.k, b'.cl)) ∧ fs'.length = if (winA fs b'.st).isSome then fs.length else fs.length + 1 := by
 rcases h with ⟨X, b, Y, rfl, e, rfl⟩ | ⟨h1, rfl⟩
 ·refine ⟨hk.set e.symm, funext fun i => ?_, ?_⟩
  ·unfold winA updZ
   rw [kf_set hk e.symm, e]
   split <;> rfl
  ·have : winA (X ++ b :: Y) b'.st = some (b.l, b.m, b.k, b.cl) := by
    unfold winA
    rw [← e, kf_mem hk (by simp)]
    rfl
   rw [this]
   simp
 ·refine ⟨hk.snoc h1, funext fun i => ?_, ?_⟩
  ·unfold winA updZ
   rw [kf_snoc h1]
   split <;> rfl
  ·have : winA fs b'.st = none := by
    unfold winA
    rw [kf_none' h1]
    rfl
   rw [this]
   simp
theorem BkAd.val {t : Ta} {r : Rl} {now : Int} {id : Id} {ys : List Int} {b' : BK} (h : BkAd t r fs now id ys b') : (b'.l, b'.m, b'.k, b'.cl) = addW t (winA fs (stN r.w now)) id ys := by
 unfold addW winA
 rw [h.l, h.m, h.k, h.cl, ← bfind_kf]
 cases bfind fs (stN r.w now) <;> rfl
theorem Hd.com {t : Ta} {r : Rl} {X Y : List Seen} {s : Seen} (h : Hd (X ++ s :: Y) ws ds fs a) {id : Id} {hc : -9223372036854775808 ≤ (0 : Int) ∧ (0 : Int) ≤ 9223372036854775807} {fs' : List BK} {b' : BK} {x : Int × List Int × List Int} {xs said : List Int} (h1 : s.id = id) (hw : a.wait id = some x) (hd : a.said id = none)
  (hu : BkUp fs fs' b') (hb : BkAd t r fs x.1 id xs b') : Hd (X ++ setC s 0 hc :: Y) (wdel ws id) (ds ++ [(id, said)]) fs' (a.comd t r id xs said) := by
 subst h1
 obtain ⟨w, hf, -⟩ := h.wsome hw
 obtain ⟨k1, k2⟩ := seen_set (c := 0) (hc := hc) h.ks
 obtain ⟨k3, k4, k5⟩ := wait_del h.kw hf
 obtain ⟨k6, k7, k8⟩ := win_up h.kb hu
 have hv := hb.val
 unfold Ab.comd
 rw [hw]; dsimp only
 refine ⟨?_, ?_, funext fun i => ?_, ?_, ?_, ?_, ?_, k1, k3, h.kd.snoc (fun y hy => h.dnone hd y hy), k6⟩
 ·rw [k2, h.s]
 ·rw [k4, h.w]
 ·unfold saidA updI
  rw [kf_snoc (fun y hy => h.dnone hd y hy), ← h.d]
  show ((if i.l = s.id.l then some (s.id, said) else kf dk_ ds i.l : Option (Id × List Int)).map (·.2)) = if i.l = s.id.l then some said else (kf dk_ ds i.l).map (·.2)
  split <;> rfl
 ·rw [k7, hv, hb.st, h.b]
 ·show _ = a.n
  rw [← h.n]
  simp
 ·show _ = a.nw - 1
  rw [k5, h.nw]
 ·rw [k8, hb.st, h.b, h.nb]
theorem Hd.shut {X Y : List BK} {b : BK} (h : Hd ss ws ds (X ++ b :: Y) a) : Hd ss ws ds (X ++ b.shut :: Y) (a.shutd b.st) := by
 have e : b.shut.st = b.st := rfl
 refine ⟨h.s, h.w, h.d, funext fun i => ?_, h.n, h.nw, ?_, h.ks, h.kw, h.kd, h.kb.set e⟩
 ·have h1 := h.bof (b := b) (by simp)
  unfold Ab.shutd updZ
  dsimp only; rw [h1]
  unfold winA
  rw [kf_set h.kb e]
  split
  ·rfl
  ·rw [← h.b]; rfl
 ·show _ = a.nb
  rw [← h.nb]
  simp
end
end
section
open Go.RowKit Go.MapKept
attribute [local irreducible] Go.Calls Go.Exit.then Go.Exit.inBlock Go.bodyPost Go.Code.wp Go.wpList takeL recordL hashL recL allL
section
def Sd.pr (s : Sd) : Id × List Int := (s.id, s.l)
structure Hq (q : StM) (a : Ab) : Prop where
 srt : Srt q.ss
 hd : Hd q.ss q.ws (q.sd.map Sd.pr) q.fs a
theorem ins_perm (ss : List Seen) (s : Seen) : (ss ++ [s]).Perm (insAt ss s) := by
 unfold insAt
 refine List.Perm.trans List.perm_append_comm ?_
 refine List.Perm.trans ?_ List.perm_middle.symm
 rw [List.take_append_drop]; exact List.Perm.refl _
theorem Hq.has {q : StM} {a : Ab} (h : Hq q a) (i : Id) : hasI q.ss i = (a.seen i).isSome := h.hd.has i
theorem Hq.acc {q : StM} {a : Ab} {lim tm : Int} {id : Id} {ht : 0 ≤ tm ∧ tm ≤ 18446744073709551615} {A1 : Option Addr} {c1 : Nat} {w : Wt} (h : Hq q a) (hno : a.seen id = none) (hnw : a.wait id = none) (hn : (a.n : Int) < lim) (h1 : tm ≤ 1099511627776) (hw : w.id = id) (hwt : w.t = tm) :
  (addI lim q.ss ⟨id, tm, 30, ht, by decide⟩).1 = 0 ∧ Hq (q.acc lim ⟨id, tm, 30, ht, by decide⟩ A1 c1 w) (a.accd id tm w.p w.s) := by
 have hh : hasI q.ss id = false := by rw [h.has, hno]; rfl
 have hl := h.hd.n
 have he : addI lim q.ss ⟨id, tm, 30, ht, by decide⟩ = (0, insAt q.ss ⟨id, tm, 30, ht, by decide⟩) := by
  unfold addI
  rw [if_neg (by dsimp only; omega), if_neg (by rw [hh]; decide), if_neg (by omega)]
 rw [he]
 refine ⟨rfl, ?_, ?_⟩
 ·show Srt (addI lim q.ss _).2
  rw [he]; exact srt_ins h.srt hh
 ·show Hd (addI lim q.ss _).2 (if (addI lim q.ss _).1 = 0 then q.ws ++ [w] else q.ws) (q.sd.map Sd.pr) q.fs _
  rw [he, if_pos rfl]; exact h.hd.acc (sn := ⟨id, tm, 30, ht, by decide⟩) rfl rfl hw hwt hno hnw (ins_perm _ _)
theorem setI_split {ss : List Seen} (hs : Srt ss) {id : Id} {c : Int} {hc : -9223372036854775808 ≤ c ∧ c ≤ 9223372036854775807} (hh : hasI ss id = true) : ∃ X s Y, ss = X ++ s :: Y ∧ s.id = id ∧ (setI ss id c hc).2 = X ++ setC s c hc :: Y := by
 obtain ⟨s, h1, h2⟩ := hasI_pos hs hh
 have hg : getI ss id = s := by unfold getI; rw [h1]; rfl
 obtain ⟨X, Y, h3, h4⟩ : ∃ X Y, ss = X ++ s :: Y ∧ ∀ s', ss.set (posI ss id) s' = X ++ s' :: Y := by
  obtain ⟨hj, e⟩ := List.getElem?_eq_some_iff.1 h1
  refine ⟨ss.take (posI ss id), ss.drop (posI ss id + 1), ?_, fun b' => ?_⟩
  ·conv => lhs; rw [← List.take_append_drop (posI ss id) ss]
   rw [List.drop_eq_getElem_cons hj, e]
  ·rw [List.set_eq_take_append_cons_drop, if_pos hj]
 refine ⟨X, s, Y, h3, h2, ?_⟩
 unfold setI
 rw [if_pos hh, hg]; exact h4 _
theorem Hq.rej {q : StM} {a : Ab} {t : Ta} {r : Rl} {lim c : Int} {id : Id} {hc : -9223372036854775808 ≤ c ∧ c ≤ 9223372036854775807} {A1 : Option Addr} {c1 : Nat} (h : Hq q a) (hg : GA t r lim a) (hw : (a.wait id).isSome = true) : Hq { q with iA := A1, ic := c1, ss := (setI q.ss id c hc).2, ws := wdel q.ws id } (a.rejd id c) := by
 obtain ⟨y, hy⟩ := Option.isSome_iff_exists.1 hw
 have hh : hasI q.ss id = true := by rw [h.has, (hg.w1 id y hy).1]; rfl
 obtain ⟨X, s, Y, h1, h2, h3⟩ := setI_split (c := c) (hc := hc) h.srt hh
 refine ⟨(setI_keeps h.srt).1, ?_⟩
 show Hd (setI q.ss id c hc).2 (wdel q.ws id) (q.sd.map Sd.pr) q.fs _
 rw [h3]
 have h4 := h.hd
 rw [h1] at h4
 exact h4.rej h2 hw
theorem Hq.com {q q' : StM} {a : Ab} {t : Ta} {r : Rl} {lim : Int} {id : Id} {xs said : List Int} {x : Int × List Int × List Int} (h : Hq q a) (hg : GA t r lim a) (hw : a.wait id = some x) (hc : ComP t r q id xs said q') : Hq q' (a.comd t r id xs said) := by
 obtain ⟨w, A1, c1, b', fs', cb', sA, sc, hf, hu, hb, rfl⟩ := hc
 have hh : hasI q.ss id = true := by rw [h.has, (hg.w1 id x hw).1]; rfl
 obtain ⟨X, s, Y, h1, h2, h3⟩ := setI_split (c := 0) (hc := by decide) h.srt hh
 refine ⟨(setI_keeps h.srt).1, ?_⟩
 show Hd (setI q.ss id 0 _).2 (wdel q.ws id) ((q.sd ++ [(⟨id, sA, sc, said, q.cs⟩ : Sd)]).map Sd.pr) fs' _
 rw [h3, List.map_append]
 have h4 := h.hd
 obtain ⟨w', hf', -, -, hwt, -⟩ := h4.wsome hw
 rw [hf] at hf'
 cases hf'
 rw [hwt] at hb
 rw [h1] at h4
 exact h4.com h2 hw (hg.nosaid hw) hu hb
theorem Hq.shut {q : StM} {a : Ab} {X Y : List BK} {b : BK} (h : Hq q a) (hq : q.fs = X ++ b :: Y) : Hq (q.shutd X Y b) (a.shutd b.st) := by
 refine ⟨h.srt, ?_⟩
 have h4 := h.hd
 rw [hq] at h4
 exact h4.shut
theorem dec_com {id : Id} {b d : List Int} (hb : b.length ≤ 65536) (hd : d.length ≤ 65536) : decR (2 :: rcCom id b d) = .inr (.com id.l b d, 0) := by
 have hi := id.len
 unfold decR rcCom
 rw [if_neg (by simp)]; rw [show ∀ l : List Int, (2 :: l).take 1 = [2] from fun _ => rfl, show ∀ l : List Int, (2 :: l).drop 1 = l from fun _ => rfl, lev_one, if_neg (by decide), if_pos rfl]
 unfold dCom
 rw [if_neg (by simp [hi]), (take_app hi).1, (take_app hi).2]
 unfold dCom2
 rw [gLong_ok hb]; dsimp only
 unfold dCom3
 rw [gLong_end hd]
 rfl
theorem dec_rej {id : Id} {c : Int} (h0 : 0 ≤ c) (h1 : c < 256) : decR (3 :: rcRej id c) = .inr (.rej id.l c, 0) := by
 have hi := id.len
 have h6 : (le c 1).length = 1 := le_len _ _
 have hv : leV (le c 1) = c := lev_le h0 (by omega)
 unfold decR rcRej
 rw [if_neg (by simp)]; rw [show ∀ l : List Int, (3 :: l).take 1 = [3] from fun _ => rfl, show ∀ l : List Int, (3 :: l).drop 1 = l from fun _ => rfl, lev_one, if_neg (by decide), if_neg (by decide), if_pos rfl]
 unfold dRej
 rw [if_neg (by simp [hi]), (take_app hi).1, (take_app hi).2]
 unfold dRej2
 rw [if_neg (by omega), List.take_of_length_le (by omega), List.drop_of_length_le (by omega), hv]
 rfl
theorem dec_shut {n : Int} (h0 : 0 ≤ n) (h1 : n < 281474976710656) : decR (4 :: rcShut n) = .inr (.shut n, 0) := by
 have h6 : (le n 6).length = 6 := le_len _ _
 have hv : leV (le n 6) = n := lev_le h0 (by omega)
 unfold decR rcShut
 rw [if_neg (by simp)]; rw [show (4 :: le n 6).take 1 = [4] from rfl, show (4 :: le n 6).drop 1 = le n 6 from rfl, lev_one, if_neg (by decide), if_neg (by decide), if_neg (by decide), if_pos rfl]
 unfold dShut
 rw [if_neg (by omega), List.take_of_length_le (by omega), List.drop_of_length_le (by omega), hv]
 rfl
attribute [local irreducible] decR
namespace pVp4
theorem nthx_ (h : φ := by first | rfl | exact stC9_n9) : φ := h
theorem midx_ (h : φ := by first | exact stC9_ci | exact stC9_mid | exact Mid.all) : φ := h
theorem szx_ (h : φ := by ((try simp only [tc_len, bytes_length, Id.len]); (first | done | rfl); first | done | fail)) : φ := h
theorem onex_ (h : φ := by first | exact one_bytes _ | exact tc_one) : φ := h
end pVp4
open pVp4
theorem dCom_ok {K : List Fa} {g go g1 g2 g3 : Nat} {t : Ta} {r : Rl} {lim : Int} {q : StM} {id : Id} {w : Wt} {xs said : List Int} {A B : Option Addr} {c d : Nat} (hs : Srt q.ss) (hn : q.ss.length ≤ 1000000) (ht : t.err = 0) (hrw : 0 ≤ r.w) (hmx : r.mx ≤ 256)
  (hf : wfind q.ws id = some w) (hwt : 0 ≤ w.t) (hfl : t.fl = 1 ∨ t.fl = 2) (hxl : t.out = xs.length) (hx : ∀ x ∈ xs, InF t.fl x) (hfit : fitsE r q.fs w.t = 0) (hfs : ∀ b ∈ q.fs, 0 ≤ b.m ∧ t.out = b.l.length ∧ Els b.l) (hsl : said.length ≤ 1000000) (hns : ∀ s ∈ q.sd, s.id ≠ id) :
  Fn Tryz.prog 92 #[.pointer (some ⟨go, 0, none⟩), .pointer (some ⟨g1, 0, none⟩), .pointer (some ⟨g2, 0, none⟩), .pointer (some ⟨g3, 0, none⟩)]
   (blk g1 47 (bytes id.l) :: blk g2 27 [.slice A (vecB t.fl xs).length c] :: blk g3 27 [.slice B said.length d] :: u8o A c (vecB t.fl xs) :: u8o B d said :: goB go g :: sF g t r lim q K)
   (Ret (ComP t r q id xs said) (fun _ => .int .i64 0) (fun z => sF g t r lim z K)) := by
 refine fe_ Tryz.func92 Tryz.ntmps92 [(0, .pointer (some ⟨go, 0, none⟩)), (1, .pointer (some ⟨g1, 0, none⟩)), (2, .pointer (some ⟨g2, 0, none⟩)), (3, .pointer (some ⟨g3, 0, none⟩))] ?_
 have hol := t.out_le ht
 have hvl := vecB_len t.fl xs
 have hsz : 0 < szF t.fl ∧ szF t.fl ≤ 16 := by rcases szF_or hfl with h | h <;> omega
 have hmul : xs.length * szF t.fl ≤ 64 * 16 := Nat.mul_le_mul (by omega) hsz.2
 refine go_ ?_; refine sl_know (fun w hw => own_len (e := 5) (size := 1) (A := A) (c := c) (xs := bytes (vecB t.fl xs)) hw at_) ?_; rintro ⟨-, l1, l2⟩; rw [show Value.slice A (vecB t.fl xs).length c = .slice A (xs.length * szF t.fl) c by rw [hvl]]
 refine sl_call rfl rfl (by kernel_rfl) rfl sub_ (scommit_ok (K := u8o A c (vecB t.fl xs) :: u8o B d said :: K) (g := g) (t := t) (r := r) (lim := lim) (q := q) (id := id) (w := w) (xs := xs) (said := said) (A := A) (c := c) (B := B) (d := d) hs hn ht hrw hmx hf hwt hfl hxl hx hfit hfs
   (by rw [← hvl]; exact ⟨Vw.of_own (e := 5) (A := A) (c := c) .here, l1, by omega, l2, rfl, vecB_bytes _ _⟩) (Vw.of_own (e := 5) (A := B) (c := d) at_) hsl hns) ?_
 rintro q2 hq2; refine go_ ?_; exact se_ret1 q2 hq2 rfl rfl sub_
theorem dShut_ok {K : List Fa} {g go g1 : Nat} {t : Ta} {r : Rl} {lim s : Int} {q : StM} {X Y : List BK} {b : BK} (hw : 0 ≤ r.w) (h : 0 ≤ s) (hq : q.fs = X ++ b :: Y) (hf : bfind (X ++ b :: Y) s = some b) (he : closeE r (X ++ b :: Y) s = 0) (hbl : b.l.length ≤ 1000000) :
  Fn Tryz.prog 94 #[.pointer (some ⟨go, 0, none⟩), .pointer (some ⟨g1, 0, none⟩)] (blk g1 36 [.int .u64 s] :: goB go g :: sF g t r lim q K)
   (Ret (fun _ : Unit => True) (fun _ => .int .i64 0) (fun _ => sF g t r lim (q.shutd X Y b) K)) := by
 refine fe_ Tryz.func94 Tryz.ntmps94 [(0, .pointer (some ⟨go, 0, none⟩)), (1, .pointer (some ⟨g1, 0, none⟩))] ?_; refine go_ ?_; refine sc_join (α := Nat) (fun _ => [(4, .int .i64 0)]) (fun _ => sF g t r lim (q.shutd X Y b) K) (fun _ => True) ?_ ?_
 ·refine dr_ [goB go g, sB g t q.gj q.gi q.gb q.mw q.ms q.life, blk g1 36 [.int .u64 s]] 12 ?_; refine y4_ 0 1 2 3 ?_; refine wy_ 4 ?_; refine w2_ 5 9 ?_ ?_
  ·refine slc_ rfl rfl (by exact Sub.cons pick_ (Sub.cons pick_ (Sub.cons pick_ Sub.refl))) (close_newe (g := q.gb) (m := q.mb) (ck := q.cb) (t := t) (r := r) hq hw h he hf hbl) ?_; rintro ⟨A1, c1⟩ -; dsimp only; refine vy_ 6 ?_; refine y2_ 7 8 ?_; refine w1_ 9 ?_; refine al_ ?_; intro g3; refine v1_ 10 ?_; refine sto_ ?_; refine vy_ 11 ?_; refine wx_ ?_; exact se_mid 0 has_ (by unfold StM.shutd; exact sub_) trivial
  ·refine al_ ?_; intro g3; refine v1_ 5 ?_; refine slc_ rfl rfl (by exact Sub.cons pick_ (Sub.cons pick_ (Sub.cons pick_ Sub.refl))) (close_newe (g := q.gb) (m := q.mb) (ck := q.cb) (t := t) (r := r) hq hw h he hf hbl) ?_; rintro ⟨A1, c1⟩ -; dsimp only; refine vy_ 6 ?_; refine y2_ 7 8 ?_; refine w1_ 10 ?_; refine sto_ ?_; refine vy_ 11 ?_; refine wx_ ?_; exact se_mid 0 has_ (by unfold StM.shutd; exact sub_) trivial
 rintro _ -; refine go_ ?_; exact r1_ ()
structure TR_ (t : Ta) (r : Rl) (lim : Int) : Prop where
 te : t.err = 0
 w : 0 ≤ r.w
 mx : r.mx ≤ 256
 fl : t.fl = 1 ∨ t.fl = 2
 l0 : 0 ≤ lim
 l1 : lim ≤ 256
theorem Hq.fsok {q : StM} {a : Ab} {t : Ta} {r : Rl} {lim : Int} (h : Hq q a) (hg : GA t r lim a) : ∀ b ∈ q.fs, 0 ≤ b.m ∧ t.out = b.l.length ∧ Els b.l := fun b hb => by
 obtain ⟨h1, h2, h3, h4, -⟩ := hg.b1 _ _ (h.hd.bof hb)
 exact ⟨h3, h1.symm, h2⟩
theorem Hq.nosd {q : StM} {a : Ab} {id : Id} (h : Hq q a) (hd : a.said id = none) : ∀ s ∈ q.sd, s.id ≠ id := fun s hs e => by
 refine h.hd.dnone hd s.pr (List.mem_map_of_mem hs) ?_
 show s.id.l = id.l
 rw [e]
theorem Hq.sslen {q : StM} {a : Ab} {t : Ta} {r : Rl} {lim : Int} (h : Hq q a) (hg : GA t r lim a) (T : TR_ t r lim) : q.ss.length ≤ 256 := by
 have h1 := h.hd.n
 have h2 := hg.n
 have h3 := T.l1
 omega
theorem again_evt {K Z : List Fa} {g nn c : Nat} {A : Option Addr} {t : Ta} {r : Rl} {lim : Int} {q : StM} {a : Ab × Int} {e : Evt} (T : TR_ t r lim) (hz : Sub K Z) (h : Rd Z A nn c (e.by_ t)) (hq : Hq q a.1) (hl : q.life = a.2 ∧ 0 ≤ a.2) (hga : GA t r lim a.1) (hc : e.can t r lim a) :
  Fn Tryz.prog 44 #[.pointer (some ⟨g, 0, none⟩), .slice A nn c] (sF g t r lim q K) (Ret (fun q' : StM => Hq q' (e.go t r a).1 ∧ q'.life = (e.go t r a).2 ∧ q'.gj = q.gj) (fun _ => .int .i64 0) (fun q' => sF g t r lim q' K)) := by
 have hz' : Sub (sF g t r lim q K) Z := Sub.skip (Sub.skip (Sub.skip (Sub.skip (Sub.skip (Sub.skip (Sub.skip (Sub.skip (Sub.skip (Sub.skip hz)))))))))
 have hsl := hq.sslen hga T
 cases e with
 | acc id tm p s =>
  obtain ⟨c1, c2, c3, c4, c5, c6, c7⟩ := hc
  have hnw := (hga.nowait c1).1
  have hno : hasI q.ss id = false → wfind q.ws id = none := fun _ => kf_none' (hq.hd.wnone hnw)
  refine (again_acc (g := g) (r := r) (lim := lim) (q := q) (id := id) (tm := tm) (p := p) (s := s) ⟨c3.1, by omega⟩ (by omega) (by omega) (by omega) hz h hq.srt (by omega) hno).say fun z w hz hw => ?_
  obtain ⟨A1, c1', pA, pc, sA, sc, rfl⟩ := hz
  obtain ⟨e1, e2⟩ := hq.acc (A1 := A1) (c1 := c1') (w := ⟨id, tm, pA, pc, p, sA, sc, s, q.cw⟩) (ht := ⟨c3.1, by omega⟩) c1 hnw c2 c3.2 rfl rfl
  exact ⟨_, ⟨e2, hl.1, rfl⟩, by rw [e1], hw⟩
 | com id xs said =>
  obtain ⟨x, c1, c2, c3, c4, c5, c6⟩ := hc
  obtain ⟨w, hf, -, -, hwt, -⟩ := hq.hd.wsome c1
  have hvl := vecB_len t.fl xs
  have hol := t.out_le T.te
  have hsz : 0 < szF t.fl ∧ szF t.fl ≤ 16 := by rcases szF_or T.fl with h | h <;> omega
  have hmul : xs.length * szF t.fl ≤ 64 * 16 := Nat.mul_le_mul (by omega) hsz.2
  have h0 := (hga.t1 id _ (hga.w1 id x c1).1).1
  refine again_do (r := .com id.l (vecB t.fl xs) said) (Z := Z) hz' h (dec_com (by omega) (by omega)) (fun go x => ?_)
  refine Fn.sub ((dCom_ok (g := g) (go := go) (g1 := x.g1) (g2 := x.g2) (g3 := x.g3) (t := t) (r := r) (lim := lim) (q := q) (id := id) (w := w) (xs := xs) (said := said) (A := x.A) (c := x.c) (B := x.B) (d := x.d) (K := K) hq.srt (by omega) T.te T.w T.mx hf (by rw [hwt]; exact h0) T.fl c3.symm c4 (by rw [hwt, hq.hd.fits]; exact c2) (hq.fsok hga) (by omega) (hq.nosd (hga.nosaid c1))).say fun z w hz hw => ?_) Sub.refl
  refine ⟨z, ⟨hq.com hga c1 hz, ?_, ?_⟩, rfl, hw⟩
  ·obtain ⟨w', A1, c1, b', fs', cb', sA, sc, _, _, _, rfl⟩ := hz; exact hl.1
  ·obtain ⟨w', A1, c1, b', fs', cb', sA, sc, _, _, _, rfl⟩ := hz; rfl
 | rej id co =>
  obtain ⟨c1, c2, c3, c4⟩ := hc
  refine again_do (r := .rej id.l co) (Z := Z) hz' h (dec_rej (by omega) (by omega)) (fun go x => ?_)
  refine Fn.sub ((dRej_ok (g := g) (go := go) (g1 := x.g1) (g2 := x.g2) (t := t) (r := r) (lim := lim) (q := q) (id := id) (c := co) (K := K) ⟨by omega, by omega⟩ hq.srt (by omega)).say fun z w hz hw => ?_) Sub.refl
  obtain ⟨q1, q2, q3⟩ := hz
  have he : rejE q id co = 0 := by
   unfold rejE
   rw [hq.hd.wis, if_pos c1, if_neg (by omega)]
  rw [he] at q1
  obtain ⟨A1, c1', e1⟩ := q3 q1
  refine ⟨z.2, ⟨?_, ?_, ?_⟩, by rw [q1], hw⟩
  ·rw [e1]; exact hq.rej hga c1
  ·rw [e1]; exact hl.1
  ·rw [e1]
 | shut s =>
  obtain ⟨c1, c2⟩ := hc
  obtain ⟨d1, d2, b, d3, d4⟩ := closeA_0 c2
  obtain ⟨b', hf, hm, hst, -⟩ := hq.hd.bsome d3
  obtain ⟨X, Y, hX⟩ := List.append_of_mem hm
  have hb := hq.fsok hga b' hm
  have hol := t.out_le T.te
  refine again_do (r := .shut s) (Z := Z) hz' h (dec_shut c1 (by omega)) (fun go x => ?_)
  refine Fn.sub ((dShut_ok (g := g) (go := go) (g1 := x.g1) (t := t) (r := r) (lim := lim) (q := q) (K := K) T.w c1 hX (by rw [← hX]; exact hf) (by rw [← hX, hq.hd.close]; exact c2) (by omega)).say fun _ w _ hw => ⟨q.shutd X Y b', ⟨?_, hl.1, rfl⟩, rfl, hw⟩) Sub.refl
  have := hq.shut hX
  rw [hst] at this
  exact this
 | life n =>
  obtain ⟨c1, c2⟩ := hc
  refine (again_life (g := g) (r := r) (lim := lim) (q := q) (by omega) (by omega) hz h).say fun z w hz hw => ?_; subst hz; exact ⟨({ q with life := n } : StM), ⟨⟨hq.srt, hq.hd⟩, rfl, rfl⟩, rfl, hw⟩
end
end
end Go.Proofs.YtocaabnbmcpjmaaGreat
