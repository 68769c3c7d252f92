/- Several texts of one claim, one behind the other. -/
import Derived.Test.YtocaabnbmcpjmaaGreatB07
import Derived.Test.YtocaabnbmcpjmaaGreatB09
import Derived.Test.YtocaabnbmcpjmaaGreatB08
import Derived.Test.YtocaabnbmcpjmaaGreatB10
import Derived.Test.YtocaabnbmcpjmaaGreatB01
import Derived.Test.YtocaabnbmcpjmaaGreatB05
import Derived.Lib.Bytes
import Derived.Deep.AppendSrc
set_option linter.unusedVariables false
set_option linter.unusedSimpArgs false
set_option maxRecDepth 100000
set_option maxHeartbeats 16000000
namespace Go.Proofs.YtocaabnbmcpjmaaGreat
variable {φ ψ : Prop}
section
open Go.RowKit Go.MapKept
attribute [local irreducible] Go.Calls Go.Exit.then Go.Exit.inBlock Go.bodyPost Go.Code.wp Go.wpList
section
section
variable {P : Program} {ops : Array Oper} {Q : Exit → Act → World → Prop} {n : Nat} {l : Env} {L L' : List Fa} {rest : List Oper} {ty t kt e : TypeId} {pos : String} {after : Array Edge} {x y u : Operand} {m ck : Nat} {d : TypeDesc} {α : Type} {M : MK α} {X Y fs : List α} {f f' : α} {K : List Fa} {k v : Value}
theorem sl_knewK (hx : ev l x = some (.map (some m))) (hy : ev l y = some k) (hu : ev l u = some (M.val f')) (hs : M.key f' = k) (hb : M.bn f' = ck) (hn : ∀ f ∈ fs, M.key f ≠ k) (hp : Pick (kM M m d fs ck) L L') (ht : P.underlying t = some (.map kt e)) (hk : KLaw P kt d k)
  (h : SL P ops Q rest n l (kM M m d (fs ++ [f']) (ck + 1) :: L')) : SL P ops Q (⟨none, .mapUpdate t x y u, ty, pos, after, none⟩ :: rest) n l L := by
 refine sl_mapNewK hx hy hu hp ht hk (kno hn) ?_
 have he : fs.map M.ent ++ [(⟨k, M.val f', ck⟩ : MapEntry)] = (fs ++ [f']).map M.ent := by
  rw [List.map_append]
  unfold MK.ent
  simp [hs, hb]
 rw [he]; exact h
theorem sl_kdelK (hx : ev l x = some (.map (some m))) (hy : ev l y = some (M.key f)) (hp : Pick (kM M m d (X ++ f :: Y) ck) L L') (ht : P.underlying t = some (.map kt e)) (hk : KLaw P kt d (M.key f))
  (h : SL P ops Q rest n l (kM M m d (X ++ Y) ck :: L')) : SL P ops Q (⟨none, .call { callee := .builtin .delete, args := #[x, y], argTypes := #[t, kt] }, ty, pos, after, none⟩ :: rest) n l L := by
 rw [kM_split] at hp
 refine sl_mapDelK (me := M.ent f) hx hy hp ht hk ?_
 have he : kM M m d (X ++ Y) ck = mp m d (X.map M.ent ++ Y.map M.ent) ck := by
  show mp m d ((X ++ Y).map M.ent) ck = _
  rw [List.map_append]
 rw [← he]; exact h
theorem ks_del : Ent_ (kS M (X ++ f :: Y) :: K) (M.fa f :: kS M (X ++ Y) :: K) := fun w hw => by
 have e1 : kS M (X ++ f :: Y) = star (X.map M.fa ++ M.fa f :: Y.map M.fa) := by
  show star _ = _
  rw [List.map_append, List.map_cons]
 have e2 : kS M (X ++ Y) = star (X.map M.fa ++ Y.map M.fa) := by
  show star _ = _
  rw [List.map_append]
 rw [e1] at hw
 rw [e2]; exact kstar_pull w hw
end
theorem Id.klaw (a : Id) : KLaw Tryz.prog 47 (.array 16 5) a.v := KLaw.id a.len a.ok
theorem Id.v_inj {a b : Id} (h : a.v = b.v) : a = b := by
 apply Id.ext_
 have h1 : bytes a.l = bytes b.l := by
  have h2 : (bytes a.l).toArray = (bytes b.l).toArray := by injection h
  simpa using h2
 have h3 : ∀ (x y : List Int), bytes x = bytes y → x = y := by
  intro x
  induction x with
  | nil => intro y hy; cases y with
   | nil => rfl
   | cons _ _ => simp [bytes] at hy
  | cons p r ih => intro y hy; cases y with
   | nil => simp [bytes] at hy
   | cons q s =>
    simp [bytes] at hy
    obtain ⟨h4, h5⟩ := hy
    rw [h4, ih s (by simpa [bytes] using h5)]
 exact h3 _ _ h1
def rpC (id : Id) (t : Int) (P S : Value) : List Value := bytes id.l ++ [.int .u64 t, P, S]
theorem rpC_len {id : Id} {t : Int} {P S : Value} : (rpC id t P S).length = 19 := by simp [rpC, bytes, id.len]
theorem rpC_id {id : Id} {t : Int} {P S : Value} : Mid (rpC id t P S) 0 (bytes id.l) := Mid.head
theorem rpC_n16 {id : Id} {t : Int} {P S : Value} : nth (rpC id t P S) 16 = some (.int .u64 t) := by
 rw [nth_eq, rpC, List.getElem?_append_right (by simp [bytes, id.len])]
 simp [bytes, id.len]
theorem rpC_n17 {id : Id} {t : Int} {P S : Value} : nth (rpC id t P S) 17 = some P := by
 rw [nth_eq, rpC, List.getElem?_append_right (by simp [bytes, id.len])]
 simp [bytes, id.len]
theorem rpC_n18 {id : Id} {t : Int} {P S : Value} : nth (rpC id t P S) 18 = some S := by
 rw [nth_eq, rpC, List.getElem?_append_right (by simp [bytes, id.len])]
 simp [bytes, id.len]
theorem rpC_one {id : Id} {t : Int} {P S : Value} (hP : P.oneCell' = true) (hS : S.oneCell' = true) : ∀ v ∈ rpC id t P S, v.oneCell' = true := by
 intro v hv
 rcases List.mem_append.1 hv with h | h
 ·exact one_bytes _ v h
 ·simp only [List.mem_cons, List.not_mem_nil, or_false] at h
  rcases h with rfl | rfl | rfl
  ·rfl
  ·exact hP
  ·exact hS
structure Wt where
 id : Id
 t : Int
 pA : Option Addr
 pc : Nat
 p : List Int
 sA : Option Addr
 sc : Nat
 s : List Int
 bn : Nat
def Wt.cells (w : Wt) : List Value := rpC w.id w.t (.slice w.pA w.p.length w.pc) (.slice w.sA w.s.length w.sc)
def WM : MK Wt := ⟨fun w => w.id.v, fun w => .agg w.cells.toArray, fun w => w.bn, fun w => star [u8o w.pA w.pc w.p, u8o w.sA w.sc w.s]⟩
structure Sd where
 id : Id
 A : Option Addr
 c : Nat
 l : List Int
 bn : Nat
def SDM : MK Sd := ⟨fun s => s.id.v, fun s => .slice s.A s.l.length s.c, fun s => s.bn, fun s => u8o s.A s.c s.l⟩
abbrev wM (m : Nat) (ws : List Wt) (ck : Nat) : Fa := kM WM m (.array 16 5) ws ck
abbrev wS (ws : List Wt) : Fa := kS WM ws
abbrev dMm (m : Nat) (sd : List Sd) (ck : Nat) : Fa := kM SDM m (.array 16 5) sd ck
abbrev dSs (sd : List Sd) : Fa := kS SDM sd
def stC9 (t : Ta) (gj gi gb mw ms : Nat) (life : Int) : List Value := t.c ++ [.pointer (some ⟨gj, 0, none⟩), .pointer (some ⟨gi, 0, none⟩), .pointer (some ⟨gb, 0, none⟩), .map (some mw), .map (some ms), .int .u64 life]
theorem stC9_mid {t : Ta} {gj gi gb mw ms : Nat} {life : Int} : Mid (stC9 t gj gi gb mw ms life) 0 t.c := Mid.head
theorem stC9_ci {t : Ta} {gj gi gb mw ms : Nat} {life : Int} : Mid (stC9 t gj gi gb mw ms life) 0 t.ci := fun j v hj => by
 have h1 := t.mid j v hj
 have h2 := stC9_mid (t := t) (gj := gj) (gi := gi) (gb := gb) (mw := mw) (ms := ms) (life := life)
 rw [Nat.zero_add] at h1 ⊢
 have := h2 j v h1
 rwa [Nat.zero_add] at this
abbrev sB (g : Nat) (t : Ta) (gj gi gb mw ms : Nat) (life : Int) : Fa := blk g 127 (stC9 t gj gi gb mw ms life)
def wfind (ws : List Wt) (id : Id) : Option Wt := ws.find? (fun w => decide (w.id.l = id.l))
theorem wfind_some {ws : List Wt} {id : Id} {w : Wt} (h : wfind ws id = some w) : w ∈ ws ∧ w.id = id := ⟨List.mem_of_find?_eq_some h, Id.ext_ (by simpa using List.find?_some h)⟩
theorem wfind_none {ws : List Wt} {id : Id} (h : wfind ws id = none) : ∀ w ∈ ws, WM.key w ≠ id.v := fun w hw e => by
 have h1 := List.find?_eq_none.1 h w hw
 have h2 : w.id = id := Id.v_inj e
 rw [h2] at h1
 simp at h1
theorem build_seen3 (id : Id) (t c : Int) (W : World) : (Instr.build 62 #[(0, id.v), (1, .int .u64 t), (2, .int .i64 c)]).run Tryz.prog W = .ok (.agg (bytes id.l ++ [Value.int .u64 t, Value.int .i64 c]).toArray) W := by
 obtain ⟨a0, a1, a2, a3, a4, a5, a6, a7, a8, a9, a10, a11, a12, a13, a14, a15, h⟩ := list16m id.len
 show (Instr.build 62 #[(0, .agg (bytes id.l).toArray), (1, .int .u64 t), (2, .int .i64 c)]).run Tryz.prog W = _
 rw [h]
 kernel_rfl
namespace pSk
theorem nthx_ (h : φ := by first | exact rpC_n16 | exact rpC_n17 | exact rpC_n18 | rfl) : φ := h
theorem midx_ (h : φ := by first | exact rpC_id | exact stC9_ci | exact stC9_mid | exact Mid.all) : φ := h
theorem szx_ (h : φ := by ((try simp only [rpC_len, bytes_length, Id.len]); (first | done | rfl); first | done | fail)) : φ := h
theorem onex_ (h : φ := by first | exact one_bytes _ | exact rpC_one rfl rfl) : φ := h
end pSk
open pSk
theorem saccept_ok {K : List Fa} {g gj gi gb mw ms : Nat} {t : Ta} {life lim : Int} {iA : Option Addr} {ic ck : Nat} {ss : List Seen} {ws : List Wt} {id : Id} {tm : Int} {pA sA : Option Addr} {pc sc : Nat} {p s : List Int}
  (hs : Srt ss) (hn : ss.length ≤ 1000000) (ht : 0 ≤ tm ∧ tm ≤ 18446744073709551615) (hno : hasI ss id = false → wfind ws id = none) :
  Fn Tryz.prog 55 #[.pointer (some ⟨g, 0, none⟩), .agg (rpC id tm (.slice pA p.length pc) (.slice sA s.length sc)).toArray]
   (sB g t gj gi gb mw ms life :: ixb gi iA ss.length ic lim :: ixo iA ic ss :: wM mw ws ck :: wS ws :: u8o pA pc p :: u8o sA sc s :: K)
   (Ret (fun _ : Option Addr × Nat => True) (fun _ => .int .i64 (addI lim ss ⟨id, tm, 30, ht, by decide⟩).1)
     (fun q => sB g t gj gi gb mw ms life :: ixb gi q.1 (addI lim ss ⟨id, tm, 30, ht, by decide⟩).2.length q.2 lim :: ixo q.1 q.2 (addI lim ss ⟨id, tm, 30, ht, by decide⟩).2 ::
       (if (addI lim ss ⟨id, tm, 30, ht, by decide⟩).1 = 0 then wM mw (ws ++ [⟨id, tm, pA, pc, p, sA, sc, s, ck⟩]) (ck + 1) else wM mw ws ck) ::
       (if (addI lim ss ⟨id, tm, 30, ht, by decide⟩).1 = 0 then wS (ws ++ [⟨id, tm, pA, pc, p, sA, sc, s, ck⟩]) else wS ws) :: K)) := by
 refine fe_ Tryz.func55 Tryz.ntmps55 [(0, .pointer (some ⟨g, 0, none⟩)), (1, .agg (rpC id tm (.slice pA p.length pc) (.slice sA s.length sc)).toArray)] ?_
 obtain ⟨sn, hsn⟩ : ∃ sn : Seen, sn = ⟨id, tm, 30, ht, by decide⟩ := ⟨_, rfl⟩
 rw [← hsn]
 have hsv : sn.v = .agg (bytes id.l ++ [Value.int .u64 tm, Value.int .i64 30]).toArray := by rw [hsn]; rfl
 refine go_ ?_; refine bx_ ?_; intro g3; refine go_ ?_; refine dr_ [sB g t gj gi gb mw ms life, blk g3 49 (rpC id tm (.slice pA p.length pc) (.slice sA s.length sc))] 11 ?_; refine y4_ 0 1 2 3 ?_; refine y4_ 4 5 6 7 ?_; refine w1_ 8 ?_; refine sl_pu (pu_build (v := sn.v) rfl (by rw [hsv]; exact build_seen3 id tm 30)) rfl ?_; refine v1_ 9 ?_; refine slc_ rfl rfl sub_ (add_ok (x := gi) (A := iA) (c := ic) (lim := lim) (ss := ss) sn hs hn) ?_; rintro ⟨A1, c1⟩ -; refine vy_ 10 ?_; refine wx_ ?_; dsimp only
 by_cases he : (addI lim ss sn).1 = 0
 ·have hid : sn.id = id := by rw [hsn]
  have hh : hasI ss id = false := by
   unfold addI at he
   split at he
   ·cases he
   ·split at he
    ·cases he
    ·rename_i h1 h2
     rw [hid] at h2
     simpa using h2
  have hnk := wfind_none (hno hh)
  simp only [he, if_true]
  refine go_ ?_; refine dr_ [sB g t gj gi gb mw ms life, blk g3 49 (rpC id tm (.slice pA p.length pc) (.slice sA s.length sc))] 8 ?_; refine y4_ 0 1 2 3 ?_; refine y2_ 4 5 ?_; refine wy_ 6 ?_; refine w1_ 7 ?_; refine sl_knewK (M := WM) (f' := ⟨id, tm, pA, pc, p, sA, sc, s, ck⟩) (fs := ws) (k := id.v) rfl rfl rfl rfl rfl hnk pick_ rfl id.klaw ?_; refine vx_ ?_; refine go_ ?_; refine se_subK (L' := u8o pA pc p :: u8o sA sc s :: wS ws :: sB g t gj gi gb mw ms life :: ixb gi A1 (addI lim ss sn).2.length c1 lim :: ixo A1 c1 (addI lim ss sn).2 :: wM mw (ws ++ [⟨id, tm, pA, pc, p, sA, sc, s, ck⟩]) (ck + 1) :: K) sub_ ?_; refine se_ent (star_in (G := [u8o pA pc p, u8o sA sc s])) ?_; refine se_ent (ks_new (M := WM) (fs := ws) (f' := ⟨id, tm, pA, pc, p, sA, sc, s, ck⟩)) ?_; exact r1_ (A1, c1)
 ·simp only [he, if_false]
  refine go_ ?_; exact r1_ (A1, c1)
end
end
section
open Go
def zs (n : Nat) : List Int := List.replicate n 0
def bodyL (number follow : Nat) (part : List Int) : List Int := le number 3 ++ le follow 3 ++ le part.length 2 ++ part ++ zs (48 - part.length)
def cellL (number follow : Nat) (part : List Int) : List Int := hashL 9 (bodyL number follow part) 8 ++ bodyL number follow part
def manyL (n : Nat) : Nat := max ((n + 47) / 48) 1
def partL (bs : List Int) (i : Nat) : List Int := (bs.drop (i * 48)).take 48
def recF (number many : Nat) (bs : List Int) : Nat → List Int
 | 0 => []
 | i + 1 => recF number many bs i ++ cellL (number + i) (many - 1 - i) (partL bs i)
def recL (number : Nat) (bs : List Int) : List Int := recF number (manyL bs.length) bs (manyL bs.length)
def saysL (d : List Int) (k : Nat) : Option (Nat × List Int) :=
 if 48 < leV ((d.drop 6).take 2) then none else
 if leV (d.take 3) ≠ k then none else
 if (((d.drop 8).take 48).drop (leV ((d.drop 6).take 2)).toNat).all (· == 0) then some ((leV ((d.drop 3).take 3)).toNat, ((d.drop 8).take 48).take (leV ((d.drop 6).take 2)).toNat) else none
def cutL (bs : List Int) (k : Nat) : List Int := (bs.drop (k * 64)).take 64
def takeL (bs : List Int) (k : Nat) : Option (Nat × List Int) :=
 if bs.length < (k + 1) * 64 then none else
 if hashL 9 ((cutL bs k).drop 8) 8 ≠ (cutL bs k).take 8 then none else saysL ((cutL bs k).drop 8) k
def goL (bs : List Int) (k : Nat) : Nat → Nat → List Int → Option (List Int)
 | 0, _, out => some out
 | left + 1, i, out =>
  match takeL bs (k + 1 + i) with
  | some (f, p) => if f = left ∧ out.length = (i + 1) * 48 then goL bs k left (i + 1) (out ++ p) else none
  | none => none
def recordL (bs : List Int) (k : Nat) : Option (List Int × Nat) :=
 match takeL bs k with
 | some (f, p) => if f < 1366 then (goL bs k f 0 p).map fun out => (out, f + 1) else none
 | none => none
end
section
open Go.RowKit
section
def since (w1 : World) (T : Nat → Prop) : Fa := ⟨fun w => Fr T w1 w, fun k => k < w1.heap.size ∧ ¬ T k, fun h e => by have := h.size; omega, fun h hF hn => h.trans hF (fun k hk e => Classical.byContradiction fun ht => hn k ⟨hk, ht⟩ e)⟩
attribute [local semireducible] Sep in
theorem Sep.cons {w : World} {f : Fa} {L : List Fa} (h1 : f.P w) (h2 : ∀ g ∈ L, ∀ k, f.F k → ¬ g.F k) (h3 : Sep w L) : Sep w (f :: L) := ⟨h1, h2, h3⟩
theorem blk_F {g : Nat} {t : TypeId} {cs : List Value} {k : Nat} : (blk g t cs).F k ↔ k = g := by
 unfold blk
 exact Iff.rfl
theorem blk_P {g : Nat} {t : TypeId} {cs : List Value} {w : World} : (blk g t cs).P w ↔ Blk w g t cs.toArray := by
 unfold blk
 exact Iff.rfl
theorem read_facts {K : List Fa} {w w1 : World} {A : Option Addr} {n c : Nat} {bs : List Int} (hw : Sep w K) (hF : Fr Nil w w1) (hsz : w1.heap.size = w.heap.size + 3) (hR : RdR w1 (w.heap.size + 1) A n c bs true) :
  Sep w1 (rdb (w.heap.size + 1) A n c :: since w1 (fun k => k = w.heap.size + 1 ∨ foot K k) :: K) := by
 refine Sep.cons (blk_P.2 (by simpa using hR.blk)) (fun g hg k hk => ?_) (Sep.cons (Fr.refl _ _) (fun g hg k hk hk' => hk.2 (.inr ⟨g, hg, hk'⟩)) (hw.nil hF))
 rw [blk_F.1 hk]
 rcases List.mem_cons.1 hg with e | e
 ·subst e; exact fun h => h.2 (.inl rfl)
 ·intro h
  have := hw.foot_lt _ ⟨g, e, h⟩
  omega
theorem read_mine {H K : List Fa} {w w1 w2 : World} {x : Fa} (hw : Sep w K) (hsz : w1.heap.size = w.heap.size + 3) (hx : x.F (w.heap.size + 1)) (hs : Sep w2 (x :: since w1 (fun k => k = w.heap.size + 1 ∨ foot K k) :: H)) : ∀ k, foot H k → ¬ Mine w k := by
 rintro k ⟨g, hg, hk⟩ (e | e)
 ·subst e
  refine hs.tl.apart g hg _ ⟨by omega, fun h => ?_⟩ hk
  rcases h with h | h
  ·omega
  ·have := hw.foot_lt _ h
   omega
 ·subst e; exact hs.apart g (List.mem_cons_of_mem _ hg) _ hx hk
section
variable {α : Type} {K Z : List Fa} {A : Option Addr} {n c : Nat} {bs rest : List Int} {f : Nat} {caps : Array Value} {φ : α → Prop} {H : α → List Fa}
theorem read_ok (hcall : ∀ args w, (callFunc f args).run Tryz.prog w = .ok (.enter f args) w) (hz : Sub K Z) (h : Rd Z A n c bs) (hH : ∀ a, Sub (H a) Z)
  (hc : ∀ (r : Nat) (f0 : Fa), Fn Tryz.prog f (#[.pointer (some ⟨r, 0, none⟩)] ++ caps) (rdb r A n c :: f0 :: K) (Ret (fun p : α × Rg => φ p.1 ∧ p.2.ok Z rest) (fun _ => .tuple #[]) (fun p => rdb r p.2.A p.2.n p.2.c :: f0 :: H p.1))) :
  Fn Tryz.prog 86 #[.slice A n c, .func (.func f) #[] caps] K (Ret φ (fun _ => .int .i64 (endCode rest)) H) := by
 unfold Fn
 intro w hw; refine (Read_left (rest := rest) (U := foot K) (G := fun w2 => ∃ a, φ a ∧ Sep w2 (H a) ∧ ∀ k, foot (H a) k → ¬ Mine w k) hcall (h.vw w (hw.sub hz)) h.le h.cb (fun k hk => hw.foot_lt k hk) ?_ ?_).mono ?_
 ·intro w1 hF hsz hR
  have c1 := hc (w.heap.size + 1) (since w1 (fun k => k = w.heap.size + 1 ∨ foot K k))
  unfold Fn at c1
  refine (c1 w1 (read_facts hw hF hsz hR)).mono ?_; rintro e w2 ⟨⟨a, q⟩, ⟨ha, hq⟩, he, hs⟩; exact ⟨he, ⟨q.A, q.n, q.c, ⟨by simpa using blk_at hs .here, hq.vw w2 (hs.sub (Sub.skip (Sub.skip (hH a)))), hq.le, hq.cb⟩⟩, hs.at (.there .here), a, ha, hs.tl.tl, read_mine hw hsz (blk_F.2 rfl) hs⟩
 ·rintro w2 w' hF ⟨a, ha, hs, hd⟩; exact ⟨a, ha, hs.fr hF hd, hd⟩
 ·rintro e w' ⟨he, _, a, ha, hs, _⟩; exact ⟨a, ha, he, hs⟩
theorem read_die {x : Int} (hcall : ∀ args w, (callFunc f args).run Tryz.prog w = .ok (.enter f args) w) (hz : Sub K Z) (h : Rd Z A n c bs)
  (hc : ∀ (r : Nat) (f0 : Fa), Fn Tryz.prog f (#[.pointer (some ⟨r, 0, none⟩)] ++ caps) (rdb r A n c :: f0 :: K) (Pan (fun p : α × Rg => φ p.1) (fun _ => stopC x) (fun p => rdb r p.2.A p.2.n p.2.c :: f0 :: H p.1))) :
  Fn Tryz.prog 86 #[.slice A n c, .func (.func f) #[] caps] K (Ret φ (fun _ => .int .i64 x) H) := by
 unfold Fn
 intro w hw; refine (Read_died (c := x) (U := foot K) (G := fun w2 => ∃ a, φ a ∧ Sep w2 (H a) ∧ ∀ k, foot (H a) k → ¬ Mine w k) hcall (h.vw w (hw.sub hz)) h.le h.cb (fun k hk => hw.foot_lt k hk) ?_ ?_).mono ?_
 ·intro w1 hF hsz hR
  have c1 := hc (w.heap.size + 1) (since w1 (fun k => k = w.heap.size + 1 ∨ foot K k))
  unfold Fn at c1
  refine (c1 w1 (read_facts hw hF hsz hR)).mono ?_; rintro e w2 ⟨⟨a, q⟩, ha, he, hs⟩; exact ⟨he, ⟨_, by simpa using blk_at hs .here⟩, hs.at (.there .here), a, ha, hs.tl.tl, read_mine hw hsz (blk_F.2 rfl) hs⟩
 ·rintro w2 w' hF ⟨a, ha, hs, hd⟩; exact ⟨a, ha, hs.fr hF hd, hd⟩
 ·rintro e w' ⟨he, _, a, ha, hs, _⟩; exact ⟨a, ha, he, hs⟩
end
end
theorem nums_back {p : List Int} (h : IsBytes p) : (p.map fun n => UInt8.ofNat n.toNat).map (fun u => (u.toNat : Int)) = p := by
 rw [List.map_map]
 conv => rhs; rw [← List.map_id p]
 refine List.map_congr_left fun x hx => ?_
 obtain ⟨h1, h2⟩ := h x hx
 simp [UInt8.toNat_ofNat']
 omega
theorem str_toList (p : List Int) : (strOfNums p).toList = p.map fun n => UInt8.ofNat n.toNat := by
 rw [Lib.strOfNums_toList]
 rfl
theorem strs_dec {p q : List Int} (hp : IsBytes p) (hq : IsBytes q) : ((strOfNums p).toList == (strOfNums q).toList) = decide (p = q) := by
 rw [Bool.eq_iff_iff, beq_iff_eq, decide_eq_true_eq, str_toList, str_toList]
 constructor
 ·intro h; rw [← nums_back hp, ← nums_back hq, h]
 ·intro h; rw [h]
section
variable {P : Program} {ops : Array Oper} {Q : Exit → Act → World → Prop} {n : Nat} {l : Env} {L L' : List Fa} {rest : List Oper} {d : Tmp} {ty t t' e : TypeId} {pos : String} {after : Array Edge} {x y : Operand} {k m c cb size bytes : Nat} {A B : Option Addr} {xs ys : List Value} {z : Value}
theorem sl_app_full (hx : ev l x = some (.slice A k k)) (hr0 : Vw L (fun w => Reads w size A k xs)) (hk : 0 < k) (hy : ev l y = some (.slice B m cb)) (hr : Vw L (fun w => Reads w size B m ys)) (hm : 0 < m) (ht : P.underlying t = some (.slice e)) (hi : (P.info? e).map (fun i => (i.zero, i.size, i.bytes)) = some (some z, size, bytes)) (hzs : z.cells.size = size)
  (hd : Nat.blt d n = true) (h63 : k + m ≤ maxLen) (hby : (k + m) * bytes ≤ 140737488355328)
  (h : ∀ g c', SL P ops Q rest n ((d, .slice (some ⟨g, 0, none⟩) (k + m) c') :: l) (own e size (some ⟨g, 0, none⟩) (k + m) c' (xs ++ ys) :: L)) : SL P ops Q (⟨some d, .call { callee := .builtin .append, args := #[x, y], argTypes := #[t, t] }, ty, pos, after, none⟩ :: rest) n l L := sl_of fun w hw => by
 obtain ⟨i, hi0, hz0, hz1, hz2⟩ := info_parts hi
 subst hz1 hz2
 have hR0 := hr0 w hw
 have hR := hr w hw
 obtain ⟨ad, rfl, hc0⟩ := hR0.2 hk
 obtain ⟨bd, rfl, hc1⟩ := hR.2 hm
 have h63' : ((k + m : Nat) : Int) ≤ 9223372036854775807 := by
  have := h63
  simp [maxLen] at this
  omega
 have hrun := run_append_grow (P := P) (w := w) t ty e i z ht hi0 hz0 ad k k xs hR0.1 hc0 bd m cb ys hR.1 hc1 (by omega) h63' (growslice_fits (by omega) hby)
 have hge := grownCap_ge w (k + m) k e
 have hle := grownCap_le_maxLen w (k + m) k e h63
 refine wl_run (v := .slice (some ⟨w.heap.size, 0, none⟩) (k + m) (grownCap w (k + m) k e)) (w' := w.drew.alloc (.cells (xs.toArray ++ ys.toArray ++ Builtin.zeroCells z.cells (grownCap w (k + m) k e - (k + m))) e)) ?_ hd ((h w.heap.size _).to (hw.new ((Fr.refl Nil w).drew.alloc _) ?_ (fun j hj => ?_)))
 ·unfold Ru
  intro a _ _ _ _ hs
  simp only [execOp, resolve, List.map_toArray, List.map_cons, List.map_nil, hs.ev hx, hs.ev hy]
  simp only [invoke, builtin, Sem.run_bind, Sem.run_pure, Result.andThen_ok, hrun]
 ·have h0 := hR0.1
  have h1 := hR.1
  have h2 : (grownCap w (k + m) k e - (k + m)) * i.size = grownCap w (k + m) k e * i.size - (k + m) * i.size := Nat.sub_mul _ _ _
  have h3 : (k + m) * i.size ≤ grownCap w (k + m) k e * i.size := Nat.mul_le_mul_right _ hge
  have h4 : (k + m) * i.size = k * i.size + m * i.size := Nat.add_mul _ _ _
  refine own_mk (own_close (cur := xs.toArray ++ ys.toArray ++ Builtin.zeroCells z.cells (grownCap w (k + m) k e - (k + m))) (Blk.new w.drew e _) hge hle ?_ ?_ ?_)
  ·simp only [Array.size_append, List.size_toArray, Builtin.zeroCells, Array.size_map, Array.size_range, hzs]
   omega
  ·simp only [Array.toList_append, List.toList_toArray]
   rw [List.take_left']; rw [List.length_append]; omega
  ·rw [List.length_append]; omega
 ·rw [own_F] at hj
  exact Nat.le_of_eq (Option.some.inj hj)
theorem sl_app_none (hx : ev l x = some (.slice A k c)) (hkc : k ≤ c) (hy : ev l y = some (.slice B 0 cb)) (ht : P.underlying t = some (.slice e)) (hi : (P.info? e).map (fun i => (i.zero, i.size, i.bytes)) = some (some z, size, bytes)) (hd : Nat.blt d n = true)
  (h : SL P ops Q rest n ((d, .slice A k c) :: l) L) : SL P ops Q (⟨some d, .call { callee := .builtin .append, args := #[x, y], argTypes := #[t, t] }, ty, pos, after, none⟩ :: rest) n l L := sl_of fun w hw => by
 obtain ⟨i, hi0, hz0, hz1, hz2⟩ := info_parts hi
 subst hz1 hz2
 have hrun : (Builtin.append_ #[t, t] ty #[.slice A k c, .slice B 0 cb]).run P w = .ok (.slice A k c) w := by
  have h2 : ∀ W : World, (Builtin.firstCells i.size 0 (.slice B 0 cb)).run P W = .ok #[] W := fun W => by
   cases B with
   | none => simp [Builtin.firstCells]
   | some b => simpa using run_firstCells_some (P := P) W i.size 0 b 0 cb [] (by simp) (by simp)
  cases A with
  | none => simp [Builtin.append_, run_underlying ht, sizeOf, typeInfo, hi0, Builtin.lenOf, hkc, h2]
  | some a => simp [Builtin.append_, run_underlying ht, sizeOf, typeInfo, hi0, Builtin.lenOf, hkc, h2, storeCells]
 refine wl_run (v := .slice A k c) (w' := w) ?_ hd (h.to hw)
 unfold Ru
 intro a _ _ _ _ hs
 simp only [execOp, resolve, List.map_toArray, List.map_cons, List.map_nil, hs.ev hx, hs.ev hy]
 simp only [invoke, builtin, Sem.run_bind, Sem.run_pure, Result.andThen_ok, hrun]
end
attribute [local irreducible] Go.Calls Go.Exit.then Go.Exit.inBlock Go.bodyPost Go.Code.wp Go.wpList
theorem jc_one {f : Int} {A : Option Addr} {s c : Nat} : ∀ v ∈ [Value.int .i64 f, .slice A s c], v.oneCell' = true := by
 intro v hv
 simp only [List.mem_cons, List.not_mem_nil, or_false] at hv
 rcases hv with rfl | rfl <;> rfl
abbrev jcl (g8 g7 g9 : Nat) (a b s : Int) (A : Option Addr) (n c : Nat) : List Fa := [blk g8 3 [.int .i64 a], blk g7 197 [.int .i64 b, .slice A n c], blk g9 3 [.int .i64 s]]
theorem take1_ok {K Z : List Fa} {r g8 g7 g9 c : Nat} {A : Option Addr} {d : List Int} (hz : Sub K Z) (h : Rd Z A 56 c d) (hs : leV ((d.drop 6).take 2) ≤ 48) :
  Fn Tryz.prog 153 #[.pointer (some ⟨r, 0, none⟩), .pointer (some ⟨g8, 0, none⟩), .pointer (some ⟨g7, 0, none⟩), .pointer (some ⟨g9, 0, none⟩)] (rdb r A 56 c :: jcl g8 g7 g9 0 0 0 none 0 0 ++ K)
   (Ret (fun p : (Option Addr × Nat) × Rg => p.2.ok Z []) (fun _ => .tuple #[]) (fun p => rdb r p.2.A p.2.n p.2.c :: own 5 1 p.1.1 48 p.1.2 (bytes ((d.drop 8).take 48)) :: jcl g8 g7 g9 (leV (d.take 3)) (leV ((d.drop 3).take 3)) (leV ((d.drop 6).take 2)) p.1.1 48 p.1.2 ++ K)) := by
 refine fe_ Tryz.func153 Tryz.ntmps153 [(0, .pointer (some ⟨r, 0, none⟩)), (1, .pointer (some ⟨g8, 0, none⟩)), (2, .pointer (some ⟨g7, 0, none⟩)), (3, .pointer (some ⟨g9, 0, none⟩))] ?_
 have hl := h.len
 have v0 : 0 ≤ leV (d.take 3) ∧ leV (d.take 3) < 16777216 := by simpa [hl] using leV_lt (h.okb.take 3)
 have v1 : 0 ≤ leV ((d.drop 3).take 3) ∧ leV ((d.drop 3).take 3) < 16777216 := by simpa [hl] using leV_lt ((h.okb.drop 3).take 3)
 have v2 : 0 ≤ leV ((d.drop 6).take 2) ∧ leV ((d.drop 6).take 2) < 65536 := by simpa [hl] using leV_lt ((h.okb.drop 6).take 2)
 show SC _ _ _ _ _ (rdb r A 56 c :: blk g8 3 [.int .i64 0] :: blk g7 197 [.int .i64 0, .slice none 0 0] :: blk g9 3 [.int .i64 0] :: K)
 refine go_ ?_; refine slc_ rfl rfl sub_ (rUint (K := blk g8 3 [.int .i64 0] :: blk g7 197 [.int .i64 0, .slice none 0 0] :: blk g9 3 [.int .i64 0] :: K) (k := 3) (Sub.skip (Sub.skip (Sub.skip hz))) h (by decide) (by decide)) ?_; rintro ⟨A1, n1, c1⟩ hq1
 replace hq1 : Rd Z A1 n1 c1 (d.drop 3) := hq1
 have e1 := hq1.len
 rw [List.length_drop, hl] at e1
 refine go_ ?_; refine slc_ rfl rfl sub_ (rUint (K := blk g8 3 [.int .i64 (leV (d.take 3))] :: blk g7 197 [.int .i64 0, .slice none 0 0] :: blk g9 3 [.int .i64 0] :: K) (k := 3) (Sub.skip (Sub.skip (Sub.skip hz))) hq1 (by decide) (by omega)) ?_; rintro ⟨A2, n2, c2⟩ hq2
 replace hq2 : Rd Z A2 n2 c2 ((d.drop 3).drop 3) := hq2
 rw [List.drop_drop] at hq2
 replace hq2 : Rd Z A2 n2 c2 (d.drop 6) := hq2
 have e2 := hq2.len
 rw [List.length_drop, hl] at e2
 refine go_ ?_; refine slc_ rfl rfl sub_ (rCount (K := blk g8 3 [.int .i64 (leV (d.take 3))] :: blk g7 197 [.int .i64 (leV ((d.drop 3).take 3)), .slice none 0 0] :: blk g9 3 [.int .i64 0] :: K) (k := 2) (Sub.skip (Sub.skip (Sub.skip hz))) hq2 (by decide) (by omega) hs (by decide)) ?_; rintro ⟨A3, n3, c3⟩ hq3
 replace hq3 : Rd Z A3 n3 c3 ((d.drop 6).drop 2) := hq3
 rw [List.drop_drop] at hq3
 replace hq3 : Rd Z A3 n3 c3 (d.drop 8) := hq3
 have e3 := hq3.len
 rw [List.length_drop, hl] at e3
 refine go_ ?_; refine slc_ rfl rfl sub_ (rRaw (K := blk g8 3 [.int .i64 (leV (d.take 3))] :: blk g7 197 [.int .i64 (leV ((d.drop 3).take 3)), .slice none 0 0] :: blk g9 3 [.int .i64 (leV ((d.drop 6).take 2))] :: K) (k := 48) (Sub.skip (Sub.skip (Sub.skip hz))) hq3 (by omega)) ?_; rintro ⟨⟨A4, c4⟩, ⟨A5, n5, c5⟩⟩ hq4
 replace hq4 : Rd Z A5 n5 c5 ((d.drop 8).drop 48) := hq4
 rw [List.drop_drop, List.drop_of_length_le (by omega)] at hq4
 refine go_ ?_; refine se_end0 ((A4, c4), ⟨A5, n5, c5⟩) hq4 rfl rfl ?_
 show Sub _ (rdb r A5 n5 c5 :: own 5 1 A4 48 c4 (bytes ((d.drop 8).take 48)) :: blk g8 3 [.int .i64 (leV (d.take 3))] :: blk g7 197 [.int .i64 (leV ((d.drop 3).take 3)), .slice A4 48 c4] :: blk g9 3 [.int .i64 (leV ((d.drop 6).take 2))] :: K)
 exact sub_
theorem take1_die {K Z : List Fa} {r g8 g7 g9 c : Nat} {A : Option Addr} {d : List Int} (hz : Sub K Z) (h : Rd Z A 56 c d) (hs : 48 < leV ((d.drop 6).take 2)) :
  Fn Tryz.prog 153 #[.pointer (some ⟨r, 0, none⟩), .pointer (some ⟨g8, 0, none⟩), .pointer (some ⟨g7, 0, none⟩), .pointer (some ⟨g9, 0, none⟩)] (rdb r A 56 c :: jcl g8 g7 g9 0 0 0 none 0 0 ++ K)
   (Pan (fun _ : Rg => True) (fun _ => stopC 6) (fun p => rdb r p.A p.n p.c :: K)) := by
 refine fe_ Tryz.func153 Tryz.ntmps153 [(0, .pointer (some ⟨r, 0, none⟩)), (1, .pointer (some ⟨g8, 0, none⟩)), (2, .pointer (some ⟨g7, 0, none⟩)), (3, .pointer (some ⟨g9, 0, none⟩))] ?_
 have hl := h.len
 have v0 : 0 ≤ leV (d.take 3) ∧ leV (d.take 3) < 16777216 := by simpa [hl] using leV_lt (h.okb.take 3)
 have v1 : 0 ≤ leV ((d.drop 3).take 3) ∧ leV ((d.drop 3).take 3) < 16777216 := by simpa [hl] using leV_lt ((h.okb.drop 3).take 3)
 have v2 : 0 ≤ leV ((d.drop 6).take 2) ∧ leV ((d.drop 6).take 2) < 65536 := by simpa [hl] using leV_lt ((h.okb.drop 6).take 2)
 show SC _ _ _ _ _ (rdb r A 56 c :: blk g8 3 [.int .i64 0] :: blk g7 197 [.int .i64 0, .slice none 0 0] :: blk g9 3 [.int .i64 0] :: K)
 refine go_ ?_; refine slc_ rfl rfl sub_ (rUint (K := blk g8 3 [.int .i64 0] :: blk g7 197 [.int .i64 0, .slice none 0 0] :: blk g9 3 [.int .i64 0] :: K) (k := 3) (Sub.skip (Sub.skip (Sub.skip hz))) h (by decide) (by decide)) ?_; rintro ⟨A1, n1, c1⟩ hq1
 replace hq1 : Rd Z A1 n1 c1 (d.drop 3) := hq1
 have e1 := hq1.len
 rw [List.length_drop, hl] at e1
 refine go_ ?_; refine slc_ rfl rfl sub_ (rUint (K := blk g8 3 [.int .i64 (leV (d.take 3))] :: blk g7 197 [.int .i64 0, .slice none 0 0] :: blk g9 3 [.int .i64 0] :: K) (k := 3) (Sub.skip (Sub.skip (Sub.skip hz))) hq1 (by decide) (by omega)) ?_; rintro ⟨A2, n2, c2⟩ hq2
 replace hq2 : Rd Z A2 n2 c2 ((d.drop 3).drop 3) := hq2
 rw [List.drop_drop] at hq2
 replace hq2 : Rd Z A2 n2 c2 (d.drop 6) := hq2
 have e2 := hq2.len
 rw [List.length_drop, hl] at e2
 refine go_ ?_; refine sl_die rfl rfl (by kernel_rfl) sub_ (rCount_range (K := blk g8 3 [.int .i64 (leV (d.take 3))] :: blk g7 197 [.int .i64 (leV ((d.drop 3).take 3)), .slice none 0 0] :: blk g9 3 [.int .i64 0] :: K) (k := 2) (Sub.skip (Sub.skip (Sub.skip hz))) hq2 (by decide) (by omega) hs) ?_; rintro ⟨A3, n3, c3⟩ -; refine go_ ?_; exact se_panic ⟨A3, n3, c3⟩ trivial sub_
theorem sum_ok {K : List Fa} {A : Option Addr} {n c : Nat} {xs : List Int} (h : Rd K A n c xs) (hn : 8 ≤ n) :
  Fn Tryz.prog 152 #[.slice A n c] K (Ret (fun _ : Option Addr × Nat => True) (fun p => .slice p.1 8 p.2) (fun p => own 5 1 p.1 8 p.2 (bytes (hashL 9 (xs.drop 8) 8)) :: K)) := by
 refine fe_ Tryz.func152 Tryz.ntmps152 [(0, .slice A n c)] ?_
 have hle := h.le
 have h8 := h.next hn
 refine go_ ?_; refine slc_ rfl rfl sub_ (hash_ok (n := 8) (by decide) (by decide) (by decide) h8.vw h8.okb h8.len h8.big) ?_; rintro ⟨A2, c2⟩ -; refine go_ ?_; exact r1_ (A2, c2)
theorem Rd.front {Z : List Fa} {A : Option Addr} {n c m : Nat} {rest : List Int} (h : Rd Z A n c rest) (hm : m ≤ n) : Rd Z A m c (rest.take m) :=
 ⟨fun w hw => by have h1 := (h.vw w hw).take (k := m) hm; rwa [bytes_take] at h1, Nat.le_trans hm h.le, Nat.le_trans hm h.big, h.cb, by rw [List.length_take, h.len]; omega, h.okb.take m⟩
theorem Rd.mono {Z Z' : List Fa} {A : Option Addr} {n c : Nat} {rest : List Int} (h : Rd Z A n c rest) (hs : Sub Z' Z) : Rd Z' A n c rest := ⟨h.vw.mono hs, h.le, h.big, h.cb, h.len, h.okb⟩
theorem saysL_no1 {d : List Int} {k : Nat} (h : 48 < leV ((d.drop 6).take 2)) : saysL d k = none := if_pos h
theorem saysL_no2 {d : List Int} {k : Nat} (h : ¬ 48 < leV ((d.drop 6).take 2)) (h2 : leV (d.take 3) ≠ k) : saysL d k = none := (if_neg h).trans (if_pos h2)
theorem saysL_eq {d : List Int} {k s f : Nat} (h : ¬ 48 < leV ((d.drop 6).take 2)) (h2 : leV (d.take 3) = k) (hs : leV ((d.drop 6).take 2) = s) (hf : leV ((d.drop 3).take 3) = f) :
  saysL d k = if (((d.drop 8).take 48).drop s).all (· == 0) then some (f, ((d.drop 8).take 48).take s) else none := by
 refine (if_neg h).trans ((if_neg (fun hn => hn h2)).trans ?_); rw [hs, hf, Int.toNat_natCast, Int.toNat_natCast]
def jz : List Value := [.int .i64 0, .slice none 0 0]
theorem build_jz (W : World) : (Instr.build 197 #[]).run Tryz.prog W = .ok (.agg jz.toArray) W := by kernel_rfl
theorem jz_one : ∀ v ∈ jz, v.oneCell' = true := by decide
theorem call_take1 : ∀ args w, (callFunc 153 args).run Tryz.prog w = .ok (.enter 153 args) w := fun args w => by kernel_rfl
def TkA (K : List Fa) : Option (Nat × List Int) → Ending → World → Prop
 | some (f, p) => Ret (fun _ : Option Addr × Nat => True) (fun q => .tuple #[.agg #[.int .i64 f, .slice q.1 p.length q.2], .bool true]) (fun q => u8o q.1 q.2 p :: K)
 | none => Ret (fun _ : Unit => True) (fun _ => .tuple #[.agg jz.toArray, .bool false]) (fun _ => K)
theorem TkA_no {K : List Fa} : TkA K none = Ret (fun _ : Unit => True) (fun _ => .tuple #[.agg jz.toArray, .bool false]) (fun _ => K) := rfl
theorem TkA_yes {K : List Fa} {f : Nat} {p : List Int} : TkA K (some (f, p)) = Ret (fun _ : Option Addr × Nat => True) (fun q => .tuple #[.agg #[.int .i64 f, .slice q.1 p.length q.2], .bool true]) (fun q => u8o q.1 q.2 p :: K) := rfl
theorem e1_Jt (h : φ := by (refine go_ ?_; refine sl_pu (pu_build (v := .agg jz.toArray) rfl build_jz) rfl ?_; refine sl_store_whole (cl := jz) rfl pick_ rfl rfl rfl jz_one ?_; refine go_ ?_; exact se_ret_ct () trivial rfl rfl at_ rfl rfl rfl rfl rfl sub_)) : φ := h
theorem take_ok {K : List Fa} {A : Option Addr} {n c k : Nat} {bs : List Int} (h : Rd K A n c bs) (hk : k ≤ 1000000000000) :
  Fn Tryz.prog 124 #[.slice A n c, .int .i64 k] K (TkA K (takeL bs k)) := by
 refine fe_ Tryz.func124 Tryz.ntmps124 [(0, .slice A n c), (1, .int .i64 k)] ?_
 have hle := h.le
 have hbig := h.big
 have hlen := h.len
 by_cases h1 : n < (k + 1) * 64
 ·rw [show takeL bs k = none from if_pos (by omega), TkA_no]; refine go_ ?_; refine al_ ?_; intro g4; exact e1_Jt
 have hx : Rd K (cutA A c (k * 64) 1) 64 (c - k * 64) (cutL bs k) := (h.next (k := k * 64) (by omega)).front (m := 64) (by omega)
 have htk : takeL bs k = if hashL 9 ((cutL bs k).drop 8) 8 ≠ (cutL bs k).take 8 then none else saysL ((cutL bs k).drop 8) k := if_neg (by omega)
 rw [htk]
 clear htk
 have e64 : k * 64 + 64 - k * 64 = 64 := by omega
 refine go_ ?_; refine al_ ?_; intro g4; refine go_ ?_; rw [show ((k : Int) * 64).toNat = k * 64 by omega, show ((k : Int) * 64 + 64).toNat = k * 64 + 64 by omega, e64]
 generalize cutA A c (k * 64) 1 = B at hx ⊢
 generalize c - k * 64 = cb at hx ⊢
 generalize cutL bs k = xs at hx ⊢
 clear h hle hbig hlen h1 e64
 have hle := hx.le
 have hlen := hx.len
 have hh := hashL_ok 9 (xs.drop 8) 8
 refine sc_join (fun _ : Unit => [(0, .slice B 64 cb), (1, .int .i64 k), (4, .pointer (some ⟨g4, 0, none⟩)), (32, .bool (!decide (hashL 9 (xs.drop 8) 8 = xs.take 8)))]) (fun _ => blk g4 197 jz :: K) (fun _ => True) ?_ ?_
 ·refine sd_drawn (S2 (K) []) (fun _ => true) (by kernel_rfl) 7 rfl ?_; refine wz_ 0 ?_; refine wz_ 3 ?_; refine sd_yes2 4 rfl gd_ (by kernel_rfl) (by kernel_rfl) nop_ (pu_slice_hn (j := 8) rfl rfl rfl rfl rfl (by omega)) rfl (fun w hw => ⟨hw.sub sub_, by exact all_ hw⟩) ?_; refine sd_yes2 5 rfl gd_ (by kernel_rfl) (by kernel_rfl) nop_ (pu_str (bs := xs.take 8) rfl rfl rfl rfl (fun W hW => (hx.front (m := 8) (by omega)).vw W hW.1)) rfl (fun w hw => ⟨hw.sub sub_, by exact all_ hw⟩) ?_; refine w1_ 1 ?_; refine slc_ rfl rfl Sub.refl (sum_ok (hx.mono sub_) (by omega)) ?_; rintro ⟨A1, c1⟩ -; refine wm_ ?_; refine w1_ 2 ?_; refine sl_pu (pu_strv (Vw.of_own (e := 5) (c := c1) at_) rfl rfl rfl rfl) rfl ?_; refine wm_ ?_; refine wz_ 6 ?_; refine wx_ ?_; rw [strs_dec hh.2 (hx.okb.take 8)]; exact se_mid () has_ sub_ trivial
 rintro _ -
 by_cases h2 : hashL 9 (xs.drop 8) 8 ≠ xs.take 8
 ·rw [if_pos h2, TkA_no, decide_eq_false h2]; exact e1_Jt
 rw [if_neg h2, decide_eq_true (Classical.not_not.1 h2)]
 have hd : Rd K (cutA B cb 8 1) 56 (cb - 8) (xs.drop 8) := hx.next (k := 8) (by omega)
 clear h2 hh
 generalize xs.drop 8 = d at hd ⊢
 have hdl := hd.len
 refine go_ ?_; refine al_ ?_; intro g7; refine go_ ?_; refine al_ ?_; intro g8; refine go_ ?_; refine al_ ?_; intro g9; refine go_ ?_
 by_cases h3 : 48 < leV ((d.drop 6).take 2)
 ·rw [saysL_no1 h3, TkA_no]; refine slc_ rfl rfl sub_ (read_die (α := Unit) (x := 6) (φ := fun _ => True) (H := fun _ => blk g4 197 jz :: K) (K := blk g8 3 [.int .i64 0] :: blk g7 197 [.int .i64 0, .slice none 0 0] :: blk g9 3 [.int .i64 0] :: blk g4 197 jz :: K) (Z := K) call_take1 (Sub.skip (Sub.skip (Sub.skip (Sub.skip Sub.refl)))) hd (fun r f0 => ?_)) ?_
  ·have h := take1_die (r := r) (g8 := g8) (g7 := g7) (g9 := g9) (K := f0 :: blk g4 197 jz :: K) (Z := K) (Sub.skip (Sub.skip Sub.refl)) hd h3
   refine (h.sub (by show Sub _ (rdb r _ _ _ :: blk g8 3 [.int .i64 0] :: blk g7 197 [.int .i64 0, .slice none 0 0] :: blk g9 3 [.int .i64 0] :: f0 :: blk g4 197 jz :: K); exact sub_)).mono ?_; rintro e w ⟨q, -, he, hs⟩; exact ⟨((), q), trivial, he, hs⟩
  rintro _ -; exact e1_Jt
 refine slc_ rfl rfl sub_ (read_ok (α := Option Addr × Nat) (rest := []) (φ := fun _ => True) (H := fun p => own 5 1 p.1 48 p.2 (bytes ((d.drop 8).take 48)) :: blk g8 3 [.int .i64 (leV (d.take 3))] :: blk g7 197 [.int .i64 (leV ((d.drop 3).take 3)), .slice p.1 48 p.2] :: blk g9 3 [.int .i64 (leV ((d.drop 6).take 2))] :: blk g4 197 jz :: K) (K := blk g8 3 [.int .i64 0] :: blk g7 197 [.int .i64 0, .slice none 0 0] :: blk g9 3 [.int .i64 0] :: blk g4 197 jz :: K) (Z := K) call_take1 (Sub.skip (Sub.skip (Sub.skip (Sub.skip Sub.refl)))) hd (fun p => Sub.skip (Sub.skip (Sub.skip (Sub.skip (Sub.skip Sub.refl))))) (fun r f0 => ?_)) ?_
 ·have h := take1_ok (r := r) (g8 := g8) (g7 := g7) (g9 := g9) (K := f0 :: blk g4 197 jz :: K) (Z := K) (Sub.skip (Sub.skip Sub.refl)) hd (by omega)
  refine (h.sub (by show Sub _ (rdb r _ _ _ :: blk g8 3 [.int .i64 0] :: blk g7 197 [.int .i64 0, .slice none 0 0] :: blk g9 3 [.int .i64 0] :: f0 :: blk g4 197 jz :: K); exact sub_)).mono ?_; rintro e w ⟨q, hq, he, hs⟩
  refine ⟨q, ⟨trivial, hq⟩, he, hs.sub ?_⟩
  show Sub (rdb r q.2.A q.2.n q.2.c :: own 5 1 q.1.1 48 q.1.2 (bytes ((d.drop 8).take 48)) :: blk g8 3 [.int .i64 (leV (d.take 3))] :: blk g7 197 [.int .i64 (leV ((d.drop 3).take 3)), .slice q.1.1 48 q.1.2] :: blk g9 3 [.int .i64 (leV ((d.drop 6).take 2))] :: f0 :: blk g4 197 jz :: K) _
  exact sub_
 rintro ⟨A4, c4⟩ -; rw [show endCode [] = 0 from rfl]
 obtain ⟨s, hs⟩ : ∃ s : Nat, leV ((d.drop 6).take 2) = s := ⟨_, (Int.toNat_of_nonneg (leV_lt ((hd.okb.drop 6).take 2)).1).symm⟩
 obtain ⟨f, hf⟩ : ∃ f : Nat, leV ((d.drop 3).take 3) = f := ⟨_, (Int.toNat_of_nonneg (leV_lt ((hd.okb.drop 3).take 3)).1).symm⟩
 have hs48 : s ≤ 48 := by omega
 by_cases h5 : leV (d.take 3) ≠ k
 ·rw [saysL_no2 h3 h5, TkA_no]
  generalize leV (d.take 3) = sd at h5 ⊢
  exact e1_Jt
 replace h5 := Classical.not_not.1 h5
 rw [saysL_eq h3 h5 hs hf, h5, hs, hf]
 have hpl : ((d.drop 8).take 48).length = 48 := by rw [List.length_take, List.length_drop, hdl]; decide
 have hpb := (hd.okb.drop 8).take 48
 generalize (d.drop 8).take 48 = part at hpl hpb ⊢
 clear h3 h5 hs hf hd hx
 refine sl_know (fun w hw => (own_len (e := 5) (size := 1) (A := A4) hw at_).2) ?_; rintro ⟨l1, l2⟩
 have hr : Rd [own 5 1 A4 48 c4 (bytes part)] A4 48 c4 part := ⟨Vw.of_own .here, l1, by decide, l2, hpl, hpb⟩
 have hq := hr.next hs48
 have hql := hq.len
 refine go_ ?_
 generalize cutA A4 c4 s 1 = B2 at hq ⊢
 refine sc_for (fun j : Nat => [(4, .pointer (some ⟨g4, 0, none⟩)), (7, .pointer (some ⟨g7, 0, none⟩)), (9, .pointer (some ⟨g9, 0, none⟩)), (49, .slice B2 (48 - s) (c4 - s)), (50, .int .i64 ((48 - s : Nat) : Int)), (51, .int .i64 j)]) (fun _ => own 5 1 A4 48 c4 (bytes part) :: blk g7 197 [.int .i64 f, .slice A4 48 c4] :: blk g9 3 [.int .i64 s] :: blk g4 197 jz :: K) (fun j => j ≤ 48 - s ∧ ((part.drop s).take j).all (· == 0) = true) (fun j => 48 - s - j) 0 has_ sub_ ⟨Nat.zero_le _, rfl⟩ ?_; rintro j ⟨hj, hall⟩
 by_cases hlt : j < 48 - s
 ·have hlt' : j < (part.drop s).length := by omega
  have hb := hq.okb _ (List.getElem_mem hlt')
  refine sc_know (vw_form (hq.vw.mono (L' := own 5 1 A4 48 c4 (bytes part) :: blk g7 197 [.int .i64 f, .slice A4 48 c4] :: blk g9 3 [.int .i64 s] :: blk g4 197 jz :: K) sub_) (by omega)) ?_; rintro ⟨ad, rfl⟩; refine go_ ?_; refine sl_pu (pu_ldr (hq.vw.mono sub_) (by omega) rfl rfl (bytes_nth1 hlt')) rfl ?_
  have hsn := take_snoc hlt'
  by_cases hz : (part.drop s)[j] = 0
  ·rw [hz] at hsn ⊢
   refine go_ ?_; exact se_round (j + 1) has_ sub_ ⟨hlt, by rw [hsn, List.all_append, hall]; rfl⟩ (by omega)
  ·have hno : (part.drop s).all (· == 0) = false := by
    rw [Bool.eq_false_iff]; intro hc
    rw [List.all_eq_true] at hc
    exact hz (by simpa using hc _ (List.getElem_mem hlt'))
   rw [hno, if_neg Bool.false_ne_true, TkA_no]
   generalize (part.drop s)[j] = z at hb hz ⊢
   exact e1_Jt
 obtain rfl : j = 48 - s := by omega
 rw [List.take_of_length_le (by omega)] at hall
 rw [hall, if_pos rfl, TkA_yes]; refine go_ ?_
 try refine sl_store_whole (cs := jz) (cl := [.int .i64 f, .slice A4 s c4]) rfl pick_ rfl rfl rfl jc_one ?_
 refine go_ ?_; refine se_ent (L' := own 5 1 A4 s c4 ((bytes part).take (s * 1)) :: blk g4 197 [.int .i64 f, .slice A4 s c4] :: K) (fun w hw => (sep_less (e := 5) (size := 1) (A := A4) (k := 48) (c := c4) (xs := bytes part) (m := s) (L' := blk g4 197 [.int .i64 f, .slice A4 s c4] :: K) (hw.sub sub_) .here hs48)) ?_; rw [bytes_take]
 have e1 : (part.take s).length = s := by rw [List.length_take, hpl]; omega
 refine se_ret_ct (A4, c4) trivial rfl rfl at_ rfl rfl rfl rfl ?_ ?_
 ·rw [e1]
 ·show Sub _ (own 5 1 A4 (part.take s).length c4 (bytes (part.take s)) :: K)
  rw [e1]; exact sub_
attribute [local irreducible] takeL
section
theorem saysL_some {d : List Int} {k f : Nat} {p : List Int} (h : saysL d k = some (f, p)) (hb : IsBytes d) : p.length ≤ 48 ∧ f < 16777216 ∧ IsBytes p := by
 unfold saysL at h
 split at h
 ·cases h
 split at h
 ·cases h
 split at h
 ·injection h with h
  injection h with h1 h2
  subst h1 h2
  refine ⟨by rw [List.length_take, List.length_take]; omega, ?_, ((hb.drop 8).take 48).take _⟩
  have := leV_lt ((hb.drop 3).take 3)
  have h3 : ((d.drop 3).take 3).length ≤ 3 := by rw [List.length_take]; omega
  have h4 : (2 : Int) ^ (8 * ((d.drop 3).take 3).length) ≤ 2 ^ 24 := by
   have h5 : (2 : Nat) ^ (8 * ((d.drop 3).take 3).length) ≤ 2 ^ 24 := Nat.pow_le_pow_right (by decide) (by omega)
   have h6 : ((2 ^ (8 * ((d.drop 3).take 3).length) : Nat) : Int) ≤ ((2 ^ 24 : Nat) : Int) := by omega
   simpa using h6
  omega
 ·cases h
attribute [local semireducible] takeL in
theorem takeL_some {bs : List Int} {k f : Nat} {p : List Int} (h : takeL bs k = some (f, p)) (hb : IsBytes bs) : p.length ≤ 48 ∧ f < 16777216 ∧ IsBytes p ∧ (k + 1) * 64 ≤ bs.length := by
 unfold takeL at h
 split at h
 ·cases h
 split at h
 ·cases h
 obtain ⟨h1, h2, h3⟩ := saysL_some h (((hb.drop _).take _).drop _)
 exact ⟨h1, h2, h3, by omega⟩
theorem build_jc (f : Int) (A : Option Addr) (n c : Nat) (W : World) : (Instr.build 197 #[(0, .int .i64 f), (1, .slice A n c)]).run Tryz.prog W = .ok (.agg #[.int .i64 f, .slice A n c]) W := by kernel_rfl
namespace pJr
theorem onex_ (h : φ := by first | exact jc_one | exact jz_one | exact one_bytes _) : φ := h
end pJr
open pJr
theorem cells_ok {K : List Fa} {n : Nat} (hn : n ≤ 1000000000000000) :
  Fn Tryz.prog 151 #[.int .i64 n] K (Ret (fun _ : Unit => True) (fun _ => .int .i64 (manyL n)) (fun _ => K)) := by
 refine fe_ Tryz.func151 Tryz.ntmps151 [(0, .int .i64 n)] ?_
 have hm : (if ((n : Int) + 64 - 16 - 1) / 48 < 1 then (1 : Int) else ((n : Int) + 64 - 16 - 1) / 48) = manyL n := by
  unfold manyL
  split <;> omega
 refine go_ ?_; rw [hm]; refine go_ ?_; exact r1_ ()
def RcA (K : List Fa) : Option (List Int × Nat) → Ending → World → Prop
 | some (out, m) => Ret (fun q : Option Addr × Nat × Nat => out.length ≤ q.2.1 ∧ q.2.1 ≤ maxLen) (fun q => .tuple #[.slice q.1 out.length q.2.1, .int .i64 m, .bool true]) (fun q => u8o q.1 q.2.2 out :: K)
 | none => Ret (fun _ : Unit => True) (fun _ => .tuple #[.slice none 0 0, .int .i64 0, .bool false]) (fun _ => K)
theorem RcA_no {K : List Fa} : RcA K none = Ret (fun _ : Unit => True) (fun _ => .tuple #[.slice none 0 0, .int .i64 0, .bool false]) (fun _ => K) := rfl
theorem RcA_yes {K : List Fa} {out : List Int} {m : Nat} : RcA K (some (out, m)) = Ret (fun q : Option Addr × Nat × Nat => out.length ≤ q.2.1 ∧ q.2.1 ≤ maxLen) (fun q => .tuple #[.slice q.1 out.length q.2.1, .int .i64 m, .bool true]) (fun q => u8o q.1 q.2.2 out :: K) := rfl
structure Jg where
 i : Nat
 out : List Int
 A : Option Addr
 c : Nat
 d : Nat
theorem o1_Jr (h : φ := by exact se_ret3 () trivial rfl rfl rfl rfl rfl sub_) : φ := h
theorem record_ok {K : List Fa} {A : Option Addr} {n c k : Nat} {bs : List Int} (h : Rd K A n c bs) (hk : k ≤ 100000000000) :
  Fn Tryz.prog 123 #[.slice A n c, .int .i64 k] K (RcA K (recordL bs k)) := by
 refine fe_ Tryz.func123 Tryz.ntmps123 [(0, .slice A n c), (1, .int .i64 k)] ?_
 have hle := h.le
 have hbig := h.big
 have hlen := h.len
 have htk := take_ok h (k := k) (by omega)
 refine go_ ?_
 cases ht : takeL bs k with
 | none =>
  rw [show recordL bs k = none from by unfold recordL; rw [ht], RcA_no]
  rw [ht, TkA_no] at htk
  refine slc_ rfl rfl sub_ htk ?_; rintro _ -; refine go_ ?_; refine al_ ?_; intro g7; refine go_ ?_; refine dr_ [blk g7 197 jz] 8 ?_; refine y2_ 0 1 ?_; refine wy_ 2 ?_
  first | refine wy_ 3 ?_ | refine wo_ 3 ?_ | refine wp_ 3 ?_
  first | refine wy_ 4 ?_ | refine wo_ 4 ?_ | refine wp_ 4 ?_
  refine w1_ 5 ?_
  repeat refine su_ ?_
  refine wn_ ?_
  first | refine wy_ 6 ?_ | refine wo_ 6 ?_ | refine wp_ 6 ?_
  refine wy_ 7 ?_; refine wx_ ?_; refine go_ ?_; exact o1_Jr
 | some fp =>
  obtain ⟨f, p⟩ := fp
  obtain ⟨hp1, hp2, hp3, hp4⟩ := takeL_some ht h.okb
  rw [ht, TkA_yes] at htk
  refine slc_ rfl rfl sub_ htk ?_; rintro ⟨P, cp⟩ -; refine go_ ?_; refine al_ ?_; intro g7; refine go_ ?_
  by_cases hf : ¬ f < 1366
  ·rw [show recordL bs k = none from by unfold recordL; rw [ht]; exact if_neg hf, RcA_no]; refine dr_ [blk g7 197 [.int .i64 f, .slice P p.length cp]] 8 ?_; refine y2_ 0 1 ?_; refine wy_ 2 ?_
   first | refine wy_ 3 ?_ | refine wo_ 3 ?_ | refine wp_ 3 ?_
   first | refine wy_ 4 ?_ | refine wo_ 4 ?_ | refine wp_ 4 ?_
   refine w1_ 5 ?_
   repeat refine su_ ?_
   refine slc_ rfl rfl Sub.refl (cells_ok (n := 65536) (by decide)) ?_; rintro _ -; rw [show ((manyL 65536 : Nat) : Int) = 1366 from rfl]; refine wn_ ?_
   first | refine wy_ 6 ?_ | refine wo_ 6 ?_ | refine wp_ 6 ?_
   refine wy_ 7 ?_; refine wx_ ?_; refine go_ ?_; exact o1_Jr
  replace hf := Classical.not_not.1 hf
  have hX : recordL bs k = (goL bs k f 0 p).map fun out => (out, f + 1) := by unfold recordL; rw [ht]; exact if_pos hf
  generalize recordL bs k = X at hX ⊢
  refine sc_join (fun _ : Unit => [(0, .slice A n c), (1, .int .i64 k), (7, .pointer (some ⟨g7, 0, none⟩)), (27, .bool false)]) (fun _ => blk g7 197 [.int .i64 f, .slice P p.length cp] :: u8o P cp p :: K) (fun _ => True) ?_ ?_
  ·refine dr_ [blk g7 197 [.int .i64 f, .slice P p.length cp]] 8 ?_; refine y2_ 0 1 ?_; refine wy_ 2 ?_
   first | refine wy_ 3 ?_ | refine wo_ 3 ?_ | refine wp_ 3 ?_
   first | refine wy_ 4 ?_ | refine wo_ 4 ?_ | refine wp_ 4 ?_
   refine w1_ 5 ?_
   repeat refine su_ ?_
   refine slc_ rfl rfl Sub.refl (cells_ok (n := 65536) (by decide)) ?_; rintro _ -; rw [show ((manyL 65536 : Nat) : Int) = 1366 from rfl]; refine wn_ ?_
   first | refine wy_ 6 ?_ | refine wo_ 6 ?_ | refine wp_ 6 ?_
   refine wy_ 7 ?_; refine wx_ ?_; exact se_mid () has_ sub_ trivial
  rintro _ -; refine sc_know (fun w hw => (own_len (e := 5) (size := 1) (A := P) hw at_).2) ?_; rintro ⟨l1, l2⟩; refine go_ ?_; refine sc_for (fun q : Jg => [(0, .slice A n c), (1, .int .i64 k), (7, .pointer (some ⟨g7, 0, none⟩)), (9, .slice q.A q.out.length q.c), (31, .int .i64 f), (32, .int .i64 q.i)]) (fun q => u8o q.A q.d q.out :: blk g7 197 [.int .i64 f, .slice P p.length cp] :: K) (fun q => q.i ≤ f ∧ X = (goL bs k (f - q.i) q.i q.out).map (fun out => (out, f + 1)) ∧ (q.out.length ≤ q.c ∧ q.c ≤ maxLen) ∧ q.out.length ≤ 48 * (q.i + 1)) (fun q => f - q.i) ⟨0, p, P, cp, cp⟩ has_ sub_ ⟨Nat.zero_le _, hX, ⟨l1, l2⟩, by show p.length ≤ 48 * (0 + 1); omega⟩ ?_; rintro ⟨i, out, B, cb, db⟩ ⟨hi, hgo, hcb, hob⟩
  replace hi : i ≤ f := hi
  replace hgo : X = (goL bs k (f - i) i out).map (fun out => (out, f + 1)) := hgo
  replace hcb : out.length ≤ cb ∧ cb ≤ maxLen := hcb
  have hcb1 := hcb.1
  replace hob : out.length ≤ 48 * (i + 1) := hob
  dsimp only
  clear hX
  by_cases hlt : i < f
  ·obtain ⟨left, hleft⟩ : ∃ left, f - i = left + 1 := ⟨f - i - 1, by omega⟩
   rw [hleft] at hgo
   refine go_ ?_; refine sl_pu (pu_build (v := .agg #[.int .i64 (f - i), .slice B out.length cb]) rfl (build_jc _ _ _ _)) rfl ?_; refine go_ ?_; refine al_ ?_; intro g11; refine go_ ?_; rw [show (k : Int) + 1 + i = ((k + 1 + i : Nat) : Int) by omega]
   have htk2 := take_ok (h.mono (Z' := blk g11 197 [.int .i64 (f - i), .slice B out.length cb] :: u8o B db out :: blk g7 197 [.int .i64 f, .slice P p.length cp] :: K) sub_) (k := k + 1 + i) (by omega)
   cases ht2 : takeL bs (k + 1 + i) with
   | none =>
    rw [show X = none from by rw [hgo, goL, ht2]; rfl, RcA_no]
    rw [ht2, TkA_no] at htk2
    refine slc_ rfl rfl sub_ htk2 ?_; rintro _ -; refine go_ ?_; refine al_ ?_; intro g12; refine go_ ?_; exact o1_Jr
   | some fp =>
    obtain ⟨f2, p2⟩ := fp
    obtain ⟨hq1, hq2, hq3, hq4⟩ := takeL_some ht2 h.okb
    rw [ht2, TkA_yes] at htk2
    refine slc_ rfl rfl sub_ htk2 ?_; rintro ⟨B2, cb2⟩ -
    by_cases hc1 : f2 ≠ left
    ·rw [show X = none from by rw [hgo, goL, ht2]; simp only [hc1, false_and, if_false]; rfl, RcA_no]; refine go_ ?_; refine al_ ?_; intro g12; refine go_ ?_; exact o1_Jr
    replace hc1 := Classical.not_not.1 hc1
    by_cases hc2 : out.length ≠ (i + 1) * 48
    ·rw [show X = none from by rw [hgo, goL, ht2]; simp only [hc2, and_false, if_false]; rfl, RcA_no]; refine go_ ?_; refine al_ ?_; intro g12; refine go_ ?_; exact o1_Jr
    replace hc2 := Classical.not_not.1 hc2
    rw [goL, ht2] at hgo
    simp only [hc1, hc2, and_self, if_true] at hgo
    rw [show left = f - (i + 1) by omega] at hgo
    refine go_ ?_; refine al_ ?_; intro g12; refine go_ ?_
    by_cases hp0 : p2.length = 0
    ·obtain rfl : p2 = [] := List.eq_nil_of_length_eq_zero hp0
     rw [List.append_nil] at hgo
     refine dr_ [blk g12 197 [.int .i64 f2, .slice B2 ([] : List Int).length cb2]] 10 ?_; refine y4_ 0 1 2 3 ?_; refine y4_ 4 5 6 7 ?_; refine w1_ 8 ?_; refine sl_app_none rfl (by omega) rfl rfl Tryz.info5 rfl ?_; refine vy_ 9 ?_; refine wx_ ?_; refine go_ ?_; exact se_round ⟨i + 1, out, B, out.length, db⟩ has_ sub_ ⟨hlt, hgo, ⟨Nat.le_refl _, Nat.le_trans hcb.1 hcb.2⟩, by show out.length ≤ 48 * (i + 1 + 1); omega⟩ (by show f - (i + 1) < f - i; omega)
    ·refine dr_ [blk g12 197 [.int .i64 f2, .slice B2 p2.length cb2]] 10 ?_; refine y4_ 0 1 2 3 ?_; refine y4_ 4 5 6 7 ?_; refine w1_ 8 ?_; refine sl_app_full rfl (Vw.of_own (e := 5) (c := db) at_) (by omega) rfl (Vw.of_own (e := 5) (c := cb2) at_) (by omega) rfl Tryz.info5 (by decide) rfl (by unfold maxLen; omega) (by omega) ?_; intro g3 c3; rw [← bytes_app, ← List.length_append]; refine sl_know (fun w hw => (own_len (e := 5) (size := 1) (A := some ⟨g3, 0, none⟩) hw at_).2) ?_; rintro ⟨l3, l4⟩; refine vy_ 9 ?_; refine wx_ ?_; refine go_ ?_; exact se_round ⟨i + 1, out ++ p2, some ⟨g3, 0, none⟩, c3, c3⟩ has_ sub_ ⟨hlt, hgo, ⟨l3, l4⟩, by show (out ++ p2).length ≤ 48 * (i + 1 + 1); rw [List.length_append]; omega⟩ (by show f - (i + 1) < f - i; omega)
  obtain rfl : i = f := by omega
  rw [Nat.sub_self, goL] at hgo
  rw [show X = some (out, i + 1) from hgo, RcA_yes, show ((i + 1 : Nat) : Int) = (i : Int) + 1 by omega]; refine go_ ?_
  ((refine sq_region (by kernel_rfl) (by kernel_rfl) ?_; (repeat refine rq_ ?_); refine sq_end ?_))
  refine go_ ?_; exact se_ret3 (B, cb, db) hcb rfl rfl rfl rfl rfl sub_
end
attribute [local irreducible] recordL
section
structure Sx where
 A : Option Addr
 c : Nat
 d : Nat
 l : List Int
def Sx.v (s : Sx) : Value := .slice s.A s.l.length s.c
abbrev Sx.fa (s : Sx) : Fa := u8o s.A s.d s.l
def Sx.ok (s : Sx) : Prop := (s.l.length ≤ s.c ∧ s.c ≤ maxLen) ∧ s.l.length ≤ 1000000 ∧ IsBytes s.l
def sxO (xs : List Sx) : List Fa := xs.map Sx.fa
def sxV (xs : List Sx) : List Value := xs.map Sx.v
theorem star_snoc {f : Fa} {G K : List Fa} : Ent_ (f :: star G :: K) (star (G ++ [f]) :: K) := fun w hw => by
 refine star_in w ?_; rw [List.append_assoc, List.singleton_append]; refine (pick_mid G).back w ?_
 have h1 : Sep w (star G :: f :: K) := hw.sub (.cons (.there .here) (.cons .here .refl))
 exact (pick_mid G).out w ((pick_mid G).back w ((Ent_.trans star_out (fun w hw => hw) w h1 : Sep w (G ++ f :: K)) |> (pick_mid G).out w))
def chainL (bs : List Int) : Nat → Option (Nat × List (List Int))
 | 0 => some (0, [])
 | n + 1 => match chainL bs n with
  | some (k, out) => match recordL bs k with
   | some (x, m) => some (k + m, out ++ [x])
   | none => none
  | none => none
theorem chain_none {bs : List Int} {n : Nat} (h : chainL bs n = none) : ∀ j, chainL bs (n + j) = none
 | 0 => h
 | j + 1 => by rw [← Nat.add_assoc, chainL, chain_none h j]
theorem chain_end {bs : List Int} {n n' k k' : Nat} {out out' : List (List Int)} (h : chainL bs n = some (k, out)) (h2 : recordL bs k = none) (h' : chainL bs n' = some (k', out')) (h2' : recordL bs k' = none) : k = k' ∧ out = out' := by
 have e1 : chainL bs (n + 1) = none := by rw [chainL, h]; simp only [h2]
 have e2 : chainL bs (n' + 1) = none := by rw [chainL, h']; simp only [h2']
 rcases Nat.lt_trichotomy n n' with hl | hl | hl
 ·have := chain_none e1 (n' - (n + 1))
  rw [show n + 1 + (n' - (n + 1)) = n' by omega, h'] at this
  cases this
 ·subst hl
  rw [h] at h'
  injection h' with h'
  injection h' with a b
  exact ⟨a, b⟩
 ·have := chain_none e2 (n - (n' + 1))
  rw [show n' + 1 + (n - (n' + 1)) = n by omega, h] at this
  cases this
theorem goL_some {bs : List Int} {k : Nat} (hb : IsBytes bs) : ∀ {left i : Nat} {out r : List Int}, goL bs k left i out = some r → IsBytes out → out.length ≤ 48 * (i + 1) → (k + 1 + i) * 64 ≤ bs.length → IsBytes r ∧ r.length ≤ 48 * (i + left + 1) ∧ (k + 1 + i + left) * 64 ≤ bs.length
 | 0, i, out, r, h, h1, h2, h3 => by
  rw [goL] at h
  injection h with h
  subst h; exact ⟨h1, h2, h3⟩
 | left + 1, i, out, r, h, h1, h2, h3 => by
  rw [goL] at h
  cases ht : takeL bs (k + 1 + i) with
  | none => rw [ht] at h; cases h
  | some fp =>
   obtain ⟨f, p⟩ := fp
   rw [ht] at h
   obtain ⟨t1, t2, t3, t4⟩ := takeL_some ht hb
   clear ht
   by_cases hc : f = left ∧ out.length = (i + 1) * 48
   ·replace h : goL bs k left (i + 1) (out ++ p) = some r := (if_pos hc).symm.trans h
    have e1 : (out ++ p).length ≤ 48 * (i + 1 + 1) := by rw [List.length_append]; omega
    have e2 : (k + 1 + (i + 1)) * 64 ≤ bs.length := by omega
    have r := goL_some (bs := bs) (k := k) hb (left := left) (i := i + 1) (out := out ++ p) (r := r) h (IsBytes.app h1 t3) e1 e2
    obtain ⟨r1, r2, r3⟩ := r
    refine ⟨r1, ?_, ?_⟩
    ·clear r3 e1 e2 t4 h3 h2 t1 t2 hc h; omega
    ·clear r2 e1 e2 t4 h3 h2 t1 t2 hc h; omega
   ·have h' : none = some r := (if_neg hc).symm.trans h
    cases h'
attribute [local semireducible] recordL in
theorem recordL_some {bs : List Int} {k m : Nat} {x : List Int} (h : recordL bs k = some (x, m)) (hb : IsBytes bs) : 1 ≤ m ∧ m ≤ 1366 ∧ (k + m) * 64 ≤ bs.length ∧ x.length ≤ 48 * m ∧ IsBytes x := by
 unfold recordL at h
 split at h
 ·rename_i f p ht
  obtain ⟨t1, t2, t3, t4⟩ := takeL_some ht hb
  split at h
  ·cases hg : goL bs k f 0 p with
   | none => rw [hg] at h; cases h
   | some r =>
    rw [hg] at h
    injection h with h
    injection h with a b
    subst a b
    obtain ⟨g1, g2, g3⟩ := goL_some hb hg t3 (by omega) (by omega)
    exact ⟨by omega, by omega, by omega, by omega, g1⟩
  ·cases h
 ·cases h
def tornB (bs : List Int) (a : Nat) : Nat → Bool
 | 0 => false
 | k + 1 => tornB bs a k || (takeL bs (a + k)).isNone
def haltB (bs : List Int) (a : Nat) : Nat → Bool
 | 0 => false
 | k + 1 => haltB bs a k || ((takeL bs (a + k)).isSome && tornB bs a k)
def cutN (bs : List Int) : Nat := (bs.length + 63) / 64
end
end
end Go.Proofs.YtocaabnbmcpjmaaGreat
